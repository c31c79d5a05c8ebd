/- orphan.label and orphan.fits. No statement of the seat is proved here. -/
import Derived.Test.YtcljdkjlfciacaaSent
namespace Go.Proofs.Ytcljdkjlfciacaa
open Go.RowKit
set_option linter.unusedVariables false

set_option maxHeartbeats 1600000 in
theorem olabel_any (A : Option Addr) (c : Nat) (es : List Ev) (idx : Int) (w : World) (hs : EvSeg w A es) (hc : es.length ≤ c) (hm : c ≤ maxLen) :
    Calls Try.prog 61 #[.slice A es.length c, .int .i64 idx] w (LblPost es idx w) := by
  unfold maxLen at hm
  have HL : Hid (lblV es idx = if idx < 0 ∨ (es.length : Int) < idx then (0, 0, false) else if idx = 0 then (0, 0, true) else ((es.getD (idx - 1).toNat zEv).inc, idx, true)) := rfl
  have HP : Hid (∀ e w', LblPost es idx w e w' = (e = .returned (.tuple #[.agg #[.int .i64 (lblV es idx).1, .int .i64 (lblV es idx).2.1], .bool (lblV es idx).2.2]) ∧ Ext w w')) := fun _ _ => rfl
  by_cases h1 : idx < 0
  · rw [if_pos (.inl h1)] at HL
    have d1 : decide (idx < 0) = true := decide_eq_true h1
    go_enter Try.func61, Try.ntmps61
    go_wp2_with fail
    refine bodyPost_ret (v := .tuple #[.agg #[.int .i64 0, .int .i64 0], .bool false]) (by simp [results, Try.results61, go_sem, *]) rfl ?_
    exact ⟨by rw [HL.out], by repeat (first | with_reducible exact Ext.refl _ | with_reducible refine Ext.allocs ?_ _ | with_reducible refine Ext.set ?_ (by simp) _)⟩
  · have d1 : decide (idx < 0) = false := decide_eq_false h1
    by_cases h2 : (es.length : Int) < idx
    · rw [if_pos (.inr h2)] at HL
      have d2 : decide ((es.length : Int) < idx) = true := decide_eq_true h2
      go_enter Try.func61, Try.ntmps61
      go_wp2_with fail
      refine bodyPost_ret (v := .tuple #[.agg #[.int .i64 0, .int .i64 0], .bool false]) (by simp [results, Try.results61, go_sem, *]) rfl ?_
      exact ⟨by rw [HL.out], by repeat (first | with_reducible exact Ext.refl _ | with_reducible refine Ext.allocs ?_ _ | with_reducible refine Ext.set ?_ (by simp) _)⟩
    · have d2 : decide ((es.length : Int) < idx) = false := decide_eq_false h2
      rw [if_neg (by omega)] at HL
      by_cases h0 : idx = 0
      · subst h0
        rw [if_pos rfl] at HL
        go_enter Try.func61, Try.ntmps61
        go_wp2_with fail
        refine bodyPost_ret (v := .tuple #[.agg #[.int .i64 0, .int .i64 0], .bool true]) (by simp [results, Try.results61, go_sem, *]) rfl ?_
        exact ⟨by rw [HL.out], by repeat (first | with_reducible exact Ext.refl _ | with_reducible refine Ext.allocs ?_ _ | with_reducible refine Ext.set ?_ (by simp) _)⟩
      · rw [if_neg h0] at HL
        have h0' : (idx == 0) = false := by simp [h0]
        obtain ⟨k, hk⟩ : ∃ k : Nat, idx = (k : Int) + 1 := ⟨(idx - 1).toNat, by omega⟩
        have hkl : k < es.length := by omega
        have hX := (Ext.refl w).allocs (.cells #[.int .i64 0, .int .i64 0] 59)
        obtain ⟨b, off, rfl, p0, p1, p2, p3, p4, p5, p6⟩ := Ev.at_ (hs.ext hX) hkl
        have HK : Hid ((es.getD (idx - 1).toNat zEv).inc = es[k].inc) := by
          show (es.getD (idx - 1).toNat zEv).inc = es[k].inc
          rw [show (idx - 1).toNat = k by omega, List.getD_eq_getElem?_getD, List.getElem?_eq_getElem hkl]; rfl
        rw [HK.out] at HL
        generalize es[k] = x at *
        subst hk
        clear p0 p2 p3 p4 p5 p6 h0 hs HK
        have hw1 : IntKind.i64.wrap ((k : Int) + 1 - 1) = (k : Int) := by rw [show (k : Int) + 1 - 1 = (k : Int) by omega]; exact IntWalk.i64_in _ (by omega)
        go_enter Try.func61, Try.ntmps61
        go_wp2_with fail
        refine bodyPost_ret (v := .tuple #[.agg #[.int .i64 x.inc, .int .i64 ((k : Int) + 1)], .bool true]) (by simp [results, Try.results61, go_sem, *]) rfl ?_
        exact ⟨by rw [HL.out], by repeat (first | with_reducible exact Ext.refl _ | with_reducible refine Ext.allocs ?_ _ | with_reducible refine Ext.set ?_ (by simp) _)⟩

/-- an event can be in a cut -/
def fitsB (L : Lin) (X : List Int) (q : Int) (e : Ev) : Bool := (e.kind != 1) || (decide (0 ≤ e.frm) && (decide (e.frm < (L.length : Int)) && ((e.frm != q) && (decide (e.sidx ≤ elX X e.frm.toNat) && labB (rowL L e.frm.toNat) e.sinc e.sidx))))
set_option maxRecDepth 100000 in
set_option maxHeartbeats 3200000 in
theorem fits_any (A : Option Addr) (cA : Nat) (R : List Rw) (B : Option Addr) (cB : Nat) (X : List Int) (q : Int) (e : Ev) (w : World) (hs : LinSeg w A R) (hn : R.length ≤ 1000) (hX0 : IntSeg w B X) (hXl : Hid (X.length = R.length)) :
    Calls Try.prog 47 #[.slice A R.length cA, .slice B R.length cB, .int .i64 q, .agg #[.int .i64 e.kind, .int .i64 e.inc, .int .i64 e.frm, .int .i64 e.sinc, .int .i64 e.sidx, .int .i64 e.ord, .int .i64 e.val]] w
      (ExtPost w (.bool (fitsB (evsL R) X q e))) := by
  obtain ⟨res, hres⟩ : ∃ res, fitsB (evsL R) X q e = res := ⟨_, rfl⟩
  rw [hres]
  have HR : Hid (((e.kind != 1) || (decide (0 ≤ e.frm) && (decide (e.frm < (R.length : Int)) && ((e.frm != q) && (decide (e.sidx ≤ elX X e.frm.toNat) && labB (rowL (evsL R) e.frm.toNat) e.sinc e.sidx))))) = res) := by
    show _ = res
    rw [← hres]
    unfold fitsB
    rw [evsL_len]
  clear hres
  have hX := (Ext.refl w).allocs (.cells e.cells.toArray 61)
  have hB := Blk.new w 61 e.cells.toArray
  obtain ⟨b0, b1, b2, b3, b4, b5, b6⟩ := ev7 hB
  have hs1 := hs.ext hX
  have hX1 := hX0.ext hX
  obtain ⟨w1, e1⟩ : ∃ w1, w.alloc (.cells e.cells.toArray 61) = w1 := ⟨_, rfl⟩
  have HW := Lib.hid e1
  rw [e1] at hX hB b0 b1 b2 b3 b4 b5 b6 hs1 hX1
  clear e1 hs hX0
  by_cases hk : e.kind = 1
  rotate_left
  · have dk : (e.kind != 1) = true := by simp [hk]
    have HF : Hid (res = true) := by show res = true; rw [← HR.out, dk]; rfl
    clear hk
    go_enter Try.func47, Try.ntmps47
    go_wp2_with fail
    go_ret
    exact ⟨by rw [HF.out]; rfl, by have e := HW.out; unfold Ev.cells at e; rw [e]; exact hX⟩
  have dk : (e.kind != 1) = false := by simp [hk]
  rw [dk, Bool.false_or] at HR
  clear hk
  by_cases h1 : e.frm < 0
  · have d1 : decide (e.frm < 0) = true := decide_eq_true h1
    have HF : Hid (res = false) := by show res = false; rw [← HR.out, decide_eq_false (show ¬ 0 ≤ e.frm by omega)]; rfl
    go_enter Try.func47, Try.ntmps47
    go_upto_region 3 with fail
    have e' := HW.out
    unfold Ev.cells at e'
    rw [e']
    clear e'
    go_quiet (fail)
    go_wp2_with fail
    go_ret
    exact ⟨by rw [HF.out]; rfl, hX.drewN nq⟩
  by_cases h2 : (R.length : Int) ≤ e.frm
  · have d1 : decide (e.frm < 0) = false := decide_eq_false h1
    have d2 : decide ((R.length : Int) ≤ e.frm) = true := decide_eq_true h2
    have HF : Hid (res = false) := by show res = false; rw [← HR.out, decide_eq_false (show ¬ e.frm < (R.length : Int) by omega)]; simp
    go_enter Try.func47, Try.ntmps47
    go_upto_region 3 with fail
    have e' := HW.out
    unfold Ev.cells at e'
    rw [e']
    clear e'
    go_quiet (fail)
    go_wp2_with fail
    go_ret
    exact ⟨by rw [HF.out]; rfl, hX.drewN nq⟩
  have d1 : decide (e.frm < 0) = false := decide_eq_false h1
  have d2 : decide ((R.length : Int) ≤ e.frm) = false := decide_eq_false h2
  by_cases h3 : e.frm = q
  · have d3 : (e.frm == q) = true := by simp [h3]
    have HF : Hid (res = false) := by show res = false; rw [← HR.out, show (e.frm != q) = false by simp [h3]]; simp
    clear h3
    go_enter Try.func47, Try.ntmps47
    go_upto_region 3 with fail
    have e' := HW.out
    unfold Ev.cells at e'
    rw [e']
    clear e'
    go_quiet (fail)
    go_wp2_with fail
    go_ret
    exact ⟨by rw [HF.out]; rfl, hX.drewN nq⟩
  have d3 : (e.frm == q) = false := by simp [h3]
  have hkR : e.frm.toNat < R.length := by omega
  obtain ⟨bX, oX, rfl, pX⟩ := Iv.at_ hX1 (show e.frm.toNat < X.length by rw [hXl.out]; exact hkR)
  have pX' := pX
  rw [← elX_at (show e.frm.toNat < X.length by rw [hXl.out]; exact hkR)] at pX'
  clear pX
  have hkI0 : (0 : Int) ≤ e.frm := by omega
  have hkI1 : e.frm < (R.length : Int) := by omega
  by_cases h4 : elX X e.frm.toNat < e.sidx
  · have d4 : decide (elX X e.frm.toNat < e.sidx) = true := decide_eq_true h4
    have HF : Hid (res = false) := by show res = false; rw [← HR.out, decide_eq_false (show ¬ e.sidx ≤ elX X e.frm.toNat by omega)]; simp
    clear h3
    go_enter Try.func47, Try.ntmps47
    go_upto_region 3 with fail
    have e' := HW.out
    unfold Ev.cells at e'
    rw [e']
    clear e'
    go_quiet (fail)
    go_wp2_with fail
    go_ret
    exact ⟨by rw [HF.out]; rfl, hX.drewN nq⟩
  have d4 : decide (elX X e.frm.toNat < e.sidx) = false := decide_eq_false h4
  have HF : Hid (res = labB (R[e.frm.toNat]).es e.sinc e.sidx) := by
    show res = _
    rw [← HR.out, decide_eq_true (show 0 ≤ e.frm by omega), decide_eq_true (show e.frm < (R.length : Int) by omega), show (e.frm != q) = true by simp [h3], decide_eq_true (show e.sidx ≤ elX X e.frm.toNat by omega), evsL_row hkR]
    rfl
  clear HR h3
  go_enter Try.func47, Try.ntmps47
  go_upto_region 3 with fail
  have e' := HW.out
  unfold Ev.cells at e'
  rw [e']
  clear e'
  go_quiet (fail)
  clear b0 b1 b2 b3 b4 b5 b6 pX'
  have hX := hX.drewN nq
  have hB : Blk (w1.drewN nq) w.heap.size 61 e.cells.toArray := hB.ext (Ext.drewn w1 nq)
  have hs1 := hs1.ext (Ext.drewn w1 nq)
  obtain ⟨b0, b1, b2, b3, b4, b5, b6⟩ := ev7 hB
  clear hX1
  generalize w1.drewN nq = w1 at *
  obtain ⟨b, off, rfl, pr⟩ := hs1.at_ hkR
  obtain ⟨hr, hrc, hrm⟩ := hs1.row hkR
  generalize R[e.frm.toNat] = r at *
  have HLB : Hid (labB r.es e.sinc e.sidx = ((lblV r.es e.sidx).2.2 && ((lblV r.es e.sidx).1 == e.sinc && (lblV r.es e.sidx).2.1 == e.sidx))) := labB_lbl _ _ _
  have HLA := Lib.hid (fun W h => olabel_any r.A r.c r.es e.sidx W h hrc hrm)
  unfold LblPost at HLA
  generalize lblV r.es e.sidx = lv at *
  obtain ⟨l1, l2, l3⟩ := lv
  have hS : Sent2 w1 w.heap.size e ⟨b, off + e.frm.toNat, none⟩ (.slice r.A r.es.length r.c) := ⟨hB, pr⟩
  have hz1 : w.heap.size < w1.heap.size := hB.lt
  have hz2 : b < w1.heap.size := World.block_lt_of_cell? _ _ pr
  clear hs1 hrm hrc
  go_upto_region 5 with fail
  go_region_held3 (fun w' => (w'.cell? ⟨w.heap.size, 0, none⟩ = some (.int .i64 e.kind) ∧ w'.cell? ⟨w.heap.size, 1, none⟩ = some (.int .i64 e.inc) ∧ w'.cell? ⟨w.heap.size, 2, none⟩ = some (.int .i64 e.frm) ∧ w'.cell? ⟨w.heap.size, 3, none⟩ = some (.int .i64 e.sinc) ∧ w'.cell? ⟨w.heap.size, 4, none⟩ = some (.int .i64 e.sidx) ∧ w'.cell? ⟨w.heap.size, 5, none⟩ = some (.int .i64 e.ord) ∧ w'.cell? ⟨w.heap.size, 6, none⟩ = some (.int .i64 e.val)) ∧ w'.cell? ⟨b, off + e.frm.toNat, none⟩ = some (.slice r.A r.es.length r.c))
    (first | (refine Sent2.keep ?_; (repeat (first | with_reducible refine Sent2.drew ?_ | with_reducible refine Sent2.alloc ?_ _ | with_reducible refine Sent2.set ?_ (by omega) (by omega) _)); (first | with_reducible exact hS | with_reducible exact hSB)))
    (first
      | (go_at_call 61; refine (HLA.out _ (by repeat (first | with_reducible exact hr | with_reducible refine Seg.drew ?_ | with_reducible refine Seg.alloc ?_ _))).mono ?_; rintro e' w2 ⟨rfl, hE2⟩; have hSB : Sent2 w2 w.heap.size e ⟨b, off + e.frm.toNat, none⟩ (.slice r.A r.es.length r.c) := Sent2.ext (by repeat (first | with_reducible exact hS | with_reducible refine Sent2.drew ?_ | with_reducible refine Sent2.alloc ?_ _)) hE2; have hX2 : Ext w w2 := Ext.trans (by repeat (first | with_reducible exact hX | with_reducible refine Below.drew ?_ | with_reducible refine Ext.allocs ?_ _)) hE2; (first | (have hBL : Blk w2 w1.heap.size 59 #[.int .i64 0, .int .i64 0] := Blk.ext (Blk.new w1.drew 59 #[.int .i64 0, .int .i64 0]) hE2; obtain ⟨c0, c1⟩ := blk2 hBL; have f0 := hBL.frozen 0; have f1 := hBL.frozen 1) | skip)))
  · have hS4 := hSB.alloc (.cells #[.int .i64 l1, .int .i64 l2] 59)
    have hB4 := Blk.new w2 59 #[.int .i64 l1, .int .i64 l2]
    have hX4 := hX2.allocs (.cells #[.int .i64 l1, .int .i64 l2] 59)
    obtain ⟨W4, hW4⟩ : ∃ W4, w2.alloc (.cells #[.int .i64 l1, .int .i64 l2] 59) = W4 := ⟨_, rfl⟩
    rw [hW4] at hS4 hB4 hX4 ⊢
    clear hW4 b0 b1 b2 b3 b4 b5 b6 hS hSB hX2 hE2 hX hr pr hB HLA
    obtain ⟨⟨s0, s1, s2, s3, s4, s5, s6⟩, _⟩ := hS4.keep
    obtain ⟨c0, c1⟩ := blk2 hB4
    rcases l3 with _ | _
    · go_wp2_with fail
      go_ret
      exact ⟨by rw [HF.out, HLB.out]; rfl, hX4⟩
    · go_wp2_with fail
      all_goals
        go_ret
        refine ⟨?_, hX4⟩
        rw [HF.out, HLB.out]
        first | rfl | (simp [*]; done) | (simp_all; done)
  · have hS4 := (hSB.set (o := 0) hz1 hz2 (.int .i64 l1)).set (o := 1) hz1 hz2 (.int .i64 l2)
    have hB4 := hBL.sets2 (.int .i64 l1) (.int .i64 l2)
    have hX4 : Ext w ((w2.setCell ⟨w1.heap.size, 0, none⟩ (.int .i64 l1)).setCell ⟨w1.heap.size, 1, none⟩ (.int .i64 l2)) := (hX2.set (by omega) _).set (by omega) _
    clear c0 c1 f0 f1 hBL
    obtain ⟨W4, hW4⟩ : ∃ W4, (w2.setCell ⟨w1.heap.size, 0, none⟩ (.int .i64 l1)).setCell ⟨w1.heap.size, 1, none⟩ (.int .i64 l2) = W4 := ⟨_, rfl⟩
    rw [hW4] at hS4 hB4 hX4 ⊢
    clear hW4 b0 b1 b2 b3 b4 b5 b6 hS hSB hX2 hE2 hX hr pr hB HLA
    obtain ⟨⟨s0, s1, s2, s3, s4, s5, s6⟩, _⟩ := hS4.keep
    obtain ⟨c0, c1⟩ := blk2 hB4
    rcases l3 with _ | _
    · go_wp2_with fail
      go_ret
      exact ⟨by rw [HF.out, HLB.out]; rfl, hX4⟩
    · go_wp2_with fail
      all_goals
        go_ret
        refine ⟨?_, hX4⟩
        rw [HF.out, HLB.out]
        first | rfl | (simp [*]; done) | (simp_all; done)

end Go.Proofs.Ytcljdkjlfciacaa
