/- sent of package commit, size of the law. No statement of the seat is proved here. -/
import Derived.Test.YtcljdkjlfciacaaPast1
namespace Go.Proofs.Ytcljdkjlfciacaa
open Go.RowKit
set_option linter.unusedVariables false

/-- the block of an event, and a cell beside it -/
def Sent2 (W : World) (g : Nat) (e : Ev) (a : Addr) (v : Value) : Prop := Blk W g 61 e.cells.toArray ∧ W.cell? a = some v
theorem ev7 {W : World} {g : Nat} {t : TypeId} {e : Ev} (h : Blk W g t e.cells.toArray) : W.cell? ⟨g, 0, none⟩ = some (.int .i64 e.kind) ∧ W.cell? ⟨g, 1, none⟩ = some (.int .i64 e.inc) ∧ W.cell? ⟨g, 2, none⟩ = some (.int .i64 e.frm) ∧ W.cell? ⟨g, 3, none⟩ = some (.int .i64 e.sinc) ∧ W.cell? ⟨g, 4, none⟩ = some (.int .i64 e.sidx) ∧ W.cell? ⟨g, 5, none⟩ = some (.int .i64 e.ord) ∧ W.cell? ⟨g, 6, none⟩ = some (.int .i64 e.val) := by
  refine ⟨?_, ?_, ?_, ?_, ?_, ?_, ?_⟩ <;> rw [h.cell] <;> rfl
theorem Sent2.keep {W : World} {g : Nat} {e : Ev} {a : Addr} {v : Value} (h : Sent2 W g e a v) : (W.cell? ⟨g, 0, none⟩ = some (.int .i64 e.kind) ∧ W.cell? ⟨g, 1, none⟩ = some (.int .i64 e.inc) ∧ W.cell? ⟨g, 2, none⟩ = some (.int .i64 e.frm) ∧ W.cell? ⟨g, 3, none⟩ = some (.int .i64 e.sinc) ∧ W.cell? ⟨g, 4, none⟩ = some (.int .i64 e.sidx) ∧ W.cell? ⟨g, 5, none⟩ = some (.int .i64 e.ord) ∧ W.cell? ⟨g, 6, none⟩ = some (.int .i64 e.val)) ∧ W.cell? a = some v := ⟨ev7 h.1, h.2⟩
theorem Sent2.ext {W W' : World} {g : Nat} {e : Ev} {a : Addr} {v : Value} (h : Sent2 W g e a v) (hE : Ext W W') : Sent2 W' g e a v := ⟨h.1.ext hE, by rw [hE.cell (World.block_lt_of_cell? _ _ h.2)]; exact h.2⟩
theorem Sent2.alloc {W : World} {g : Nat} {e : Ev} {a : Addr} {v : Value} (h : Sent2 W g e a v) (o : Obj) : Sent2 (W.alloc o) g e a v := h.ext ((Ext.refl W).allocs o)
theorem Sent2.drew {W : World} {g : Nat} {e : Ev} {a : Addr} {v : Value} (h : Sent2 W g e a v) : Sent2 W.drew g e a v := h

theorem Sent2.set {W : World} {g g' o : Nat} {e : Ev} {b i : Nat} {v : Value} (h : Sent2 W g e ⟨b, i, none⟩ v) (h1 : g < g') (h2 : b < g') (u : Value) : Sent2 (W.setCell ⟨g', o, none⟩ u) g e ⟨b, i, none⟩ v :=
  ⟨(Below.heap_setCell W ⟨g', o, none⟩ u g (by show g ≠ g'; omega)).trans h.1, (World.cell?_of_block (w := W) (a := ⟨b, i, none⟩) (Below.heap_setCell W ⟨g', o, none⟩ u b (by show b ≠ g'; omega))).trans h.2⟩
theorem eql_lab (w : World) (a b c d : Int) : (binOp .eql 59 (.agg #[.int .i64 a, .int .i64 b]) (.agg #[.int .i64 c, .int .i64 d])).run Try.prog w = .ok (.bool (a == c && b == d)) w := by
  simp only [binOp]
  by_cases h0 : a = c
  rotate_left
  · have g0 : (a == c) = false := by simp [h0]
    simp [Op.equal, Op.maxDepth, go_sem, g0]
  subst h0
  by_cases h1 : b = d
  rotate_left
  · have g1 : (b == d) = false := by simp [h1]
    simp [Op.equal, Op.maxDepth, go_sem, g1]
  subst h1
  simp [Op.equal, Op.maxDepth, go_sem]
theorem Blk.sets2 {w : World} {g : Nat} {t : TypeId} {a b : Value} (h : Blk w g t #[a, b]) (x y : Value) : Blk ((w.setCell ⟨g, 0, none⟩ x).setCell ⟨g, 1, none⟩ y) g t #[x, y] := by
  unfold Blk at *
  simp [World.setCell, Array.getElem?_modify, h]
theorem labB_lbl (es : List Ev) (inc idx : Int) : labB es inc idx = ((lblV es idx).2.2 && ((lblV es idx).1 == inc && (lblV es idx).2.1 == idx)) := by
  unfold labB lblV
  by_cases h0 : idx = 0
  · subst h0
    rw [if_pos rfl, if_neg (by omega), if_pos rfl]
    simp only [Bool.true_and, beq_self_eq_true, Bool.and_true]
    exact Bool.eq_iff_iff.2 (by simp only [beq_iff_eq]; omega)
  · rw [if_neg h0]
    by_cases h1 : idx < 0 ∨ (es.length : Int) < idx
    · rw [if_pos h1]
      rcases h1 with h1 | h1
      · rw [decide_eq_false (show ¬ 0 < idx by omega)]; rfl
      · rw [decide_eq_false (show ¬ idx ≤ (es.length : Int) by omega)]; simp
    · rw [if_neg h1, if_neg h0, decide_eq_true (show 0 < idx by omega), decide_eq_true (show idx ≤ (es.length : Int) by omega)]
      simp only [Bool.true_and, beq_self_eq_true, Bool.and_true]

set_option maxRecDepth 100000 in
set_option maxHeartbeats 3200000 in
theorem sent_any (A : Option Addr) (cA : Nat) (R : List Rw) (q : Int) (e : Ev) (w : World) (hs : LinSeg w A R) (hn : R.length ≤ 1000) :
    Calls Try.prog 33 #[.slice A R.length cA, .int .i64 q, .agg #[.int .i64 e.kind, .int .i64 e.inc, .int .i64 e.frm, .int .i64 e.sinc, .int .i64 e.sidx, .int .i64 e.ord, .int .i64 e.val]] w
      (ExtPost w (.bool (decide (0 ≤ e.frm) && (decide (e.frm < (R.length : Int)) && ((e.frm != q) && labB (rowL (evsL R) e.frm.toNat) e.sinc e.sidx))))) := by
  obtain ⟨res, hres⟩ : ∃ res, (decide (0 ≤ e.frm) && (decide (e.frm < (R.length : Int)) && ((e.frm != q) && labB (rowL (evsL R) e.frm.toNat) e.sinc e.sidx))) = res := ⟨_, rfl⟩
  rw [hres]
  have HR := Lib.hid hres
  clear hres
  have hX := (Ext.refl w).allocs (.cells e.cells.toArray 61)
  have hB := Blk.new w 61 e.cells.toArray
  obtain ⟨b0, b1, b2, b3, b4, b5, b6⟩ := ev7 hB
  have hs1 := hs.ext hX
  obtain ⟨w1, e1⟩ : ∃ w1, w.alloc (.cells e.cells.toArray 61) = w1 := ⟨_, rfl⟩
  have HW := Lib.hid e1
  rw [e1] at hX hB b0 b1 b2 b3 b4 b5 b6 hs1
  clear e1 hs
  by_cases h1 : e.frm < 0
  · have d1 : decide (e.frm < 0) = true := decide_eq_true h1
    have HF : Hid (res = false) := by show res = false; rw [← HR.out, decide_eq_false (show ¬ 0 ≤ e.frm by omega)]; rfl
    go_enter Try.func33, Try.ntmps33
    go_wp2_with fail
    go_ret
    exact ⟨by rw [HF.out]; rfl, by have e := HW.out; unfold Ev.cells at e; rw [e]; exact hX⟩
  by_cases h2 : (R.length : Int) ≤ e.frm
  · have d1 : decide (e.frm < 0) = false := decide_eq_false h1
    have d2 : decide ((R.length : Int) ≤ e.frm) = true := decide_eq_true h2
    have HF : Hid (res = false) := by show res = false; rw [← HR.out, decide_eq_false (show ¬ e.frm < (R.length : Int) by omega)]; simp
    go_enter Try.func33, Try.ntmps33
    go_wp2_with fail
    go_ret
    exact ⟨by rw [HF.out]; rfl, by have e := HW.out; unfold Ev.cells at e; rw [e]; exact hX⟩
  have d1 : decide (e.frm < 0) = false := decide_eq_false h1
  have d2 : decide ((R.length : Int) ≤ e.frm) = false := decide_eq_false h2
  by_cases h3 : e.frm = q
  · have d3 : (e.frm == q) = true := by simp [h3]
    have HF : Hid (res = false) := by show res = false; rw [← HR.out, show (e.frm != q) = false by simp [h3]]; simp
    clear h3
    go_enter Try.func33, Try.ntmps33
    go_wp2_with fail
    go_ret
    exact ⟨by rw [HF.out]; rfl, by have e := HW.out; unfold Ev.cells at e; rw [e]; exact hX⟩
  have d3 : (e.frm == q) = false := by simp [h3]
  have hkR : e.frm.toNat < R.length := by omega
  have HF : Hid (res = labB (R[e.frm.toNat]).es e.sinc e.sidx) := by
    show res = _
    rw [← HR.out, decide_eq_true (show 0 ≤ e.frm by omega), decide_eq_true (show e.frm < (R.length : Int) by omega), show (e.frm != q) = true by simp [h3], evsL_row hkR]
    rfl
  clear HR h3
  obtain ⟨b, off, rfl, pr⟩ := hs1.at_ hkR
  obtain ⟨hr, hrc, hrm⟩ := hs1.row hkR
  generalize R[e.frm.toNat] = r at *
  have HLB : Hid (labB r.es e.sinc e.sidx = ((lblV r.es e.sidx).2.2 && ((lblV r.es e.sidx).1 == e.sinc && (lblV r.es e.sidx).2.1 == e.sidx))) := labB_lbl _ _ _
  have HLA := Lib.hid (fun W h => label_any r.A r.c r.es e.sidx W h hrc hrm)
  unfold LblPost at HLA
  generalize lblV r.es e.sidx = lv at *
  obtain ⟨l1, l2, l3⟩ := lv
  have hS : Sent2 w1 w.heap.size e ⟨b, off + e.frm.toNat, none⟩ (.slice r.A r.es.length r.c) := ⟨hB, pr⟩
  have hkI0 : (0 : Int) ≤ e.frm := by omega
  have hkI1 : e.frm < (R.length : Int) := by omega
  have hz1 : w.heap.size < w1.heap.size := hB.lt
  have hz2 : b < w1.heap.size := World.block_lt_of_cell? _ _ pr
  clear hs1 hrm hrc
  go_enter Try.func33, Try.ntmps33
  go_upto_region 3 with fail
  have e' := HW.out
  unfold Ev.cells at e'
  rw [e']
  clear e' HW
  go_region_held3 (fun w' => (w'.cell? ⟨w.heap.size, 0, none⟩ = some (.int .i64 e.kind) ∧ w'.cell? ⟨w.heap.size, 1, none⟩ = some (.int .i64 e.inc) ∧ w'.cell? ⟨w.heap.size, 2, none⟩ = some (.int .i64 e.frm) ∧ w'.cell? ⟨w.heap.size, 3, none⟩ = some (.int .i64 e.sinc) ∧ w'.cell? ⟨w.heap.size, 4, none⟩ = some (.int .i64 e.sidx) ∧ w'.cell? ⟨w.heap.size, 5, none⟩ = some (.int .i64 e.ord) ∧ w'.cell? ⟨w.heap.size, 6, none⟩ = some (.int .i64 e.val)) ∧ w'.cell? ⟨b, off + e.frm.toNat, none⟩ = some (.slice r.A r.es.length r.c))
    (first | (refine Sent2.keep ?_; (repeat (first | with_reducible refine Sent2.drew ?_ | with_reducible refine Sent2.alloc ?_ _ | with_reducible refine Sent2.set ?_ (by omega) (by omega) _)); (first | with_reducible exact hS | with_reducible exact hSB)))
    (first
      | (go_at_call 53; refine (HLA.out _ (by repeat (first | with_reducible exact hr | with_reducible refine Seg.drew ?_ | with_reducible refine Seg.alloc ?_ _))).mono ?_; rintro e' w2 ⟨rfl, hE2⟩; have hSB : Sent2 w2 w.heap.size e ⟨b, off + e.frm.toNat, none⟩ (.slice r.A r.es.length r.c) := Sent2.ext (by repeat (first | with_reducible exact hS | with_reducible refine Sent2.drew ?_ | with_reducible refine Sent2.alloc ?_ _)) hE2; have hX2 : Ext w w2 := Ext.trans (by repeat (first | with_reducible exact hX | with_reducible refine Below.drew ?_ | with_reducible refine Ext.allocs ?_ _)) hE2; (first | (have hBL : Blk w2 w1.heap.size 59 #[.int .i64 0, .int .i64 0] := Blk.ext (Blk.new w1.drew 59 #[.int .i64 0, .int .i64 0]) hE2; obtain ⟨c0, c1⟩ := blk2 hBL; have f0 := hBL.frozen 0; have f1 := hBL.frozen 1) | skip)))
  · have hS4 := hSB.alloc (.cells #[.int .i64 l1, .int .i64 l2] 59)
    have hB4 := Blk.new w2 59 #[.int .i64 l1, .int .i64 l2]
    have hX4 := hX2.allocs (.cells #[.int .i64 l1, .int .i64 l2] 59)
    obtain ⟨W4, hW4⟩ : ∃ W4, w2.alloc (.cells #[.int .i64 l1, .int .i64 l2] 59) = W4 := ⟨_, rfl⟩
    rw [hW4] at hS4 hB4 hX4 ⊢
    clear hW4 b0 b1 b2 b3 b4 b5 b6 hS hSB hX2 hE2 hX hr pr hB HLA
    obtain ⟨⟨s0, s1, s2, s3, s4, s5, s6⟩, _⟩ := hS4.keep
    obtain ⟨c0, c1⟩ := blk2 hB4
    rcases l3 with _ | _
    · go_wp2_with fail
      go_ret
      exact ⟨by rw [HF.out, HLB.out]; rfl, hX4⟩
    · go_wp2_with fail
      all_goals
        go_ret
        refine ⟨?_, hX4⟩
        rw [HF.out, HLB.out]
        first | rfl | (simp [*]; done) | (simp_all; done)
  · have hS4 := (hSB.set (o := 0) hz1 hz2 (.int .i64 l1)).set (o := 1) hz1 hz2 (.int .i64 l2)
    have hB4 := hBL.sets2 (.int .i64 l1) (.int .i64 l2)
    have hX4 : Ext w ((w2.setCell ⟨w1.heap.size, 0, none⟩ (.int .i64 l1)).setCell ⟨w1.heap.size, 1, none⟩ (.int .i64 l2)) := (hX2.set (by omega) _).set (by omega) _
    clear c0 c1 f0 f1 hBL
    obtain ⟨W4, hW4⟩ : ∃ W4, (w2.setCell ⟨w1.heap.size, 0, none⟩ (.int .i64 l1)).setCell ⟨w1.heap.size, 1, none⟩ (.int .i64 l2) = W4 := ⟨_, rfl⟩
    rw [hW4] at hS4 hB4 hX4 ⊢
    clear hW4 b0 b1 b2 b3 b4 b5 b6 hS hSB hX2 hE2 hX hr pr hB HLA
    obtain ⟨⟨s0, s1, s2, s3, s4, s5, s6⟩, _⟩ := hS4.keep
    obtain ⟨c0, c1⟩ := blk2 hB4
    rcases l3 with _ | _
    · go_wp2_with fail
      go_ret
      exact ⟨by rw [HF.out, HLB.out]; rfl, hX4⟩
    · go_wp2_with fail
      all_goals
        go_ret
        refine ⟨?_, hX4⟩
        rw [HF.out, HLB.out]
        first | rfl | (simp [*]; done) | (simp_all; done)

/-- how size goes on -/
theorem szL_step (R : List Rw) (n : Int) : szL R n = match R with | [] => n | r :: R => if n ≤ 60 then szL R (IntKind.i64.wrap (n + (r.es.length : Int))) else n := by cases R <;> rfl
theorem szL_drop {R : List Rw} {j : Nat} (hj : j < R.length) (n : Int) (hn : n ≤ 60) : szL (R.drop j) n = szL (R.drop (j + 1)) (IntKind.i64.wrap (n + ((R[j]).es.length : Int))) := by
  rw [List.drop_eq_getElem_cons hj, szL, if_pos hn]
theorem szL_big {R : List Rw} {n : Int} (hn : ¬ n ≤ 60) : szL R n = n := by
  cases R with
  | nil => rfl
  | cons r R => rw [szL, if_neg hn]
set_option maxHeartbeats 1600000 in
theorem size_any (A : Option Addr) (cA : Nat) (R : List Rw) (w : World) (hs : LinSeg w A R) (hc : R.length ≤ cA) (hm : cA ≤ maxLen) :
    Calls Try.prog 10 #[.slice A R.length cA] w (ExtPost w (.int .i64 (szL R (R.length : Int)))) := by
  unfold maxLen at hm
  obtain ⟨res, hres⟩ : ∃ res, szL R (R.length : Int) = res := ⟨_, rfl⟩
  rw [hres]
  have HR := Lib.hid hres
  clear hres
  go_enter Try.func10, Try.ntmps10
  go_wp2_with fail
  go_loopg [3, 4] R.length (fun g n i wr => ∃ (j : Nat) (m : Int), j ≤ R.length ∧ n = .int .i64 m ∧ i = .int .i64 j ∧ g = R.length - j ∧ Ext w wr ∧ Hid (szL (R.drop j) m = res))
  case atStart => exact ⟨0, _, Nat.zero_le _, rfl, rfl, rfl, Ext.refl _, HR.out⟩
  case round =>
    obtain ⟨j, m, hj, rfl, rfl, rfl, hE, HI⟩ := hrel
    by_cases hlt : j < R.length
    · have d1 : decide ((j : Int) < (R.length : Int)) = true := decide_eq_true (by omega)
      by_cases hm6 : m ≤ 60
      · have d2 : decide (m ≤ 60) = true := decide_eq_true hm6
        obtain ⟨b, off, rfl, pr⟩ := (hs.ext hE).at_ hlt
        have HI2 : Hid (szL (R.drop (j + 1)) (IntKind.i64.wrap (m + ((R[j]).es.length : Int))) = res) := by
          show _ = res
          rw [← szL_drop hlt m hm6]; exact HI.out
        have hj0 : (0 : Int) ≤ (j : Int) := by omega
        have hj1 : (j : Int) < (R.length : Int) := by omega
        generalize R[j] = r at *
        clear HI
        go_wp2_with fail
        go_roundg (R.length - (j + 1))
        case measure => omega
        case rel => exact ⟨j + 1, _, by omega, rfl, by go_num, rfl, hE, (show _ = res by rw [← IntWalk.i64_left]; exact HI2.out)⟩
      · have d2 : decide (m ≤ 60) = false := decide_eq_false hm6
        have HE : Hid (m = res) := by show m = res; rw [← HI.out, szL_big hm6]
        go_wp2_with fail
        go_ret
        exact ⟨by rw [HE.out]; rfl, hE⟩
    · have d1 : decide ((j : Int) < (R.length : Int)) = false := decide_eq_false (by omega)
      have HE : Hid (m = res) := by show m = res; rw [← HI.out, List.drop_eq_nil_of_le (by omega)]; rfl
      go_wp2_with fail
      go_ret
      exact ⟨by rw [HE.out]; rfl, hE⟩
end Go.Proofs.Ytcljdkjlfciacaa
