/- slices.BinarySearchFunc at determinants. No statement of the seat is proved here. -/
import Derived.Test.YthadaahemhamdaaBinPlain27
import Derived.Test.YthadaahemhamdaaGrownS
import Derived.Shelf.Abstract
namespace Go.Proofs.Ythadaahemhamdaa
open Go.RowKit Go.Shelf Go.Sort
set_option linter.unusedVariables false

def BsRel (w1 : World) (l : List Dt) (d : Dt) (g : Nat) (iv jv : Value) (wr : World) : Prop := ∃ lo hi : Nat, lo ≤ hi ∧ hi ≤ l.length ∧ hi - lo ≤ g ∧ iv = .int .i64 lo ∧ jv = .int .i64 hi ∧ Ext w1 wr ∧ Hid (Splits l d lo hi)
def BsPost (l : List Dt) (d : Dt) (w : World) (e : Ending) (w' : World) : Prop := ∃ i : Nat, i ≤ l.length ∧ Splits l d i i ∧ e = .returned (.tuple #[.int .i64 i, .bool (hasB l d)]) ∧ Ext w w'
theorem asc_lt {l : List Dt} (ha : AscD l) {i j : Nat} (hij : i ≤ j) (hj : j < l.length) (d : Dt) (h : cmpD l[j] d < 0) : cmpD (l[i]'(by omega)) d < 0 := by
  by_cases e : i = j
  · subst e; exact h
  · exact cmpD_lt_trans (List.pairwise_iff_getElem.1 ha i j (by omega) hj (by omega)) h

set_option maxRecDepth 100000 in
set_option maxHeartbeats 3200000 in
theorem bsearch_any (A : Option Addr) (c : Nat) (l : List Dt) (d : Dt) (w : World) (hs : DtSeg w A l) (ha : AscD l) (hn : l.length ≤ 1000) :
    Calls Try.prog 47 #[.slice A l.length c, .agg #[.int .i64 d.proc, .int .i64 d.index, .int .i64 d.ev.kind, .int .i64 d.ev.inc, .int .i64 d.ev.frm, .int .i64 d.ev.sinc, .int .i64 d.ev.sidx, .int .i64 d.ev.ord, .int .i64 d.ev.val], .func (.func 21) #[] #[]] w (BsPost l d w) := by
  have hn' : (l.length : Int) ≤ 1000 := by omega
  have eg : ∀ args w, (callFunc 21 args).run Try.prog w = .ok (.enter 21 args) w := enters_of Try.func21 (by kernel_rfl) rfl
  have HA := Lib.hid ha
  have hB := Blk.new w 39 d.cells.toArray
  have hs1 := hs.alloc (.cells d.cells.toArray 39)
  have hX := (Ext.refl w).allocs (.cells d.cells.toArray 39)
  obtain ⟨w1, hw1⟩ : ∃ w1, w.alloc (.cells d.cells.toArray 39) = w1 := ⟨_, rfl⟩
  rw [hw1] at hB hs1 hX
  have HW := Lib.hid hw1
  clear hw1 hs ha
  go_enter Try.func47, Try.ntmps47
  go_wp2_with fail
  have e := HW.out
  unfold Dt.cells at e
  rw [e]
  clear e HW
  go_loopg [9, 10] l.length (fun g iv jv wr => BsRel w1 l d g iv jv wr)
  case atStart => exact ⟨0, l.length, Nat.zero_le _, Nat.le_refl _, by omega, rfl, rfl, Ext.refl _, ⟨fun t _ h => by omega, fun t _ h => by omega⟩⟩
  case round =>
    obtain ⟨lo, hi, hlh, hin, hg, rfl, rfl, hE, HS⟩ := hrel
    by_cases hlt : lo < hi
    · obtain ⟨m, hm⟩ : ∃ m, (lo + hi) / 2 = m := ⟨_, rfl⟩
      have hml : m < l.length := by omega
      have hmI : ((lo : Int) + (hi : Int)) / 2 = (m : Int) := by omega
      obtain ⟨b, off, rfl, p0, p1, p2, p3, p4, p5, p6, p7, p8⟩ := Dt.at_ (hs1.ext hE) hml
      have hD := hs1.ext hE
      obtain ⟨x, hx⟩ : ∃ x, l[m] = x := ⟨_, rfl⟩
      have fX := fun dr os => grownT hD hml hx dr os
      have fY := fun dr os => grownB (hB.ext hE) dr os
      have CXY := Lib.hid (compare_sl x d)
      have HXC : Hid (cmpD l[m] d = cmpD x d) := by show cmpD _ _ = _; rw [hx]
      have hb1 := cmpD_bd x d
      obtain ⟨v1, e1⟩ : ∃ v, cmpD x d = v := ⟨_, rfl⟩
      rw [e1] at CXY hb1 HXC
      have HD := Lib.hid hD
      have HGE := Lib.hid (fun t (ht : t < l.length) (h : m ≤ t) (h1 : cmpD l[t] d < 0) => asc_lt HA.out h ht d h1)
      have HLT := Lib.hid (fun t (ht : t < l.length) (h : t ≤ m) => asc_lt HA.out h hml d)
      have hm0 : (0 : Int) ≤ (m : Int) := by omega
      have hm1 : (m : Int) < (l.length : Int) := by omega
      clear hx e1 hD p0 p1 p2 p3 p4 p5 p6 p7 p8
      by_cases q1 : v1 < 0
      · have d1 : decide (v1 < 0) = true := decide_eq_true q1
        go_upto_region 5 with fail
        refine wp_region_quiet_below (by kernel_rfl) (by kernel_rfl) ?_
        repeat (go_big_quiet_step (first | with_reducible exact call_grownS CXY.out))
        refine wpQuiet_nil ?_
        intro _ hw'
        obtain ⟨⟨dq, osq⟩, hw''⟩ := hw'
        subst hw''
        clear fX fY
        go_wp2_with fail
        go_roundg (hi - (m + 1))
        case measure => omega
        case rel => exact ⟨m + 1, hi, by omega, hin, Nat.le_refl _, by go_num, rfl, Ext.trans hE (below_regrown wr dq osq), ⟨fun t ht h => HLT.out t ht (by omega) (by rw [HXC.out]; exact q1), HS.out.2⟩⟩
      · have d1 : decide (v1 < 0) = false := decide_eq_false q1
        go_upto_region 5 with fail
        refine wp_region_quiet_below (by kernel_rfl) (by kernel_rfl) ?_
        repeat (go_big_quiet_step (first | with_reducible exact call_grownS CXY.out))
        refine wpQuiet_nil ?_
        intro _ hw'
        obtain ⟨⟨dq, osq⟩, hw''⟩ := hw'
        subst hw''
        clear fX fY
        go_wp2_with fail
        go_roundg (m - lo)
        case measure => omega
        case rel =>
          refine ⟨lo, m, by omega, by omega, Nat.le_refl _, rfl, rfl, Ext.trans hE (below_regrown wr dq osq), ⟨HS.out.1, fun t ht h => ?_⟩⟩
          by_cases h1 : cmpD l[t] d < 0
          · have := HGE.out t ht h h1
            rw [HXC.out] at this
            omega
          · omega
    · obtain rfl : hi = lo := by omega
      by_cases hn2 : hi < l.length
      · have HB := Lib.hid (bs_at HA.out HS.out hn2)
        obtain ⟨b, off, rfl, p0, p1, p2, p3, p4, p5, p6, p7, p8⟩ := Dt.at_ (hs1.ext hE) hn2
        have hD := hs1.ext hE
        obtain ⟨x, hx⟩ : ∃ x, l[hi] = x := ⟨_, rfl⟩
        have fX := fun dr os => grownT hD hn2 hx dr os
        have fY := fun dr os => grownB (hB.ext hE) dr os
        have CXY := Lib.hid (compare_sl x d)
        have hb1 := cmpD_bd x d
        rw [hx] at HB
        obtain ⟨v1, e1⟩ : ∃ v, cmpD x d = v := ⟨_, rfl⟩
        rw [e1] at CXY hb1 HB
        have hm0 : (0 : Int) ≤ (hi : Int) := by omega
        have hm1 : (hi : Int) < (l.length : Int) := by omega
        have dlt : decide ((hi : Int) < (l.length : Int)) = true := decide_eq_true hm1
        clear hx e1 hD p0 p1 p2 p3 p4 p5 p6 p7 p8
        by_cases q1 : v1 = 0
        · have d1 : (v1 == 0) = true := by simp [q1]
          have HB2 : Hid (hasB l d = true) := by show hasB l d = true; rw [HB.out]; exact decide_eq_true q1
          go_upto_region 8 with fail
          refine wp_region_quiet_below (by kernel_rfl) (by kernel_rfl) ?_
          repeat (go_big_quiet_step (first | with_reducible exact call_grownS CXY.out))
          refine wpQuiet_nil ?_
          intro _ hw'
          obtain ⟨⟨dq, osq⟩, hw''⟩ := hw'
          subst hw''
          clear fX fY
          go_wp2_with fail
          go_ret2
          exact ⟨hi, hin, HS.out, by rw [HB2.out]; rfl, Ext.trans hX (Ext.trans hE (below_regrown wr dq osq))⟩
        · have d1 : (v1 == 0) = false := by simp [q1]
          have HB2 : Hid (hasB l d = false) := by show hasB l d = false; rw [HB.out]; exact decide_eq_false q1
          go_upto_region 8 with fail
          refine wp_region_quiet_below (by kernel_rfl) (by kernel_rfl) ?_
          repeat (go_big_quiet_step (first | with_reducible exact call_grownS CXY.out))
          refine wpQuiet_nil ?_
          intro _ hw'
          obtain ⟨⟨dq, osq⟩, hw''⟩ := hw'
          subst hw''
          clear fX fY
          go_wp2_with fail
          go_ret2
          exact ⟨hi, hin, HS.out, by rw [HB2.out]; rfl, Ext.trans hX (Ext.trans hE (below_regrown wr dq osq))⟩
      · obtain rfl : hi = l.length := by omega
        have HB := Lib.hid (bs_end HS.out)
        have dlt : decide ((l.length : Int) < (l.length : Int)) = false := decide_eq_false (by omega)
        go_upto_region 8 with fail
        refine wp_region_quiet_below (by kernel_rfl) (by kernel_rfl) ?_
        repeat (go_big_quiet_step (fail))
        refine wpQuiet_nil ?_
        intro _ hw'
        obtain ⟨⟨dq, osq⟩, hw''⟩ := hw'
        subst hw''
        go_wp2_with fail
        go_ret2
        exact ⟨l.length, Nat.le_refl _, HS.out, by rw [HB.out]; rfl, Ext.trans hX (Ext.trans hE (below_regrown wr dq osq))⟩
end Go.Proofs.Ythadaahemhamdaa
