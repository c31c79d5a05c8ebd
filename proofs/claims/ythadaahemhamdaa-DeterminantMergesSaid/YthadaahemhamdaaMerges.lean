/- The walk of the law DeterminantMerges. -/
import Derived.Test.YthadaahemhamdaaAwake27t
import Derived.Test.YthadaahemhamdaaDets
import Derived.Test.YthadaahemhamdaaArgs27
import Derived.Test.YthadaahemhamdaaRMerge2
namespace Go.Proofs.Ythadaahemhamdaa
open Go.RowKit
set_option linter.unusedVariables false

theorem stock_len (l : List Dt) : (stockV l).length ≤ l.length := by
  have := cpt_len (sortD l)
  rw [sortD_len] at this
  exact this
set_option maxRecDepth 100000 in
set_option maxHeartbeats 3200000 in
theorem merges_walk (a0 : Option Addr) (cap0 : Nat) (da : List Dt) (a1 : Option Addr) (cap1 : Nat) (db : List Dt) (a2 : Option Addr) (cap2 : Nat) (bs : List Int) (w : World)
    (h0 : DtSeg w a0 da ∧ da.length ≤ cap0 ∧ cap0 ≤ maxLen ∧ ∀ d ∈ da, d.ok) (h1 : DtSeg w a1 db ∧ db.length ≤ cap1 ∧ cap1 ≤ maxLen ∧ ∀ d ∈ db, d.ok)
    (h2 : Seg w 1 a2 bs.length (bs.map (Value.int .u8)) ∧ bs.length ≤ cap2 ∧ cap2 ≤ maxLen ∧ ∀ b ∈ bs, 0 ≤ b ∧ b < 256) :
    Calls Try.prog 6 #[.slice a0 da.length cap0, .slice a1 db.length cap1, .slice a2 bs.length cap2] w fun e w' => e = .returned (.bool true) ∧ Below w.heap.size w w' := by
  obtain ⟨hs0, hc0, hm0, hok0⟩ := h0
  obtain ⟨hs1, hc1, hm1, hok1⟩ := h1
  obtain ⟨hs2, hc2, hm2, hok2⟩ := h2
  have O2 := Lib.hid hok2
  clear hok0 hok1 hok2
  have hm0' := hm0
  have hm1' := hm1
  unfold maxLen at hm0' hm1'
  by_cases l0 : 60 < da.length
  · have d0 : decide ((60 : Int) < (da.length : Int)) = true := decide_eq_true (by omega)
    go_enter Try.func6, Try.ntmps6
    go_wp2_with fail
    refine (awake_any w).mono ?_
    rintro e w1 ⟨rfl, hE⟩
    go_wp2_with fail
    go_ret
    exact ⟨rfl, hE⟩
  by_cases l1 : 60 < db.length
  · have d0 : decide ((60 : Int) < (da.length : Int)) = false := decide_eq_false (by omega)
    have d1 : decide ((60 : Int) < (db.length : Int)) = true := decide_eq_true (by omega)
    go_enter Try.func6, Try.ntmps6
    go_wp2_with fail
    refine (awake_any w).mono ?_
    rintro e w1 ⟨rfl, hE⟩
    go_wp2_with fail
    go_ret
    exact ⟨rfl, hE⟩
  have d0 : decide ((60 : Int) < (da.length : Int)) = false := decide_eq_false (by omega)
  have d1 : decide ((60 : Int) < (db.length : Int)) = false := decide_eq_false (by omega)
  go_enter Try.func6, Try.ntmps6
  go_wp2_with fail
  refine (awake_any w).mono ?_
  rintro e w1 ⟨rfl, hE1⟩
  go_wp2_with fail
  refine (new_any a2 cap2 bs 200 w1 (hs2.ext hE1) hc2 hm2 (by omega) O2.out).mono ?_
  rintro e w2 ⟨rfl, hC, hE2⟩
  generalize bs.take 200 = cs at *
  have hcl := hC.lt
  have hX2 := Ext.trans hE1 hE2
  obtain ⟨c, hc⟩ : ∃ c, w1.heap.size = c := ⟨_, rfl⟩
  have hwc : w.heap.size ≤ c := by rw [← hc]; exact hE1.size
  rw [hc] at hC hcl ⊢
  clear hc hE1 hE2 hs2 O2
  go_wp2_with fail
  refine (dets_any c cs 0 w2 hC 10 (by omega)).mono ?_
  rintro e w3 ⟨v3, x3, rfl, hown3, hl3, _, hg3, k3, hC3, _, _⟩
  have hX3 := Ext.grownRow hX2 hwc hg3
  go_wp2_with fail
  refine (dets_any c cs k3 w3 hC3 10 (by omega)).mono ?_
  rintro e w4 ⟨v4, x4, rfl, hown4, hl4, _, hg4, k4, hC4, _, _⟩
  have hX4 := Ext.grownRow hX3 hwc hg4
  have hown34 := kept_c hown3 hg4 hcl
  obtain ⟨A3, c3, rfl, hs3, _, _⟩ := own_slice hown34
  obtain ⟨A4, c4, rfl, hs4, _, _⟩ := own_slice hown4
  have e0 := hs0.ext hX4
  have e1 := hs1.ext hX4
  clear hown3 hown4 hown34 hg3 hg4 hC hC3 hC4 hX2 hX3
  have hsl1 := stock_len (da ++ db)
  have hsl2 := stock_len (x3 ++ x4)
  rw [List.length_append] at hsl1 hsl2
  have HM1 := Lib.hid (fun W h h' => merge_any a0 a1 cap0 cap1 da db W h h' (by omega) (by omega))
  have HR1 := Lib.hid (fun W h h' => rmerge_any a0 a1 cap0 cap1 da db W h h' (by omega) (by omega))
  have HM2 := Lib.hid (fun W h h' => merge_any A3 A4 c3 c4 x3 x4 W h h' (by omega) (by omega))
  have HR2 := Lib.hid (fun W h h' => rmerge_any A3 A4 c3 c4 x3 x4 W h h' (by omega) (by omega))
  generalize stockV (da ++ db) = S1 at *
  generalize stockV (x3 ++ x4) = S2 at *
  go_wp2_with fail
  refine (HM1.out w4 e0 e1).mono ?_
  rintro e w5 ⟨A5, c5, rfl, hs5, _, _, hE5⟩
  go_wp2_with fail
  refine (HR1.out w5 (e0.ext hE5) (e1.ext hE5)).mono ?_
  rintro e w6 ⟨A6, c6, rfl, hs6, _, _, hE6⟩
  go_wp2_with fail
  refine (sameDets A5 A6 c5 c6 S1 w6 (hs5.ext hE6) hs6 (by omega)).mono ?_
  rintro e w7 ⟨rfl, q7, rfl⟩
  have hE7 := Ext.trans (Ext.trans hE5 hE6) (Ext.drewn w6 q7)
  generalize w6.drewN q7 = w7 at *
  go_wp2_with fail
  refine (HM2.out w7 (hs3.ext hE7) (hs4.ext hE7)).mono ?_
  rintro e w8 ⟨A8, c8, rfl, hs8, _, _, hE8⟩
  go_wp2_with fail
  refine (HR2.out w8 ((hs3.ext hE7).ext hE8) ((hs4.ext hE7).ext hE8)).mono ?_
  rintro e w9 ⟨A9, c9, rfl, hs9, _, _, hE9⟩
  go_wp2_with fail
  refine (sameDets A8 A9 c8 c9 S2 w9 (hs8.ext hE9) hs9 (by omega)).mono ?_
  rintro e w10 ⟨rfl, q10, rfl⟩
  go_wp2_with fail
  go_ret
  exact ⟨rfl, Ext.trans hX4 (Ext.trans hE7 (Ext.trans hE8 (Ext.trans hE9 (Ext.drewn w9 q10))))⟩
end Go.Proofs.Ythadaahemhamdaa
