/- The walk of the law CostIntervals. -/
import Derived.Test.YtddcgholnhhcoaaCost8
namespace Go.Proofs.Ytddcgholnhhcoaa
open Go.RowKit
set_option linter.unusedVariables false

def numV (x : Int) : Int := 1 + modv x 1048576
theorem numV_bd (x : Int) : 1 ≤ numV x ∧ numV x ≤ 1048576 := by
  have := modv_bd x 1048576 (by omega)
  unfold numV; omega
set_option maxHeartbeats 400000 in
theorem num_any (x : Int) (w : World) : Calls Try.prog 14 #[.int .i64 x] w fun e w' => e = .returned (.int .i64 (numV x)) ∧ w = w' := by
  have hb := modv_bd x 1048576 (by omega)
  have HV : Hid (numV x = 1 + modv x 1048576) := rfl
  go_enter Try.func14, Try.ntmps14
  go_wp2_with fail
  refine (mod_any x 1048576 w (by omega) (by omega)).mono ?_
  rintro e w' ⟨rfl, rfl⟩
  generalize modv x 1048576 = m at *
  go_wp2_with fail
  go_ret
  exact ⟨ret_int HV.out.symm, rfl⟩
theorem iv_comm (x y : Int) : ivV (2 * clampC y * clampC x) = ivV (2 * clampC x * clampC y) := by
  rw [show 2 * clampC y * clampC x = 2 * clampC x * clampC y by rw [Int.mul_assoc, Int.mul_comm (clampC y), ← Int.mul_assoc]]

set_option maxHeartbeats 1600000 in
theorem intervals_walk (a b : Int) (w : World) (ha : (Lit.int .i64 a).wf = true) (hb : (Lit.int .i64 b).wf = true) :
    Calls Try.prog 3 #[.int .i64 a, .int .i64 b] w fun e w' => e = .returned (.bool true) ∧ Below w.heap.size w w' := by
  clear ha hb
  go_enter Try.func3, Try.ntmps3
  go_wp2_with fail
  refine (awake_any w).mono ?_
  rintro e w1 ⟨rfl, hE1⟩
  go_wp2_with fail
  refine (num_any a _).mono ?_
  rintro e w' ⟨rfl, rfl⟩
  go_wp2_with fail
  refine (num_any b _).mono ?_
  rintro e w' ⟨rfl, rfl⟩
  have hx := numV_bd a
  have hy := numV_bd b
  generalize numV a = x at *
  generalize numV b = y at *
  have hxm : 0 ≤ x % 50 ∧ x % 50 < 50 := ⟨Int.emod_nonneg _ (by omega), Int.emod_lt_of_pos _ (by omega)⟩
  have hym : 0 ≤ y % 200 ∧ y % 200 < 200 := ⟨Int.emod_nonneg _ (by omega), Int.emod_lt_of_pos _ (by omega)⟩
  go_wp2_with fail
  refine (interval_any a b _).mono ?_
  rintro e w2 ⟨rfl, hE2⟩
  go_wp2_with fail
  refine (interval_ref a b _).mono ?_
  rintro e w3 ⟨rfl, hE3⟩
  generalize ivV (2 * clampC a * clampC b) = z1
  go_wp2_with fail
  refine (interval_any x y _).mono ?_
  rintro e w4 ⟨rfl, hE4⟩
  go_wp2_with fail
  refine (interval_ref x y _).mono ?_
  rintro e w5 ⟨rfl, hE5⟩
  go_wp2_with fail
  refine (interval_any (x % 50) (y % 200) _).mono ?_
  rintro e w6 ⟨rfl, hE6⟩
  go_wp2_with fail
  refine (interval_ref (x % 50) (y % 200) _).mono ?_
  rintro e w7 ⟨rfl, hE7⟩
  generalize ivV (2 * clampC (x % 50) * clampC (y % 200)) = z2
  go_wp2_with fail
  refine (interval_any x y _).mono ?_
  rintro e w8 ⟨rfl, hE8⟩
  go_wp2_with fail
  refine (interval_any y x _).mono ?_
  rintro e w9 ⟨rfl, hE9⟩
  rw [iv_comm x y]
  go_wp2_with fail
  go_ret
  exact ⟨rfl, Ext.trans hE1 (Ext.trans hE2 (Ext.trans hE3 (Ext.trans hE4 (Ext.trans hE5 (Ext.trans hE6 (Ext.trans hE7 (Ext.trans hE8 hE9)))))))⟩
end Go.Proofs.Ytddcgholnhhcoaa
