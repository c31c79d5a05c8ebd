/- The law KnowledgeCounts walked. No statement of the seat is proved here. -/
import Derived.Test.YtfnnoncdocghjaaAwakeK
namespace Go.Proofs.Ytfnnoncdocghjaa
open Go.RowKit
set_option linter.unusedVariables false
set_option maxRecDepth 100000

theorem u32_of {z : Int} (h : (Lit.int .u32 z).wf = true) : 0 ≤ z ∧ z < 4294967296 := by
  have := Go.bounds_u32 h
  omega
set_option maxHeartbeats 1600000 in
theorem counts_walk (x y : Int) (w : World) (w0 : (Lit.int .u32 x).wf = true) (w1 : (Lit.int .u32 y).wf = true) :
    Calls Try.prog 3 #[.int .u32 x, .int .u32 y] w (ExtPost w (.bool true)) := by
  obtain ⟨hx0, hx1⟩ := u32_of w0
  obtain ⟨hy0, hy1⟩ := u32_of w1
  have HX := Lib.hid (fun w => count_any x w hx0 hx1)
  have HXR := Lib.hid (fun w => count_ref x w hx0 hx1)
  have HY := Lib.hid (fun w => count_any y w hy0 hy1)
  obtain ⟨⟨-, ha0, ha1⟩, -, ho0, ho1⟩ := bits_u32 hx0 hx1 hy0 hy1
  have HO := Lib.hid (fun w => count_any _ w ho0 ho1)
  have HA := Lib.hid (fun w => count_any _ w ha0 ha1)
  have hs := cnt_add hx0 hx1 hy0 hy1
  have b1 := cnt_le x
  have b2 := cnt_le y
  have b3 := cnt_le (bits .or .u32 x y)
  have b4 := cnt_le (bits .and .u32 x y)
  generalize cnt x = cx at *
  generalize cnt y = cy at *
  generalize cnt (bits .or .u32 x y) = co at *
  generalize cnt (bits .and .u32 x y) = ca at *
  have e1 : (((cx : Nat) : Int) == ((cx : Nat) : Int)) = true := by simp
  have e2 : ((cx : Int) + (cy : Int) == (co : Int) + (ca : Int)) = true := by rw [beq_iff_eq]; omega
  clear hs w0 w1 ha0 ha1 ho0 ho1
  go_enter Try.func3, Try.ntmps3
  go_wp2_with fail
  refine (awake_any _).mono ?_
  rintro e w5 ⟨rfl, hE⟩
  have HE := Lib.hid hE
  clear hE
  go_wp2_with fail
  refine (HX.out _).mono ?_
  rintro e w6 ⟨rfl, rfl⟩
  go_wp2_with fail
  refine (HXR.out _).mono ?_
  rintro e w6 ⟨rfl, rfl⟩
  go_wp2_with fail
  refine (HX.out _).mono ?_
  rintro e w6 ⟨rfl, rfl⟩
  go_wp2_with fail
  refine (HY.out _).mono ?_
  rintro e w6 ⟨rfl, rfl⟩
  go_wp2_with fail
  refine (HO.out _).mono ?_
  rintro e w6 ⟨rfl, rfl⟩
  go_wp2_with fail
  refine (HA.out _).mono ?_
  rintro e w6 ⟨rfl, rfl⟩
  go_wp2_with fail
  go_ret
  exact ⟨rfl, HE.out⟩
end Go.Proofs.Ytfnnoncdocghjaa
