/- All and Bit of the reference. No statement of the seat is proved here. -/
import Derived.Test.YtfnnoncdocghjaaCount
namespace Go.Proofs.Ytfnnoncdocghjaa
open Go.RowKit
set_option linter.unusedVariables false

theorem or_low {i : Nat} (hi : i < 32) : bits .or .u32 ((2 : Int) ^ i - 1) ((2 : Int) ^ i % 4294967296) = 2 ^ (i + 1) - 1 := by
  have h : ∀ i : Fin 32, bits .or .u32 ((2 : Int) ^ i.val - 1) ((2 : Int) ^ i.val % 4294967296) = 2 ^ (i.val + 1) - 1 := by decide
  exact h ⟨i, hi⟩
def AlRel (w : World) (m : Nat) (g : Nat) (ov iv : Value) (wr : World) : Prop :=
  ∃ i : Nat, i ≤ m ∧ ov = .int .u32 ((2 : Int) ^ i - 1) ∧ iv = .int .i64 i ∧ g = m - i ∧ wr = w
set_option maxHeartbeats 800000 in
theorem all_any (n : Int) (m : Nat) (hm : min (max n 0) 32 = (m : Int)) (w : World) : Calls Try.prog 56 #[.int .i64 n] w fun e w' => e = .returned (.int .u32 ((2 : Int) ^ m - 1)) ∧ w = w' := by
  have hm32 : m ≤ 32 := by omega
  go_enter Try.func56, Try.ntmps56
  go_wp2_with fail
  go_loopg [3, 4] m (fun g ov iv wr => AlRel w m g ov iv wr)
  case atStart => exact ⟨0, Nat.zero_le _, rfl, rfl, rfl, rfl⟩
  case round =>
    obtain ⟨i, hi, rfl, rfl, rfl, rfl⟩ := hrel
    by_cases hlt : i < m
    · have hmin : (i : Int) < min n 32 := by omega
      have HO := Lib.hid (or_low (i := i) (by omega))
      have hi0 : (0 : Int) ≤ (i : Int) := by omega
      have hi1 : (i : Int) < 32 := by omega
      have dm : decide ((i : Int) < min n 32) = true := decide_eq_true hmin
      go_wp2_with fail
      all_goals
        go_roundg (m - (i + 1))
        case measure => omega
        case rel => exact ⟨i + 1, by omega, by rw [HO.out], by go_num, rfl, rfl⟩
    · obtain rfl : i = m := by omega
      have hmin : ¬ (i : Int) < min n 32 := by omega
      have dm : decide ((i : Int) < min n 32) = false := decide_eq_false hmin
      go_wp2_with fail
      all_goals
        go_ret
        exact ⟨rfl, rfl⟩
/-- the bit of a process -/
def bitV (p : Int) : Int := if p < 0 ∨ 31 < p then 0 else 2 ^ p.toNat
set_option maxHeartbeats 800000 in
theorem bit_any (p : Int) (w : World) : Calls Try.prog 47 #[.int .i64 p] w fun e w' => e = .returned (.int .u32 (bitV p)) ∧ w = w' := by
  by_cases h0 : p < 0
  · have HV : Hid (bitV p = 0) := by show bitV p = 0; unfold bitV; rw [if_pos (.inl h0)]
    go_enter Try.func47, Try.ntmps47
    go_wp2_with fail
    go_ret
    exact ⟨by rw [HV.out]; rfl, rfl⟩
  · by_cases h1 : 31 < p
    · have HV : Hid (bitV p = 0) := by show bitV p = 0; unfold bitV; rw [if_pos (.inr h1)]
      go_enter Try.func47, Try.ntmps47
      go_wp2_with fail
      go_ret
      exact ⟨by rw [HV.out]; rfl, rfl⟩
    · have HV : Hid (bitV p = (2 : Int) ^ p.toNat % 4294967296) := by
        show bitV p = _
        unfold bitV
        rw [if_neg (by omega)]
        obtain ⟨q, rfl⟩ : ∃ q : Nat, p = (q : Int) := ⟨p.toNat, by omega⟩
        have h : ∀ i : Fin 32, (2 : Int) ^ i.val = (2 : Int) ^ i.val % 4294967296 := by decide
        rw [Int.toNat_natCast]
        exact h ⟨q, by omega⟩
      obtain ⟨q, hq⟩ : ∃ q : Nat, p = (q : Int) := ⟨p.toNat, by omega⟩
      subst hq
      have hq0 : (0 : Int) ≤ (q : Int) := by omega
      rw [Int.toNat_natCast] at HV
      go_enter Try.func47, Try.ntmps47
      go_wp2_with fail
      go_ret
      exact ⟨by rw [HV.out]; rfl, rfl⟩
end Go.Proofs.Ytfnnoncdocghjaa
