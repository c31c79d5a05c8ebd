/- The number of bits of a number, in plain Lean. No statement of the seat is proved here. -/
import Derived.Laws.BitsLemmas
namespace Go.Proofs.Ytfnnoncdocghjaa
set_option linter.unusedVariables false

def popI : Nat → Nat → Nat
  | 0, _ => 0
  | n + 1, a => a % 2 + popI n (a / 2)
theorem popI_zero : ∀ n, popI n 0 = 0
  | 0 => rfl
  | n + 1 => by rw [popI, popI_zero n]
theorem popI_last : ∀ n a, popI (n + 1) a = popI n a + a / 2 ^ n % 2
  | 0, a => by simp [popI]
  | n + 1, a => by
    rw [popI, popI_last n (a / 2), popI, Nat.div_div_eq_div_mul, show 2 * 2 ^ n = 2 ^ (n + 1) by rw [Nat.pow_succ]; omega]
    omega
theorem and_half (a b : Nat) : (a &&& b) / 2 = a / 2 &&& b / 2 := by
  apply Nat.eq_of_testBit_eq
  intro i
  simp [Nat.testBit_div_two]
theorem or_half (a b : Nat) : (a ||| b) / 2 = a / 2 ||| b / 2 := by
  apply Nat.eq_of_testBit_eq
  intro i
  simp [Nat.testBit_div_two]
theorem and_par (a b : Nat) : (a &&& b) % 2 = (a % 2) * (b % 2) := by
  have h := Nat.testBit_and a b 0
  simp only [Nat.testBit_zero] at h
  rcases Nat.mod_two_eq_zero_or_one a with h1 | h1 <;> rcases Nat.mod_two_eq_zero_or_one b with h2 | h2 <;> rcases Nat.mod_two_eq_zero_or_one (a &&& b) with h3 | h3 <;> simp_all
theorem or_par (a b : Nat) : (a ||| b) % 2 + (a % 2) * (b % 2) = a % 2 + b % 2 := by
  have h := Nat.testBit_or a b 0
  simp only [Nat.testBit_zero] at h
  rcases Nat.mod_two_eq_zero_or_one a with h1 | h1 <;> rcases Nat.mod_two_eq_zero_or_one b with h2 | h2 <;> rcases Nat.mod_two_eq_zero_or_one (a ||| b) with h3 | h3 <;> simp_all
theorem popI_add : ∀ n a b, popI n (a ||| b) + popI n (a &&& b) = popI n a + popI n b
  | 0, _, _ => rfl
  | n + 1, a, b => by
    rw [popI, popI, popI, popI, and_half, or_half, and_par]
    have h1 := popI_add n (a / 2) (b / 2)
    have h2 := or_par a b
    omega
theorem popI_drop : ∀ n a, 0 < a → a < 2 ^ n → popI n a = popI n (a &&& (a - 1)) + 1
  | 0, a, h0, h1 => by simp at h1; omega
  | n + 1, a, h0, h1 => by
    rw [popI, popI, and_half, and_par]
    rcases Nat.mod_two_eq_zero_or_one a with h2 | h2
    · have e : (a - 1) / 2 = a / 2 - 1 := by omega
      rw [e, h2, popI_drop n (a / 2) (by omega) (by rw [Nat.pow_succ] at h1; omega)]
      omega
    · have e : (a - 1) / 2 = a / 2 := by omega
      have e2 : (a - 1) % 2 = 0 := by omega
      rw [e, e2, h2, Nat.and_self]
      omega
theorem popI_le : ∀ n a, popI n a ≤ n
  | 0, _ => Nat.le_refl _
  | n + 1, a => by
    rw [popI]
    have := popI_le n (a / 2)
    omega
/-- the number of bits of a number of 32 bits -/
def cnt (z : Int) : Nat := popI 32 z.toNat
theorem cnt_zero : cnt 0 = 0 := popI_zero 32
theorem cnt_def (z : Int) : cnt z = popI 32 z.toNat := rfl
theorem cnt_le (z : Int) : cnt z ≤ 32 := popI_le 32 _
theorem wraps_u32' (n : Int) (h₀ : 0 ≤ n) (h₁ : n < 2 ^ 32) : IntKind.u32.wrap n = n := by rw [IntKind.wrap_u32]; omega
theorem bits_u32 {x y : Int} (hx : 0 ≤ x) (hx1 : x < 4294967296) (hy : 0 ≤ y) (hy1 : y < 4294967296) :
    (bits .and .u32 x y = ((x.toNat &&& y.toNat : Nat) : Int) ∧ 0 ≤ bits .and .u32 x y ∧ bits .and .u32 x y < 4294967296) ∧ (bits .or .u32 x y = ((x.toNat ||| y.toNat : Nat) : Int) ∧ 0 ≤ bits .or .u32 x y ∧ bits .or .u32 x y < 4294967296) := by
  have h := bits_nat .u32 32 (by decide) wraps_u32' x.toNat y.toNat (by omega) (by omega)
  rw [show ((x.toNat : Nat) : Int) = x by omega, show ((y.toNat : Nat) : Int) = y by omega] at h
  have h1 := Nat.and_lt_two_pow (n := 32) x.toNat (show y.toNat < 2 ^ 32 by omega)
  have h2 := Nat.or_lt_two_pow (n := 32) (show x.toNat < 2 ^ 32 by omega) (show y.toNat < 2 ^ 32 by omega)
  exact ⟨⟨h.1, by rw [h.1]; omega, by rw [h.1]; omega⟩, ⟨h.2, by rw [h.2]; omega, by rw [h.2]; omega⟩⟩
theorem cnt_drop {x : Int} (h0 : 0 < x) (h1 : x < 4294967296) : cnt x = cnt (bits .and .u32 x (x - 1)) + 1 := by
  rw [(bits_u32 (by omega) h1 (by omega) (by omega)).1.1]
  unfold cnt
  rw [Int.toNat_natCast, show (x - 1).toNat = x.toNat - 1 by omega]
  exact popI_drop 32 _ (by omega) (by omega)
theorem cnt_add {x y : Int} (hx : 0 ≤ x) (hx1 : x < 4294967296) (hy : 0 ≤ y) (hy1 : y < 4294967296) : cnt x + cnt y = cnt (bits .or .u32 x y) + cnt (bits .and .u32 x y) := by
  obtain ⟨⟨h1, _⟩, h2, _⟩ := bits_u32 hx hx1 hy hy1
  rw [h1, h2]
  unfold cnt
  rw [Int.toNat_natCast, Int.toNat_natCast]
  exact (popI_add 32 _ _).symm
end Go.Proofs.Ytfnnoncdocghjaa
