/- Chapter 38 in plain Lean: the best interval, fractions in lowest terms, the worst case. No statement of the seat is proved here. -/
namespace Go.Proofs.Ytddcgholnhhcoaa
set_option linter.unusedVariables false

/-! ### the interval -/
def clampC (x : Int) : Int := min (max x 0) 1048576
theorem clampC_bd (x : Int) : 0 ≤ clampC x ∧ clampC x ≤ 1048576 := by unfold clampC; omega
/-- t is the least number from 1 on whose product with the next one reaches the goal -/
def IsIv (g t : Int) : Prop := 1 ≤ t ∧ g ≤ t * (t + 1) ∧ ∀ s : Int, 1 ≤ s → s < t → s * (s + 1) < g
theorem IsIv.uniq {g s t : Int} (hs : IsIv g s) (ht : IsIv g t) : s = t := by
  rcases Int.lt_trichotomy s t with h | h | h
  · have := ht.2.2 s hs.1 h
    have := hs.2.1
    omega
  · exact h
  · have := hs.2.2 t ht.1 h
    have := ht.2.1
    omega
def ivFind (g : Int) : Nat → Int → Int
  | 0, t => t
  | f + 1, t => if g ≤ t * (t + 1) then t else ivFind g f (t + 1)
def ivV (g : Int) : Int := ivFind g 4194304 1
theorem ivFind_eq {g t : Int} (ht : IsIv g t) : ∀ (f : Nat) (s : Int), 1 ≤ s → s ≤ t → t - s ≤ f → ivFind g f s = t := by
  intro f
  induction f with
  | zero => intro s _ h2 h3; simp only [ivFind]; omega
  | succ f ih =>
    intro s h1 h2 h3
    rw [ivFind]
    by_cases hg : g ≤ s * (s + 1)
    · rw [if_pos hg]
      rcases Int.lt_or_eq_of_le h2 with h | h
      · have := ht.2.2 s h1 h; omega
      · exact h
    · rw [if_neg hg]
      rcases Int.lt_or_eq_of_le h2 with h | h
      · exact ih (s + 1) (by omega) (by omega) (by omega)
      · subst h; exact absurd ht.2.1 hg
theorem ivV_eq {g t : Int} (ht : IsIv g t) (hb : t ≤ 4194304) : ivV g = t := ivFind_eq ht _ 1 (by omega) ht.1 (by omega)

/-! ### fractions -/
structure Fr where
  num : Int
  den : Int
def lowV (a b : Int) : Fr := ⟨a / (Int.gcd a b : Int), b / (Int.gcd a b : Int)⟩
theorem gcd_step (a b : Int) (ha : 0 ≤ a) (hb : 0 < b) : Int.gcd b (a % b) = Int.gcd a b := by
  obtain ⟨n, rfl⟩ := Int.eq_ofNat_of_zero_le ha
  obtain ⟨m, rfl⟩ := Int.eq_ofNat_of_zero_le (show 0 ≤ b by omega)
  rw [show ((n : Int) % (m : Int)) = ((n % m : Nat) : Int) by simp]
  simp only [Int.gcd, Int.natAbs_natCast]
  rw [Nat.gcd_comm m (n % m), ← Nat.gcd_rec m n, Nat.gcd_comm]
theorem gcd_zero_r (a : Int) (ha : 0 ≤ a) : (Int.gcd a 0 : Int) = a := by
  simp only [Int.gcd, Int.natAbs_zero, Nat.gcd_zero_right]; omega
theorem gcd_pos_r (a b : Int) (hb : 0 < b) : (0 : Int) < (Int.gcd a b : Int) := by
  have : 0 < Int.gcd a b := Nat.gcd_pos_of_pos_right _ (by omega)
  omega
theorem gcd_le_r (a b : Int) (hb : 0 < b) : (Int.gcd a b : Int) ≤ b := by
  have : Nat.gcd a.natAbs b.natAbs ≤ b.natAbs := Nat.gcd_le_right _ (by omega)
  have h : Int.gcd a b = Nat.gcd a.natAbs b.natAbs := rfl
  omega
theorem gcd_mul (k a b : Int) (hk : 0 ≤ k) : (Int.gcd (k * a) (k * b) : Int) = k * (Int.gcd a b : Int) := by
  rw [Int.gcd_mul_left]
  push_cast
  rw [Int.natAbs_of_nonneg hk]
theorem lowV_mul (k a b : Int) (hk : 0 < k) (hb : 0 < b) : lowV (k * a) (k * b) = lowV a b := by
  unfold lowV
  rw [gcd_mul k a b (by omega)]
  rw [Int.mul_ediv_mul_of_pos _ _ hk, Int.mul_ediv_mul_of_pos _ _ hk]
/-- a fraction is a multiple of its lowest form -/
theorem lowV_spec (a b : Int) (hb : 0 < b) : ∃ g : Int, 0 < g ∧ a = g * (lowV a b).num ∧ b = g * (lowV a b).den := by
  refine ⟨Int.gcd a b, gcd_pos_r a b hb, ?_, ?_⟩
  · exact (Int.mul_ediv_cancel' (Int.gcd_dvd_left a b)).symm
  · exact (Int.mul_ediv_cancel' (Int.gcd_dvd_right a b)).symm
theorem lowV_den (a b : Int) (hb : 0 < b) : 0 < (lowV a b).den := by
  obtain ⟨g, hg, _, h⟩ := lowV_spec a b hb
  rcases Int.lt_trichotomy (lowV a b).den 0 with h1 | h1 | h1
  · have : g * (lowV a b).den < 0 := Int.mul_neg_of_pos_of_neg hg h1
    omega
  · rw [h1, Int.mul_zero] at h; omega
  · exact h1
theorem lowV_num (a b : Int) (ha : 0 ≤ a) (hb : 0 < b) : 0 ≤ (lowV a b).num := Int.ediv_nonneg ha (Int.le_of_lt (gcd_pos_r a b hb))
theorem lowV_le (a b : Int) (ha : 0 ≤ a) (hb : 0 < b) : (lowV a b).num ≤ a ∧ (lowV a b).den ≤ b := by
  refine ⟨Int.ediv_le_self _ ha, Int.ediv_le_self _ (by omega)⟩

end Go.Proofs.Ytddcgholnhhcoaa
