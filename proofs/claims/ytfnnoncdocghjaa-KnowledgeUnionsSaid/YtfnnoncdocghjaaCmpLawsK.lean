/- The order of determinants in plain Lean. No statement of the seat is proved here. -/
import Derived.Test.YtfnnoncdocghjaaCompareK
namespace Go.Proofs.Ytfnnoncdocghjaa
set_option linter.unusedVariables false
set_option maxRecDepth 100000

theorem cmpI_anti (a b : Int) : cmpI b a = - cmpI a b := by unfold cmpI; split <;> split <;> (try split) <;> (try split) <;> omega
theorem cmpI_zero (a b : Int) : cmpI a b = 0 ↔ a = b := by unfold cmpI; split <;> (try split) <;> omega
theorem cmpI_neg (a b : Int) : cmpI a b < 0 ↔ a < b := by unfold cmpI; split <;> (try split) <;> omega
theorem cmpI_le (a b : Int) : cmpI a b ≤ 0 ↔ a ≤ b := by unfold cmpI; split <;> (try split) <;> omega
theorem cmpL_anti : ∀ xs ys : List Int, cmpL ys xs = - cmpL xs ys
  | [], [] => rfl
  | [], _ :: _ => rfl
  | _ :: _, [] => rfl
  | x :: xs, y :: ys => by
    rw [cmpL, cmpL, cmpI_anti x y, cmpL_anti xs ys]
    by_cases h : cmpI x y = 0
    · rw [if_pos h, if_pos (by omega)]
    · rw [if_neg h, if_neg (by omega)]
theorem cmpL_zero : ∀ xs ys : List Int, xs.length = ys.length → (cmpL xs ys = 0 ↔ xs = ys)
  | [], [], _ => by simp [cmpL]
  | x :: xs, y :: ys, h => by
    rw [cmpL]
    have ih := cmpL_zero xs ys (by simpa using h)
    by_cases h0 : cmpI x y = 0
    · rw [if_pos h0, ih]
      rw [cmpI_zero] at h0
      simp [h0]
    · rw [if_neg h0]
      constructor
      · intro h; exact absurd h h0
      · intro h
        injection h with h _
        exact absurd ((cmpI_zero x y).2 h) h0
theorem cmpL_trans : ∀ xs ys zs : List Int, xs.length = ys.length → ys.length = zs.length → cmpL xs ys ≤ 0 → cmpL ys zs ≤ 0 → cmpL xs zs ≤ 0
  | [], _, _, _, _, _, _ => by simp [cmpL]
  | x :: xs, y :: ys, z :: zs, h1, h2, h3, h4 => by
    rw [cmpL] at h3 h4 ⊢
    have ih := cmpL_trans xs ys zs (by simpa using h1) (by simpa using h2)
    by_cases a : cmpI x y = 0
    · have ea := (cmpI_zero x y).1 a
      subst ea
      rw [if_pos a] at h3
      by_cases b : cmpI x z = 0
      · rw [if_pos b] at h4 ⊢; exact ih h3 h4
      · rw [if_neg b] at h4 ⊢; exact h4
    · rw [if_neg a] at h3
      have a' : x < y := by rw [← cmpI_neg]; omega
      by_cases b : cmpI y z = 0
      · have eb := (cmpI_zero y z).1 b
        subst eb
        rw [if_neg a]; exact h3
      · rw [if_neg b] at h4
        have b' : y < z := by rw [← cmpI_neg]; omega
        have c : cmpI x z < 0 := by rw [cmpI_neg]; omega
        rw [if_neg (by omega)]; omega
theorem Dt.keys_inj (a b : Dt) : a.keys = b.keys ↔ a = b := by
  obtain ⟨a0, a1, a2, a3, a4, a5, a6, a7, a8⟩ := a
  obtain ⟨b0, b1, b2, b3, b4, b5, b6, b7, b8⟩ := b
  simp only [Dt.keys, List.cons.injEq, Dt.mk.injEq, Ev.mk.injEq, and_true]
  constructor
  · rintro ⟨h1, h2, h3, h4, h5, h6, h7, h8, h9⟩; exact ⟨h1, h2, h4, h3, h5, h6, h7, h8, h9⟩
  · rintro ⟨h1, h2, h4, h3, h5, h6, h7, h8, h9⟩; exact ⟨h1, h2, h3, h4, h5, h6, h7, h8, h9⟩
theorem cmpD_bd (a b : Dt) : -1 ≤ cmpD a b ∧ cmpD a b ≤ 1 := cmpL_bd _ _
theorem cmpD_anti (a b : Dt) : cmpD b a = - cmpD a b := cmpL_anti _ _
theorem cmpD_zero (a b : Dt) : cmpD a b = 0 ↔ a = b := (cmpL_zero a.keys b.keys (by simp [Dt.keys])).trans (Dt.keys_inj a b)
theorem cmpD_trans (a b c : Dt) (h1 : cmpD a b ≤ 0) (h2 : cmpD b c ≤ 0) : cmpD a c ≤ 0 := cmpL_trans a.keys b.keys c.keys (by simp [Dt.keys]) (by simp [Dt.keys]) h1 h2
theorem cmpD_same (a b : Dt) : (cmpD a b == 0) = a.same b := by
  rw [Bool.eq_iff_iff, Dt.same_iff, ← cmpD_zero]; simp
end Go.Proofs.Ytfnnoncdocghjaa
