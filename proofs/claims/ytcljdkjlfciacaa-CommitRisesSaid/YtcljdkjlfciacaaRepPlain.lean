/- Which events are safe, and how far, in plain Lean. No statement of the seat is proved here. -/
import Derived.Test.YtcljdkjlfciacaaSafe35
import Derived.Test.YtcljdkjlfciacaaDetMapC
namespace Go.Proofs.Ytcljdkjlfciacaa
open Go.RowKit
set_option linter.unusedVariables false

def inG (G : List (Gr Dt)) (d : Dt) : Bool := G.any fun r => hasB r.l d
/-- the event with this number (from 0) is safe -/
def gdB (L : Lin) (F : List Int) (G : List (Gr Dt)) (K : List (Gr Kn)) (faults : Int) (q j : Nat) : Bool := decide ((j : Int) + 1 ≤ elX F q) || safeB G K faults ⟨(q : Int), (j : Int) + 1, (rowL L q).getD j zEv⟩
/-- how many are safe ahead of the first that is not -/
def firstN (g : Nat → Bool) : Nat → Nat
  | 0 => 0
  | n + 1 => if firstN g n < n then firstN g n else if g n then n + 1 else n
theorem firstN_le (g : Nat → Bool) : ∀ n, firstN g n ≤ n
  | 0 => Nat.le_refl _
  | n + 1 => by
    have := firstN_le g n
    unfold firstN
    split
    · omega
    · split <;> omega
theorem firstN_all (g : Nat → Bool) : ∀ n j, j < firstN g n → g j = true
  | 0, j, h => absurd h (Nat.not_lt_zero _)
  | n + 1, j, h => by
    have h1 := firstN_le g n
    unfold firstN at h
    split at h
    · exact firstN_all g n j h
    · split at h
      · by_cases e : j = n
        · subst e; assumption
        · exact firstN_all g n j (by omega)
      · exact firstN_all g n j (by omega)
theorem firstN_stop (g : Nat → Bool) : ∀ n, firstN g n < n → g (firstN g n) = false
  | 0, h => absurd h (Nat.not_lt_zero _)
  | n + 1, h => by
    have h1 := firstN_le g n
    unfold firstN at h ⊢
    split at h
    · rename_i h2
      rw [if_pos h2]
      exact firstN_stop g n h2
    · rename_i h2
      rw [if_neg h2]
      split at h
      · omega
      · rename_i h3
        rw [if_neg h3]
        simpa using h3
theorem firstN_eq {g : Nat → Bool} {n m : Nat} (hm : m ≤ n) (h1 : ∀ j, j < m → g j = true) (h2 : m < n → g m = false) : firstN g n = m := by
  have a := firstN_le g n
  rcases Nat.lt_trichotomy (firstN g n) m with h | h | h
  · have := firstN_stop g n (by omega)
    rw [h1 _ h] at this
    cases this
  · exact h
  · have := firstN_all g n m h
    rw [h2 (by omega)] at this
    cases this
def limV (L : Lin) (F : List Int) (G : List (Gr Dt)) (K : List (Gr Kn)) (faults : Int) (q : Nat) : Int := (firstN (gdB L F G K faults q) (rowL L q).length : Int) + 1
def limL (L : Lin) (F : List Int) (G : List (Gr Dt)) (K : List (Gr Kn)) (faults : Int) : List Int := (List.range L.length).map (limV L F G K faults)
theorem limL_len (L : Lin) (F : List Int) (G : List (Gr Dt)) (K : List (Gr Kn)) (faults : Int) : (limL L F G K faults).length = L.length := by simp [limL]
theorem limL_at {L : Lin} {F : List Int} {G : List (Gr Dt)} {K : List (Gr Kn)} {faults : Int} {q : Nat} (hq : q < L.length) : elX (limL L F G K faults) q = limV L F G K faults q := by
  unfold elX limL
  rw [List.getD_eq_getElem?_getD, List.getElem?_map, List.getElem?_range hq]
  rfl
/-- the condition of Replicated, as the code asks it -/
def mtR (lim X : List Int) : Bool := (List.range X.length).all fun q => !(decide (elX lim q ≤ elX X q))
/-- the same, as the reference asks it -/
def rtR (g : Nat → Nat → Bool) (X : List Int) : Bool := (List.range X.length).all fun q => (List.range (elX X q).toNat).all fun j => g q j
theorem mtR_iff (lim X : List Int) : mtR lim X = true ↔ ∀ q, q < X.length → elX X q < elX lim q := by
  unfold mtR
  rw [List.all_eq_true]
  simp only [List.mem_range, Bool.not_eq_true', decide_eq_false_iff_not]
  exact ⟨fun h q hq => by have := h q hq; omega, fun h q hq => by have := h q hq; omega⟩
theorem rtR_iff (g : Nat → Nat → Bool) (X : List Int) : rtR g X = true ↔ ∀ q, q < X.length → ∀ j : Nat, (j : Int) < elX X q → g q j = true := by
  unfold rtR
  simp only [List.all_eq_true, List.mem_range]
  exact ⟨fun h q hq j hj => h q hq j (by omega), fun h q hq j hj => h q hq j (by omega)⟩
theorem mtR_mono (L : Lin) (lim : List Int) : Mono L (mtR lim) := fun X Y hX hY hl h => by
  rw [mtR_iff] at *
  intro q hq
  have := hl q (by omega)
  have := h q (by omega)
  omega
theorem pastL_hi {L : Lin} {p : Nat} {i : Int} (hp : p < L.length) (h0 : 0 ≤ i) (hi : i ≤ ((rowL L p).length : Int)) (q : Nat) (hq : q < L.length) : elX (pastL L (p : Int) i) q ≤ ((rowL L q).length : Int) := by
  rcases pastL_cases hp h0 hi with ⟨h, _⟩ | ⟨X, h, hX, hl⟩
  · rw [h]; show (0 : Int) ≤ _; omega
  · rw [h]; exact hX.2.1.hi q hq
theorem rep_same (L : Lin) (F : List Int) (G : List (Gr Dt)) (K : List (Gr Kn)) (faults : Int) : searchL L (mtR (limL L F G K faults)) = searchL L (rtR (gdB L F G K faults)) :=
  searchL_congr fun q k hq hk => Bool.eq_iff_iff.2 (by
    have hpl := pastL_len L (q : Int) (k : Int)
    rw [mtR_iff, rtR_iff]
    constructor
    · intro h r hr j hj
      have h1 := h r hr
      rw [limL_at (by omega)] at h1
      unfold limV at h1
      exact firstN_all (gdB L F G K faults r) (rowL L r).length j (by omega)
    · intro h r hr
      rw [limL_at (by omega)]
      unfold limV
      have h1 := pastL_hi (L := L) (p := q) (i := (k : Int)) hq (by omega) (by omega) r (by omega)
      have h2 := firstN_stop (gdB L F G K faults r) (rowL L r).length
      have h3 := firstN_le (gdB L F G K faults r) (rowL L r).length
      by_cases hlt : elX (pastL L (q : Int) (k : Int)) r < (firstN (gdB L F G K faults r) (rowL L r).length : Int) + 1
      · exact hlt
      · have h4 := h r hr (firstN (gdB L F G K faults r) (rowL L r).length) (by omega)
        rw [h2 (by omega)] at h4
        cases h4)
end Go.Proofs.Ytcljdkjlfciacaa
