/- Where a determinant stands in a stock, in plain Lean. No statement of the seat is proved here. -/
import Derived.Test.YthadaahemhamdaaMergePlain
import Derived.Test.YthadaahemhamdaaCompareD
import Derived.Test.YthadaahemhamdaaDets
namespace Go.Proofs.Ythadaahemhamdaa
set_option linter.unusedVariables false

/-- the first i are less, the others are not -/
def Splits (l : List Dt) (d : Dt) (lo hi : Nat) : Prop := (∀ t (h : t < l.length), t < lo → cmpD l[t] d < 0) ∧ (∀ t (h : t < l.length), hi ≤ t → 0 ≤ cmpD l[t] d)
theorem bs_end {l : List Dt} {d : Dt} (h : Splits l d l.length l.length) : hasB l d = false := by
  rcases hb : hasB l d with _ | _
  · rfl
  · obtain ⟨t, ht, e⟩ := List.mem_iff_getElem.1 ((hasB_iff l d).1 hb)
    have := h.1 t ht ht
    rw [e] at this
    have := cmpD_anti d d
    omega
theorem bs_at {l : List Dt} {d : Dt} {i : Nat} (ha : AscD l) (h : Splits l d i i) (hi : i < l.length) : hasB l d = decide (cmpD l[i] d = 0) := by
  by_cases e : cmpD l[i] d = 0
  · rw [decide_eq_true e, hasB_iff, ← (cmpD_zero _ _).1 e]
    exact List.getElem_mem hi
  · rw [decide_eq_false e]
    rcases hb : hasB l d with _ | _
    · rfl
    · exfalso
      obtain ⟨t, ht, e2⟩ := List.mem_iff_getElem.1 ((hasB_iff l d).1 hb)
      have hp := h.2 i hi (Nat.le_refl _)
      have hz := cmpD_anti d d
      by_cases h1 : t < i
      · have := h.1 t ht h1
        rw [e2] at this; omega
      · by_cases h2 : t = i
        · subst h2; rw [e2] at e; omega
        · have := List.pairwise_iff_getElem.1 ha i t hi ht (by omega)
          rw [e2] at this; omega
theorem add_has {l : List Dt} {d : Dt} (h : hasB (stockV l) d = true) : stockV l = stockV (l ++ [d]) := by
  refine asc_unique _ _ (stock_asc _) (stock_asc _) fun e => ?_
  rw [hasB_iff, stock_mem] at h
  rw [stock_mem, stock_mem, List.mem_append, List.mem_singleton]
  constructor
  · exact .inl
  · rintro (h' | rfl)
    · exact h'
    · exact h
theorem add_new {l : List Dt} {d : Dt} {i : Nat} (hi : i ≤ (stockV l).length) (hs : Splits (stockV l) d i i) (h : hasB (stockV l) d = false) : (stockV l).take i ++ d :: (stockV l).drop i = stockV (l ++ [d]) := by
  have hm := stock_mem l
  have ha := stock_asc l
  have hnot : d ∉ stockV l := fun hd => by rw [(hasB_iff _ _).2 hd] at h; cases h
  generalize hS : stockV l = S at *
  refine asc_unique _ _ ?_ (stock_asc _) fun e => ?_
  · rw [AscD, List.pairwise_append, List.pairwise_cons]
    have h1 : ∀ a ∈ S.take i, cmpD a d < 0 := by
      intro a hat
      obtain ⟨x, hx, rfl⟩ := List.mem_iff_getElem.1 hat
      have hx' : x < i := by simp at hx; omega
      rw [List.getElem_take]
      exact hs.1 x (by omega) hx'
    have h2 : ∀ b ∈ S.drop i, cmpD d b < 0 := by
      intro b hb
      obtain ⟨x, hx, rfl⟩ := List.mem_iff_getElem.1 hb
      have hx' : x < S.length - i := by simpa using hx
      rw [List.getElem_drop]
      have hp := hs.2 (i + x) (by omega) (by omega)
      have hne : cmpD (S[i + x]'(by omega)) d ≠ 0 := fun e0 => hnot (by rw [← (cmpD_zero _ _).1 e0]; exact List.getElem_mem _)
      have := cmpD_anti d (S[i + x]'(by omega))
      omega
    refine ⟨List.Pairwise.sublist (List.take_sublist _ _) ha, ⟨h2, List.Pairwise.sublist (List.drop_sublist _ _) ha⟩, fun a hat b hb => ?_⟩
    rcases List.mem_cons.1 hb with rfl | hb
    · exact h1 a hat
    · exact cmpD_lt_trans (h1 a hat) (h2 b hb)
  · have hrhs : e ∈ stockV (l ++ [d]) ↔ (e ∈ S.take i ++ S.drop i) ∨ e = d := by rw [List.take_append_drop, hm e, stock_mem, List.mem_append, List.mem_singleton]
    rw [hrhs]
    simp only [List.mem_append, List.mem_cons]
    constructor
    · rintro (h | h | h)
      · exact .inl (.inl h)
      · exact .inr h
      · exact .inl (.inr h)
    · rintro ((h | h) | h)
      · exact .inl h
      · exact .inr (.inr h)
      · exact .inr (.inl h)
end Go.Proofs.Ythadaahemhamdaa
