/- Chapter 38: the plain law of the best places (the table's lists are the least). No statement of the seat is proved here. -/
import Derived.Test.YtddcgholnhhcoaaCost7
namespace Go.Proofs.Ytddcgholnhhcoaa
set_option linter.unusedVariables false

/-- places from i on whose segments are at most M -/
def Feas (ts : List Tk) (M : Int) : Nat → List Int → Prop
  | i, [] => (lenIn ts i (ts.length - i)).1 ≤ M
  | i, j :: Q => ∃ d : Nat, j = ((i + d : Nat) : Int) ∧ i + d < ts.length ∧ (lenIn ts i (d + 1)).1 + (ts.getD (i + d) noTk).cost ≤ M ∧ Feas ts M (i + d + 1) Q
def costP (ts : List Tk) : List Int → Int
  | [] => 0
  | j :: Q => (ts.getD j.toNat noTk).cost + costP ts Q
def KLe (c n : Int) (Q : List Int) (c' n' : Int) (Q' : List Int) : Prop := c < c' ∨ c = c' ∧ (n < n' ∨ n = n' ∧ cmpLs Q Q' ≤ 0)
theorem Feas.cost {ts : List Tk} {M : Int} (hf : AllFine ts) : ∀ (Q : List Int) (i : Nat), Feas ts M i Q → 0 ≤ costP ts Q
  | [], _, _ => Int.le_refl _
  | j :: Q, i, h => by
    obtain ⟨d, rfl, hd, _, hQ⟩ := h
    have h1 := Feas.cost hf Q _ hQ
    have h2 := hf (i + d) hd
    rw [costP, show (((i + d : Nat) : Int)).toNat = i + d by omega]
    omega

theorem inn_congr (ts : List Tk) (M : Int) (T T' : List Pl) (i : Nat) (h : ∀ x, i < x → T.getD x Pl.zero = T'.getD x Pl.zero) : ∀ d, inn ts M T i d = inn ts M T' i d
  | 0 => rfl
  | d + 1 => by
    rw [inn, inn, inn_congr ts M T T' i h d]
    unfold innStep
    rw [h (i + d + 1) (by omega)]
theorem rowV_congr (ts : List Tk) (M : Int) (T T' : List Pl) (i : Nat) (h : ∀ x, i < x → T.getD x Pl.zero = T'.getD x Pl.zero) : rowV ts M T i = rowV ts M T' i := by
  unfold rowV
  rw [inn_congr ts M T T' i h]
theorem tab_keep (ts : List Tk) (M : Int) (k : Nat) : ∀ m, k + m ≤ ts.length → ∀ x, ts.length - k ≤ x → (tabV ts M (k + m)).getD x Pl.zero = (tabV ts M k).getD x Pl.zero := by
  intro m
  induction m with
  | zero => intros; rfl
  | succ m ih =>
    intro hm x hx
    rw [← Nat.add_assoc, tabV, getD_set_ne _ _ _ _ _ (by omega)]
    exact ih (by omega) x hx
theorem tab_row (ts : List Tk) (M : Int) (i : Nat) (hi : i < ts.length) : (tabV ts M ts.length).getD i Pl.zero = rowV ts M (tabV ts M ts.length) i := by
  have e := tab_keep ts M (ts.length - i) i (by omega) i (by omega)
  rw [show ts.length - i + i = ts.length by omega] at e
  rw [e]
  obtain ⟨k, hk⟩ : ∃ k, ts.length - i = k + 1 := ⟨ts.length - i - 1, by omega⟩
  rw [hk, tabV, show ts.length - (k + 1) = i by omega, getD_set_self _ _ _ _ (by rw [tabV_len]; omega)]
  refine rowV_congr ts M _ _ i fun x hx => ?_
  have e2 := tab_keep ts M k (i + 1) (by omega) x (by omega)
  rw [show k + (i + 1) = ts.length by omega] at e2
  exact e2.symm
theorem tab_last (ts : List Tk) (M : Int) : (tabV ts M ts.length).getD ts.length Pl.zero = Pl.last := by
  have e := tab_keep ts M 0 ts.length (by omega) ts.length (by omega)
  rw [Nat.zero_add] at e
  rw [e, tabV, getD_set_self _ _ _ _ (by simp)]

/-- the choices of the first segment -/
def Opt (ts : List Tk) (M : Int) (T : List Pl) (i e : Nat) : Prop := (T.getD (i + e + 1) Pl.zero).poss = true ∧ (lenIn ts i (e + 1)).1 + (ts.getD (i + e) noTk).cost ≤ M
def optP (ts : List Tk) (T : List Pl) (i e : Nat) : Pl := ⟨true, (ts.getD (i + e) noTk).cost + (T.getD (i + e + 1) Pl.zero).cost, 1 + (T.getD (i + e + 1) Pl.zero).number, ((i + e : Nat) : Int)⟩
theorem inn_best (ts : List Tk) (M : Int) (T : List Pl) (i : Nat) : ∀ d,
    (inn ts M T i d).1 = (lenIn ts i d).1 ∧
    ((inn ts M T i d).2.poss = true → ∃ e, e < d ∧ Opt ts M T i e ∧ (inn ts M T i d).2 = optP ts T i e) ∧
    ∀ e, e < d → Opt ts M T i e → (inn ts M T i d).2.poss = true ∧ ((inn ts M T i d).2.cost < (optP ts T i e).cost ∨ (inn ts M T i d).2.cost = (optP ts T i e).cost ∧ ((inn ts M T i d).2.number < (optP ts T i e).number ∨ (inn ts M T i d).2.number = (optP ts T i e).number ∧ (inn ts M T i d).2.first ≤ ((i + e : Nat) : Int))) := by
  intro d
  induction d with
  | zero => exact ⟨rfl, fun h => by simp [inn, Pl.zero] at h, fun e he => by omega⟩
  | succ d ih =>
    obtain ⟨h1, h2, h3⟩ := ih
    have hl : (lenIn ts i (d + 1)).1 = (lenIn ts i d).1 + (ts.getD (i + d) noTk).work := rfl
    rw [inn, innStep]
    simp only
    rw [h1, ← hl]
    by_cases ho : Opt ts M T i d
    · have hno : ¬ ((T.getD (i + d + 1) Pl.zero).poss = false ∨ M < (lenIn ts i (d + 1)).1 + (ts.getD (i + d) noTk).cost) := by
        obtain ⟨o1, o2⟩ := ho
        rintro (h | h)
        · rw [o1] at h; exact absurd h (by decide)
        · omega
      rw [if_neg hno]
      simp only
      have hp : (⟨true, (ts.getD (i + d) noTk).cost + (T.getD (i + d + 1) Pl.zero).cost, 1 + (T.getD (i + d + 1) Pl.zero).number, ((i + d : Nat) : Int)⟩ : Pl) = optP ts T i d := rfl
      rw [hp]
      refine ⟨trivial, ?_⟩
      by_cases hlt : (optP ts T i d).lt (inn ts M T i d).2 = true
      · rw [if_pos hlt]
        refine ⟨fun _ => ⟨d, by omega, ho, rfl⟩, fun e he hoe => ⟨rfl, ?_⟩⟩
        by_cases hed : e = d
        · subst hed
          exact .inr ⟨rfl, .inr ⟨rfl, Int.le_refl _⟩⟩
        · obtain ⟨q1, q2⟩ := h3 e (by omega) hoe
          simp only [Pl.lt, q1, Bool.not_true, Bool.false_or, Bool.and_eq_true, Bool.or_eq_true, decide_eq_true_eq] at hlt
          omega
      · rw [if_neg hlt]
        refine ⟨fun hq => ?_, fun e he hoe => ?_⟩
        · obtain ⟨e, he, h⟩ := h2 hq
          exact ⟨e, by omega, h⟩
        · by_cases hed : e = d
          · subst hed
            have hpos : (inn ts M T i e).2.poss = true := by
              rcases hq : (inn ts M T i e).2.poss with _ | _
              · exact absurd (by simp [Pl.lt, hq, optP]) hlt
              · rfl
            refine ⟨hpos, ?_⟩
            obtain ⟨e', he', _, hE⟩ := h2 hpos
            have hfi : (inn ts M T i e).2.first = ((i + e' : Nat) : Int) := by rw [hE]; rfl
            simp only [Pl.lt, hpos, Bool.not_true, Bool.false_or, Bool.and_eq_true, Bool.or_eq_true, decide_eq_true_eq] at hlt
            have hop : (optP ts T i e).poss = true := rfl
            rw [hop] at hlt
            have : (inn ts M T i e).2.first ≤ ((i + e : Nat) : Int) := by omega
            simp only [true_and] at hlt
            omega
          · exact h3 e (by omega) hoe
    · have hno : ((T.getD (i + d + 1) Pl.zero).poss = false ∨ M < (lenIn ts i (d + 1)).1 + (ts.getD (i + d) noTk).cost) := by
        by_cases hq : (T.getD (i + d + 1) Pl.zero).poss = true
        · right
          exact Int.lt_of_not_ge fun h => ho ⟨hq, h⟩
        · left
          simpa using hq
      rw [if_pos hno]
      refine ⟨rfl, fun hq => ?_, fun e he hoe => ?_⟩
      · obtain ⟨e, he, h⟩ := h2 hq
        exact ⟨e, by omega, h⟩
      · by_cases hed : e = d
        · subst hed; exact absurd hoe ho
        · exact h3 e (by omega) hoe

/-- the places that the table gives from i on -/
abbrev fol (ts : List Tk) (M : Int) (i : Nat) : List Int := follow (tabV ts M ts.length) (ts.length + 1 - i) i
abbrev ent (ts : List Tk) (M : Int) (i : Nat) : Pl := (tabV ts M ts.length).getD i Pl.zero
theorem tab_good (ts : List Tk) (M : Int) (hf : AllFine ts) : GoodTab ts.length 0 (tabV ts M ts.length) := by
  have := tabV_good ts M hf ts.length (Nat.le_refl _)
  rwa [Nat.sub_self] at this
theorem cmpLs_nil_le (Q : List Int) : cmpLs [] Q ≤ 0 := by cases Q <;> simp [cmpLs]
theorem ent_best (ts : List Tk) (M : Int) (hf : AllFine ts) (hM : 0 ≤ M) : ∀ m i, ts.length - i = m → i ≤ ts.length →
    ((ent ts M i).poss = true → Feas ts M i (fol ts M i) ∧ costP ts (fol ts M i) = (ent ts M i).cost ∧ ((fol ts M i).length : Int) = (ent ts M i).number) ∧
    ∀ Q, Feas ts M i Q → (ent ts M i).poss = true ∧ KLe (ent ts M i).cost (ent ts M i).number (fol ts M i) (costP ts Q) Q.length Q := by
  intro m
  induction m using Nat.strongRecOn with
  | _ m ih =>
    intro i hm hi
    have hG := tab_good ts M hf
    by_cases hin : i = ts.length
    · subst hin
      have hl := tab_last ts M
      have hfol : fol ts M ts.length = [] := follow_end _ hi (by rw [hl]; decide)
      have hent : ent ts M ts.length = Pl.last := hl
      rw [hfol, hent]
      refine ⟨fun _ => ⟨?_, rfl, rfl⟩, fun Q hQ => ⟨rfl, ?_⟩⟩
      · show (lenIn ts ts.length (ts.length - ts.length)).1 ≤ M
        rw [Nat.sub_self]; exact hM
      · cases Q with
        | nil => exact .inr ⟨rfl, .inr ⟨rfl, by simp [cmpLs]⟩⟩
        | cons j Q =>
          obtain ⟨d, _, hd, _⟩ := hQ
          omega
    · have hlt : i < ts.length := by omega
      obtain ⟨b1, b2, b3⟩ := inn_best ts M (tabV ts M ts.length) i (ts.length - i)
      have hrow : ent ts M i = rowV ts M (tabV ts M ts.length) i := tab_row ts M i hlt
      unfold rowV at hrow
      simp only at hrow
      rw [b1] at hrow
      generalize inn ts M (tabV ts M ts.length) i (ts.length - i) = s at *
      have key : ∀ e, i + e < ts.length → Opt ts M (tabV ts M ts.length) i e → ent ts M i = optP ts (tabV ts M ts.length) i e →
          Feas ts M i (fol ts M i) ∧ costP ts (fol ts M i) = (ent ts M i).cost ∧ ((fol ts M i).length : Int) = (ent ts M i).number ∧ fol ts M i = ((i + e : Nat) : Int) :: fol ts M (i + e + 1) := by
        intro e he ho hE
        have hfi : (ent ts M i).first = ((i + e : Nat) : Int) := by rw [hE]; rfl
        have hpo : (ent ts M i).poss = true := by rw [hE]; rfl
        have hfm := (follow_more hG i hi hpo (by show 0 ≤ (ent ts M i).first; omega)).1
        rw [hfi, show (((i + e : Nat) : Int)).toNat = i + e by omega] at hfm
        have hfm' : fol ts M i = ((i + e : Nat) : Int) :: fol ts M (i + e + 1) := hfm
        obtain ⟨r1, r2, r3⟩ := (ih (ts.length - (i + e + 1)) (by omega) (i + e + 1) rfl (by omega)).1 ho.1
        have hc : (ent ts M i).cost = (ts.getD (i + e) noTk).cost + (ent ts M (i + e + 1)).cost := by rw [hE]; rfl
        have hn : (ent ts M i).number = 1 + (ent ts M (i + e + 1)).number := by rw [hE]; rfl
        refine ⟨?_, ?_, ?_, hfm'⟩
        · rw [hfm']; exact ⟨e, rfl, he, ho.2, r1⟩
        · rw [hfm', costP, show (((i + e : Nat) : Int)).toNat = i + e by omega, r2, hc]
        · rw [hfm', List.length_cons, hn]; push_cast; omega
      have hnum : s.2.poss = true → 0 ≤ s.2.cost ∧ 1 ≤ s.2.number := by
        intro hp
        obtain ⟨e, he, ho, hE⟩ := b2 hp
        have g := hG (i + e + 1) (by omega) (by omega)
        have hfe := hf (i + e) (by omega)
        rw [hE]
        refine ⟨?_, ?_⟩
        · have := g.1; show 0 ≤ (ts.getD (i + e) noTk).cost + ((tabV ts M ts.length).getD (i + e + 1) Pl.zero).cost; omega
        · have := g.2.1; show 1 ≤ 1 + ((tabV ts M ts.length).getD (i + e + 1) Pl.zero).number; omega
      by_cases hL : (lenIn ts i (ts.length - i)).1 ≤ M ∧ Pl.last.lt s.2 = true
      · rw [if_pos hL] at hrow
        have hfol : fol ts M i = [] := follow_end i hi (by rw [show (tabV ts M ts.length).getD i Pl.zero = Pl.last from hrow]; decide)
        rw [hfol, hrow]
        refine ⟨fun _ => ⟨hL.1, rfl, rfl⟩, fun Q hQ => ⟨rfl, ?_⟩⟩
        have h0 := Feas.cost hf Q i hQ
        show KLe 0 0 [] _ _ _
        have h1 := cmpLs_nil_le Q
        unfold KLe
        omega
      · rw [if_neg hL] at hrow
        refine ⟨fun hp => ?_, fun Q hQ => ?_⟩
        · rw [hrow] at hp
          obtain ⟨e, he, ho, hE⟩ := b2 hp
          rw [← hrow] at hE
          obtain ⟨k1, k2, k3, _⟩ := key e (by omega) ho hE
          exact ⟨k1, k2, k3⟩
        · cases Q with
          | nil =>
            exfalso
            have hw : (lenIn ts i (ts.length - i)).1 ≤ M := hQ
            refine hL ⟨hw, ?_⟩
            rcases hp : s.2.poss with _ | _
            · simp [Pl.lt, Pl.last, hp]
            · have := hnum hp
              by_cases hc : 0 < s.2.cost
              · simp [Pl.lt, Pl.last, hp, hc]
              · have hc0 : s.2.cost = 0 := by omega
                have hn0 : 0 < s.2.number := by omega
                simp [Pl.lt, Pl.last, hp, hc0, hn0]
          | cons j Q =>
            obtain ⟨e, rfl, he, hle, hQ'⟩ := hQ
            obtain ⟨p1, p2⟩ := (ih (ts.length - (i + e + 1)) (by omega) (i + e + 1) rfl (by omega)).2 Q hQ'
            obtain ⟨c1, c2⟩ := b3 e (by omega) ⟨p1, hle⟩
            obtain ⟨e', he', ho', hE'⟩ := b2 c1
            rw [← hrow] at hE' c1 c2
            refine ⟨c1, ?_⟩
            obtain ⟨_, _, _, k4⟩ := key e' (by omega) ho' hE'
            have hfi : (ent ts M i).first = ((i + e' : Nat) : Int) := by rw [hE']; rfl
            have hoc : (optP ts (tabV ts M ts.length) i e).cost = (ts.getD (i + e) noTk).cost + (ent ts M (i + e + 1)).cost := rfl
            have hon : (optP ts (tabV ts M ts.length) i e).number = 1 + (ent ts M (i + e + 1)).number := rfl
            rw [hoc, hon, hfi] at c2
            rw [costP, show (((i + e : Nat) : Int)).toNat = i + e by omega, k4, List.length_cons]
            unfold KLe at p2 ⊢
            rw [cmpLs]
            have hci := cmpI_neg ((i + e' : Nat) : Int) ((i + e : Nat) : Int)
            have hcz := cmpI_zero ((i + e' : Nat) : Int) ((i + e : Nat) : Int)
            by_cases hee : e' = e
            · subst hee
              rw [if_pos (hcz.2 rfl)]
              push_cast
              omega
            · rw [if_neg (by rw [hcz]; omega)]
              push_cast at *
              omega
/-- of all lists with segments of at most M the table's is the least -/
theorem divide_least (ts : List Tk) (M : Int) (hf : AllFine ts) (hM : 0 ≤ M) :
    (∀ L, divideV ts M = some L → Feas ts M 0 L) ∧ ∀ Q, Feas ts M 0 Q → ∃ L, divideV ts M = some L ∧ KLe (costP ts L) L.length L (costP ts Q) Q.length Q := by
  obtain ⟨h1, h2⟩ := ent_best ts M hf hM ts.length 0 rfl (Nat.zero_le _)
  refine ⟨fun L hL => ?_, fun Q hQ => ?_⟩
  · unfold divideV at hL
    split at hL
    · rename_i hp
      injection hL with hL
      subst hL
      exact (h1 hp).1
    · cases hL
  · obtain ⟨hp, hk⟩ := h2 Q hQ
    obtain ⟨_, e1, e2⟩ := h1 hp
    rw [← e1, ← e2] at hk
    exact ⟨_, if_pos hp, hk⟩
end Go.Proofs.Ytddcgholnhhcoaa
