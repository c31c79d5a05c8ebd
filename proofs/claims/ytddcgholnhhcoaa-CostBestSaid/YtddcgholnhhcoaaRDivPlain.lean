/- Chapter 38: the plain law of the reference's table. No statement of the seat is proved here. -/
import Derived.Test.YtddcgholnhhcoaaLeastPlain2
import Derived.Test.YtddcgholnhhcoaaRBetter
namespace Go.Proofs.Ytddcgholnhhcoaa
set_option linter.unusedVariables false

theorem cmpLs_anti : ∀ a b : List Int, cmpLs b a = - cmpLs a b
  | [], [] => rfl
  | [], _ :: _ => rfl
  | _ :: _, [] => rfl
  | x :: xs, y :: ys => by
    rw [cmpLs, cmpLs]
    have h1 := cmpI_anti x y
    by_cases h : cmpI x y = 0
    · rw [if_pos h, if_pos (by omega), cmpLs_anti xs ys]
    · rw [if_neg h, if_neg (by omega), h1]
theorem KLe.refl (c n : Int) (Q : List Int) : KLe c n Q c n Q := .inr ⟨rfl, .inr ⟨rfl, by rw [cmpLs_self]; omega⟩⟩
theorem cmpLs_le_trans (a b c : List Int) (h1 : cmpLs a b ≤ 0) (h2 : cmpLs b c ≤ 0) : cmpLs a c ≤ 0 := by
  by_cases e1 : cmpLs a b = 0
  · rw [cmpLs_eq a b e1]; exact h2
  · by_cases e2 : cmpLs b c = 0
    · rw [← cmpLs_eq b c e2]; exact h1
    · have := cmpLs_trans a b c (by omega) (by omega)
      omega
theorem KLe.trans {c n c' n' c2 n2 : Int} {Q Q' Q2 : List Int} (h : KLe c n Q c' n' Q') (k : KLe c' n' Q' c2 n2 Q2) : KLe c n Q c2 n2 Q2 := by
  have t := cmpLs_le_trans Q Q' Q2
  unfold KLe at *
  omega
theorem KLe.anti {c n c' n' : Int} {Q Q' : List Int} (h : KLe c n Q c' n' Q') (k : KLe c' n' Q' c n Q) : Q = Q' := by
  have a := cmpLs_anti Q Q'
  unfold KLe at *
  exact cmpLs_eq Q Q' (by omega)
/-- the places of a plan and its cost -/
def Sol (ts : List Tk) (M : Int) (i : Nat) (C : List Int → Prop) (p : Bool) (c : Int) (L : List Int) : Prop :=
  (p = true → Feas ts M i L ∧ costP ts L = c) ∧ (p = false → L = [] ∧ c = 0) ∧ ∀ Q, Feas ts M i Q → C Q → p = true ∧ KLe c L.length L (costP ts Q) Q.length Q
/-- the first place lies ahead of i + d; the end counts at last -/
def Ahead (n x : Nat) (e : Bool) : List Int → Prop
  | [] => e = true
  | q :: _ => q < (x : Int)
theorem sol_none (ts : List Tk) (M : Int) (i : Nat) : Sol ts M i (Ahead ts.length i false) false 0 [] :=
  by
  refine ⟨fun h => (by cases h), fun _ => ⟨rfl, rfl⟩, fun Q hQ hA => ?_⟩
  cases Q with
  | nil => cases hA
  | cons q Q =>
    obtain ⟨d, rfl, _⟩ := hQ
    have : (((i + d : Nat) : Int)) < (i : Int) := hA
    omega
/-- the better one of two plans -/
theorem sol_better {ts : List Tk} {M : Int} {i : Nat} {C C' D : List Int → Prop} {p : Bool} {c : Int} {a : List Int} {d : Int} {b : List Int} (h : Sol ts M i C p c a)
    (hb : Feas ts M i b) (hc : costP ts b = d) (hD : ∀ Q, Feas ts M i Q → D Q → KLe d b.length b (costP ts Q) Q.length Q) (hC : ∀ Q, C' Q → C Q ∨ D Q) :
    Sol ts M i C' (if rbV p c a true d b then true else p) (if rbV p c a true d b then d else c) (if rbV p c a true d b then b else a) := by
  obtain ⟨h1, h2, h3⟩ := h
  by_cases hr : rbV p c a true d b = true
  · rw [hr]
    simp only [if_true]
    refine ⟨fun _ => ⟨hb, hc⟩, fun h => (by cases h), fun Q hQ hq => ⟨rfl, ?_⟩⟩
    rcases hC Q hq with h | h
    · obtain ⟨q1, q2⟩ := h3 Q hQ h
      subst q1
      refine KLe.trans ?_ q2
      have hs := cmpLs_anti a b
      simp only [rbV, Bool.not_true, Bool.true_and, Bool.false_or, Bool.or_eq_true, Bool.and_eq_true, decide_eq_true_eq] at hr
      unfold KLe
      rcases hr with hr | ⟨hr, hv⟩
      · exact .inl hr
      · refine .inr ⟨hr, ?_⟩
        unfold betV at hv
        by_cases hl : b.length = a.length
        · rw [if_pos hl] at hv
          have := of_decide_eq_true hv
          omega
        · rw [if_neg hl] at hv
          have := of_decide_eq_true hv
          omega
    · exact hD Q hQ h
  · have hr' : rbV p c a true d b = false := by simpa using hr
    rw [hr']
    simp only [Bool.false_eq_true, if_false]
    refine ⟨h1, h2, fun Q hQ hq => ?_⟩
    rcases hC Q hq with h | h
    · exact h3 Q hQ h
    · have hp : p = true := by
        cases p
        · simp [rbV] at hr'
        · rfl
      subst hp
      refine ⟨rfl, KLe.trans ?_ (hD Q hQ h)⟩
      have hs := cmpLs_anti a b
      simp only [rbV, Bool.not_true, Bool.true_and, Bool.false_or, Bool.or_eq_false_iff, Bool.and_eq_false_iff, decide_eq_false_iff_not] at hr'
      obtain ⟨k1, k2⟩ := hr'
      unfold KLe
      by_cases he : d = c
      · rcases k2 with k2 | k2
        · exact absurd he k2
        · refine .inr ⟨he.symm, ?_⟩
          unfold betV at k2
          by_cases hl : b.length = a.length
          · rw [if_pos hl] at k2
            have := of_decide_eq_false k2
            omega
          · rw [if_neg hl] at k2
            have := of_decide_eq_false k2
            omega
      · exact .inl (by omega)
theorem Sol.weak {ts : List Tk} {M : Int} {i : Nat} {C C' : List Int → Prop} {p : Bool} {c : Int} {a : List Int} (h : Sol ts M i C p c a) (hC : ∀ Q, Feas ts M i Q → C' Q → C Q) : Sol ts M i C' p c a :=
  ⟨h.1, h.2.1, fun Q hQ hq => h.2.2 Q hQ (hC Q hQ hq)⟩
/-- all the rest is done at the end -/
theorem sol_end {ts : List Tk} (M : Int) (hM : 0 ≤ M) : Sol ts M ts.length (fun _ => True) true 0 [] :=
  by
  refine ⟨fun _ => ⟨by show (lenIn ts ts.length (ts.length - ts.length)).1 ≤ M; rw [Nat.sub_self]; exact hM, rfl⟩, fun h => (by cases h), fun Q hQ _ => ⟨rfl, ?_⟩⟩
  cases Q with
  | nil => exact KLe.refl _ _ _
  | cons j Q =>
    obtain ⟨d, _, hd, _⟩ := hQ
    omega
/-- the whole rest in one segment -/
theorem sol_last {ts : List Tk} {M : Int} {i : Nat} {p : Bool} {c : Int} {a : List Int} (hf : AllFine ts) (hi : i ≤ ts.length) {x : Nat} (h : Sol ts M i (Ahead ts.length x false) p c a) (hl : (lenIn ts i (ts.length - i)).1 ≤ M) :
    Sol ts M i (Ahead ts.length x true) (if rbV p c a true 0 [] then true else p) (if rbV p c a true 0 [] then 0 else c) (if rbV p c a true 0 [] then [] else a) :=
  sol_better h (D := fun Q => Q = []) hl rfl (fun Q hQ hq => by subst hq; exact KLe.refl _ _ _) (fun Q hQ => by
    cases Q with
    | nil => exact .inr rfl
    | cons q Q => exact .inl hQ)
theorem sol_long {ts : List Tk} {M : Int} {i : Nat} {p : Bool} {c : Int} {a : List Int} {x : Nat} (h : Sol ts M i (Ahead ts.length x false) p c a) (hl : ¬ (lenIn ts i (ts.length - i)).1 ≤ M) : Sol ts M i (Ahead ts.length x true) p c a :=
  h.weak fun Q hQ hq => by
    cases Q with
    | nil => exact absurd hQ hl
    | cons q Q => exact hq
/-- a place after task i + d -/
theorem sol_place {ts : List Tk} {M : Int} {i d : Nat} {e : Bool} {p : Bool} {c : Int} {a : List Int} {q : Int} {b : List Int} (h : Sol ts M i (Ahead ts.length (i + d) e) p c a) (hd : i + d < ts.length)
    (hl : (lenIn ts i (d + 1)).1 + (ts.getD (i + d) noTk).cost ≤ M) (hs : Sol ts M (i + d + 1) (fun _ => True) true q b) :
    Sol ts M i (Ahead ts.length (i + d + 1) e) (if rbV p c a true ((ts.getD (i + d) noTk).cost + q) (((i + d : Nat) : Int) :: b) then true else p) (if rbV p c a true ((ts.getD (i + d) noTk).cost + q) (((i + d : Nat) : Int) :: b) then (ts.getD (i + d) noTk).cost + q else c) (if rbV p c a true ((ts.getD (i + d) noTk).cost + q) (((i + d : Nat) : Int) :: b) then ((i + d : Nat) : Int) :: b else a) := by
  obtain ⟨s1, s2⟩ := hs.1 rfl
  refine sol_better h (D := fun Q => ∃ Q', Q = ((i + d : Nat) : Int) :: Q') ⟨d, rfl, hd, hl, s1⟩ ?_ ?_ ?_
  · rw [costP, show (((i + d : Nat) : Int)).toNat = i + d by omega, s2]
  · rintro Q hQ ⟨Q', rfl⟩
    obtain ⟨d', e1, e2, e3, e4⟩ := hQ
    obtain rfl : d = d' := by omega
    obtain ⟨_, k⟩ := hs.2.2 Q' e4 trivial
    rw [costP, show (((i + d : Nat) : Int)).toNat = i + d by omega, List.length_cons, List.length_cons]
    have hz := (cmpI_zero ((i + d : Nat) : Int) ((i + d : Nat) : Int)).2 rfl
    unfold KLe at *
    rw [cmpLs, if_pos hz]
    push_cast
    omega
  · intro Q hQ
    cases Q with
    | nil => exact .inl hQ
    | cons q' Q =>
      have hq : q' < ((i + d + 1 : Nat) : Int) := hQ
      by_cases he : q' = ((i + d : Nat) : Int)
      · exact .inr ⟨Q, by rw [he]⟩
      · exact .inl (by show q' < ((i + d : Nat) : Int); omega)
theorem sol_skip {ts : List Tk} {M : Int} {i d : Nat} {e : Bool} {p r : Bool} {c : Int} {a : List Int} {q : Int} {b : List Int} (h : Sol ts M i (Ahead ts.length (i + d) e) p c a) (hs : Sol ts M (i + d + 1) (fun _ => True) r q b)
    (hn : ¬ ((lenIn ts i (d + 1)).1 + (ts.getD (i + d) noTk).cost ≤ M ∧ r = true)) : Sol ts M i (Ahead ts.length (i + d + 1) e) p c a :=
  h.weak fun Q hQ hq => by
    cases Q with
    | nil => exact hq
    | cons q' Q =>
      have hq : q' < ((i + d + 1 : Nat) : Int) := hq
      obtain ⟨d', e1, e2, e3, e4⟩ := hQ
      by_cases he : d' = d
      · subst he
        exact absurd ⟨e3, (hs.2.2 Q e4 trivial).1⟩ hn
      · show q' < ((i + d : Nat) : Int)
        omega
/-- every list is seen -/
theorem sol_all {ts : List Tk} {M : Int} {i : Nat} {p : Bool} {c : Int} {a : List Int} (h : Sol ts M i (Ahead ts.length ts.length true) p c a) : Sol ts M i (fun _ => True) p c a :=
  h.weak fun Q hQ _ => by
    cases Q with
    | nil => rfl
    | cons q' Q =>
      obtain ⟨d', e1, e2, e3, e4⟩ := hQ
      show q' < ((ts.length : Nat) : Int)
      omega
theorem sol_divide {ts : List Tk} {M : Int} (hf : AllFine ts) (hM : 0 ≤ M) {p : Bool} {c : Int} {L : List Int} (h : Sol ts M 0 (fun _ => True) p c L) :
    (p = true ∧ divideV ts M = some L) ∨ (p = false ∧ divideV ts M = none) := by
  obtain ⟨d1, d2⟩ := divide_least ts M hf hM
  cases p
  · right
    refine ⟨rfl, ?_⟩
    rcases hq : divideV ts M with _ | Q
    · rfl
    · have := (h.2.2 Q (d1 Q hq) trivial).1
      cases this
  · left
    refine ⟨rfl, ?_⟩
    obtain ⟨f1, f2⟩ := h.1 rfl
    obtain ⟨Q, hQ, hK⟩ := d2 L f1
    obtain ⟨_, k⟩ := h.2.2 Q (d1 Q hQ) trivial
    rw [← f2] at k
    rw [hQ, KLe.anti hK k]
theorem ascF_len {n : Nat} : ∀ (Q : List Int) (i : Nat), AscF n i Q → Q.length ≤ n - i
  | [], _, _ => Nat.zero_le _
  | j :: Q, i, h => by
    obtain ⟨d, _, h2, h3⟩ := h
    have := ascF_len Q _ h3
    rw [List.length_cons]
    omega
theorem costP_bd {ts : List Tk} (hf : AllFine ts) : ∀ (Q : List Int) (i : Nat), AscF ts.length i Q → i ≤ ts.length → costP ts Q ≤ 1048576 * ((ts.length : Int) - i)
  | [], i, _, hi => by rw [costP]; omega
  | j :: Q, i, h, hi => by
    obtain ⟨d, rfl, h2, h3⟩ := h
    have := costP_bd hf Q _ h3 (by omega)
    have := hf (i + d) h2
    rw [costP, show (((i + d : Nat) : Int)).toNat = i + d by omega]
    omega
/-- bounds of a plan -/
theorem Sol.bd {ts : List Tk} {M : Int} {i : Nat} {C : List Int → Prop} {p : Bool} {c : Int} {a : List Int} (hf : AllFine ts) (hi : i ≤ ts.length) (h : Sol ts M i C p c a) : (0 ≤ c ∧ c ≤ 1048576 * ((ts.length : Int) - i)) ∧ a.length ≤ ts.length - i := by
  cases p
  · obtain ⟨rfl, rfl⟩ := h.2.1 rfl
    exact ⟨⟨by omega, by omega⟩, Nat.zero_le _⟩
  · obtain ⟨h1, rfl⟩ := h.1 rfl
    exact ⟨⟨h1.cost hf, costP_bd hf a i (Feas.ascF a i h1) hi⟩, ascF_len a i (Feas.ascF a i h1)⟩
/-- not beaten by the tables' lists: not beaten at all -/
theorem least_of {ts : List Tk} {f r : Int} {P : List Int} (hz : refuseV ts f r = 0) (hP : ∀ k, k ∈ lenOut ts ts.length → ∀ L, divideV ts k = some L → ¬ Beats ts f r L P) (Q : List Int) (hQ : AscF ts.length 0 Q) : ¬ Beats ts f r Q P := by
  intro hB
  obtain ⟨z1, z2, z3, z4, z5⟩ := refuse_zero hz
  have hf := allFine_of ts z3
  obtain ⟨q1, q2, q3, q4, q5⟩ := worst_law ts Q f r hz hQ
  have hFQ := (q5 _ q3).1 (Int.le_refl _)
  obtain ⟨d1, d2⟩ := divide_least ts (fin ts Q) hf q3
  obtain ⟨L, hL, hK⟩ := d2 Q hFQ
  have hFL := d1 L hL
  obtain ⟨l1, l2, l3, l4, l5⟩ := worst_law ts L f r hz (Feas.ascF L 0 hFL)
  have hle := (l5 _ q3).2 hFL
  have hnot : ¬ Beats ts f r L P := hP _ q4 L hL
  have hmul : f * (r + fin ts L) ≤ f * (r + fin ts Q) := Int.mul_le_mul_of_nonneg_left (by omega) z4.1
  have hw : wv ts f r L ≤ wv ts f r Q := by
    rcases hK with h | ⟨h, _⟩ <;> omega
  have c1 := cmpI_neg (wv ts f r L) (wv ts f r Q)
  have c2 := cmpI_zero (wv ts f r L) (wv ts f r Q)
  have c3 := cmpI_neg (L.length : Int) (Q.length : Int)
  have c4 := cmpI_zero (L.length : Int) (Q.length : Int)
  have hkey : cmpLs (keyL ts f r L) (keyL ts f r Q) ≤ 0 := by
    unfold keyL
    rw [cmpLs, cmpLs]
    by_cases he : wv ts f r L = wv ts f r Q
    · rw [if_pos (c2.2 he)]
      rcases hK with h | ⟨_, h | ⟨h, h'⟩⟩
      · omega
      · rw [if_neg (by omega)]; omega
      · rw [if_pos (c4.2 h)]; exact h'
    · rw [if_neg (by rw [c2]; exact he)]
      have : cmpI (wv ts f r L) (wv ts f r Q) < 0 := c1.2 (by omega)
      omega
  by_cases h0 : cmpLs (keyL ts f r L) (keyL ts f r Q) = 0
  · have e := cmpLs_eq _ _ h0
    unfold Beats at hB hnot
    rw [e] at hnot
    exact hnot hB
  · exact hnot (cmpLs_trans _ _ _ (by omega) hB)
/-- neither beats the other -/
theorem same_best {ts : List Tk} {f r : Int} {P R : List Int} (h1 : ¬ Beats ts f r P R) (h2 : ¬ Beats ts f r R P) : P = R := by
  unfold Beats at *
  have := cmpLs_anti (keyL ts f r P) (keyL ts f r R)
  have := cmpLs_eq (keyL ts f r P) (keyL ts f r R) (by omega)
  unfold keyL at this
  injection this with _ h
  injection h
end Go.Proofs.Ytddcgholnhhcoaa
