/- Chapter 38: the plain law of the best places (the worst case by segments). No statement of the seat is proved here. -/
import Derived.Test.YtddcgholnhhcoaaLeastPlain
namespace Go.Proofs.Ytddcgholnhhcoaa
set_option linter.unusedVariables false

def AscF (n : Nat) : Nat → List Int → Prop
  | _, [] => True
  | i, j :: Q => ∃ d : Nat, j = ((i + d : Nat) : Int) ∧ i + d < n ∧ AscF n (i + d + 1) Q
theorem Feas.ascF {ts : List Tk} {M : Int} : ∀ (Q : List Int) (i : Nat), Feas ts M i Q → AscF ts.length i Q
  | [], _, _ => trivial
  | j :: Q, i, h => by
    obtain ⟨d, h1, h2, _, h4⟩ := h
    exact ⟨d, h1, h2, Feas.ascF Q _ h4⟩
theorem ascF_at {n : Nat} : ∀ (Q : List Int) (i : Nat), AscF n i Q → ∀ k, k < Q.length → (i : Int) ≤ Q.getD k 0 ∧ Q.getD k 0 < n ∧ (k = 0 ∨ Q.getD (k - 1) 0 < Q.getD k 0)
  | [], _, _, k, hk => by simp at hk
  | j :: Q, i, h, k, hk => by
    obtain ⟨d, rfl, h2, h3⟩ := h
    cases k with
    | zero => exact ⟨by simp only [List.getD_cons_zero]; omega, by simp only [List.getD_cons_zero]; omega, .inl rfl⟩
    | succ k =>
      have hk' : k < Q.length := by simpa using hk
      obtain ⟨a1, a2, a3⟩ := ascF_at Q _ h3 k hk'
      simp only [List.getD_cons_succ, Nat.add_sub_cancel]
      refine ⟨by omega, a2, .inr ?_⟩
      cases k with
      | zero => simp only [List.getD_cons_zero]; omega
      | succ k =>
        rcases a3 with h | h
        · omega
        · simpa using h
theorem ascF_places {n : Nat} {Q : List Int} (h : AscF n 0 Q) : placesUpTo n Q Q.length = true := by
  have : ∀ m, m ≤ Q.length → placesUpTo n Q m = true := by
    intro m
    induction m with
    | zero => intro _; rfl
    | succ m ih =>
      intro hm
      obtain ⟨a1, a2, a3⟩ := ascF_at Q 0 h m (by omega)
      rw [placesUpTo, ih (by omega)]
      simp only [placeOk, Bool.true_and, Bool.and_eq_true, Bool.or_eq_true, decide_eq_true_eq]
      exact ⟨⟨by omega, a2⟩, a3⟩
  exact this _ (Nat.le_refl _)

theorem lenIn_add (ts : List Tk) (i d : Nat) : ∀ m, (lenIn ts i (d + m)).1 = (lenIn ts i d).1 + (lenIn ts (i + d) m).1
  | 0 => by simp [lenIn]
  | m + 1 => by
    rw [← Nat.add_assoc, lenIn, lenIn]
    simp only
    rw [lenIn_add ts i d m, Nat.add_assoc i d m]
    omega
theorem mem_lenIn (ts : List Tk) (i e : Nat) : ∀ d, e < d → (lenIn ts i (e + 1)).1 + (ts.getD (i + e) noTk).cost ∈ (lenIn ts i d).2
  | 0, h => by omega
  | d + 1, h => by
    rw [show (lenIn ts i (d + 1)).2 = (lenIn ts i d).2 ++ [(lenIn ts i d).1 + (ts.getD (i + d) noTk).work + (ts.getD (i + d) noTk).cost] from rfl]
    simp only [List.mem_append, List.mem_singleton]
    by_cases hed : e = d
    · subst hed; exact .inr rfl
    · exact .inl (mem_lenIn ts i e d (by omega))
theorem mem_lenOut (ts : List Tk) (i : Nat) : ∀ m, i < m → (∀ e, i + e < ts.length → (lenIn ts i (e + 1)).1 + (ts.getD (i + e) noTk).cost ∈ lenOut ts m) ∧ (lenIn ts i (ts.length - i)).1 ∈ lenOut ts m
  | 0, h => by omega
  | m + 1, h => by
    rw [lenOut]
    by_cases him : i = m
    · subst him
      refine ⟨fun e he => ?_, by simp⟩
      have := mem_lenIn ts i e (ts.length - i) (by omega)
      simp only [List.mem_append]
      exact .inl (.inr this)
    · obtain ⟨a1, a2⟩ := mem_lenOut ts i m (by omega)
      simp only [List.mem_append]
      exact ⟨fun e he => .inl (.inl (a1 e he)), .inl (.inl a2)⟩

theorem seg_run (ts : List Tk) (ps : List Int) (i : Nat) (hs : (wAt ts ps i).length = 0) : ∀ d, (∀ e, e < d → ¬ ((wAt ts ps i).next < ps.length ∧ ps.getD (wAt ts ps i).next 0 = ((i + e : Nat) : Int))) →
    wAt ts ps (i + d) = ⟨(wAt ts ps i).total + (lenIn ts i d).1, (wAt ts ps i).longest, (lenIn ts i d).1, (wAt ts ps i).next⟩
  | 0, _ => by
    simp only [Nat.add_zero, lenIn]
    rw [show (wAt ts ps i).total + 0 = (wAt ts ps i).total by omega, ← hs]
  | d + 1, h => by
    rw [← Nat.add_assoc, wAt, seg_run ts ps i hs d (fun e he => h e (by omega)), wStep]
    simp only
    rw [if_neg (h d (by omega)), lenIn]
    simp only
    rw [Int.add_assoc]
abbrev fin (ts : List Tk) (ps : List Int) : Int := max (wAt ts ps ts.length).longest (wAt ts ps ts.length).length
theorem run_law (ts : List Tk) (ps : List Int) (hf : AllFine ts) : ∀ (Q : List Int) (i k : Nat), ps.drop k = Q → (wAt ts ps i).length = 0 → (wAt ts ps i).next = k → 0 ≤ (wAt ts ps i).longest → i ≤ ts.length → AscF ts.length i Q →
    (wAt ts ps ts.length).total = (wAt ts ps i).total + (lenIn ts i (ts.length - i)).1 + costP ts Q ∧
    (∀ M, 0 ≤ M → (fin ts ps ≤ M ↔ (wAt ts ps i).longest ≤ M ∧ Feas ts M i Q)) ∧
    (fin ts ps = (wAt ts ps i).longest ∨ fin ts ps ∈ lenOut ts ts.length) ∧
    (i < ts.length → ∃ l, l ∈ lenOut ts ts.length ∧ 0 ≤ l ∧ l ≤ fin ts ps) ∧ (wAt ts ps i).longest ≤ fin ts ps
  | [], i, k, hd, h1, h2, h3, hi, _ => by
    have hk : ps.length ≤ k := by
      have := congrArg List.length hd
      simp at this
      omega
    have e := seg_run ts ps i h1 (ts.length - i) (fun e he h => by omega)
    rw [show i + (ts.length - i) = ts.length by omega] at e
    have hb := lenIn_bd ts i hf (ts.length - i) (by omega)
    unfold fin
    rw [e]
    simp only [costP, Feas]
    refine ⟨by omega, fun M hM => by omega, ?_, fun hlt => ⟨_, (mem_lenOut ts i ts.length hlt).2, hb.1, by omega⟩, by omega⟩
    by_cases hx : (lenIn ts i (ts.length - i)).1 ≤ (wAt ts ps i).longest
    · left; omega
    · right
      have hlt : i < ts.length := by
        by_cases hh : i < ts.length
        · exact hh
        · rw [show ts.length - i = 0 by omega] at hx
          exact absurd h3 hx
      rw [show max (wAt ts ps i).longest (lenIn ts i (ts.length - i)).1 = (lenIn ts i (ts.length - i)).1 by omega]
      exact (mem_lenOut ts i ts.length hlt).2
  | j :: Q, i, k, hd, h1, h2, h3, hi, hA => by
    obtain ⟨d, rfl, hdn, hA'⟩ := hA
    have hk : k < ps.length := by
      have := congrArg List.length hd
      simp at this
      omega
    have hd2 := hd
    rw [List.drop_eq_getElem_cons hk] at hd2
    injection hd2 with hj hQ
    have hget : ps.getD k 0 = ((i + d : Nat) : Int) := by rw [List.getD_eq_getElem?_getD, List.getElem?_eq_getElem hk]; exact hj
    have e := seg_run ts ps i h1 d (fun e he h => by rw [h2, hget] at h; omega)
    have e2 : wAt ts ps (i + d + 1) = ⟨(wAt ts ps i).total + (lenIn ts i (d + 1)).1 + (ts.getD (i + d) noTk).cost, max (wAt ts ps i).longest ((lenIn ts i (d + 1)).1 + (ts.getD (i + d) noTk).cost), 0, k + 1⟩ := by
      rw [wAt, e, wStep]
      simp only
      rw [h2, if_pos ⟨hk, hget⟩, lenIn]
      simp only
      rw [Int.add_assoc (wAt ts ps i).total]
    have hb := lenIn_bd ts i hf (d + 1) (by omega)
    have hfd := hf (i + d) hdn
    obtain ⟨r1, r2, r3, r4, r5⟩ := run_law ts ps hf Q (i + d + 1) (k + 1) hQ (by rw [e2]) (by rw [e2]) (by rw [e2]; simp only; omega) (by omega) hA'
    rw [e2] at r1 r2 r3 r5
    simp only at r1 r2 r3 r5
    have hadd := lenIn_add ts i (d + 1) (ts.length - (i + d + 1))
    rw [show d + 1 + (ts.length - (i + d + 1)) = ts.length - i by omega, ← Nat.add_assoc] at hadd
    have hmem := (mem_lenOut ts i ts.length (by omega)).1 d hdn
    have hge : (lenIn ts i (d + 1)).1 + (ts.getD (i + d) noTk).cost ≤ fin ts ps ∧ (wAt ts ps i).longest ≤ fin ts ps := by
      omega
    refine ⟨?_, fun M hM => ?_, ?_, fun _ => ⟨_, hmem, by omega, hge.1⟩, hge.2⟩
    · rw [r1, costP, show (((i + d : Nat) : Int)).toNat = i + d by omega, hadd]
      omega
    · rw [r2 M hM]
      constructor
      · rintro ⟨a, b⟩
        exact ⟨by omega, d, rfl, hdn, by omega, b⟩
      · rintro ⟨a, d', b1, b2, b3, b4⟩
        obtain rfl : d = d' := by omega
        exact ⟨by omega, b4⟩
    · rcases r3 with h | h
      · by_cases hx : (lenIn ts i (d + 1)).1 + (ts.getD (i + d) noTk).cost ≤ (wAt ts ps i).longest
        · left; omega
        · right
          rw [show fin ts ps = (lenIn ts i (d + 1)).1 + (ts.getD (i + d) noTk).cost by omega]
          exact hmem
      · exact .inr h

theorem lenIn_pos (ts : List Tk) (hf : AllFine ts) (i : Nat) : ∀ d, i + d ≤ ts.length → ∀ k, k ∈ (lenIn ts i d).2 → 0 ≤ k
  | 0, _, k, h => by simp [lenIn] at h
  | d + 1, hd, k, h => by
    rw [show (lenIn ts i (d + 1)).2 = (lenIn ts i d).2 ++ [(lenIn ts i d).1 + (ts.getD (i + d) noTk).work + (ts.getD (i + d) noTk).cost] from rfl] at h
    simp only [List.mem_append, List.mem_singleton] at h
    rcases h with h | h
    · exact lenIn_pos ts hf i d (by omega) k h
    · have h1 := lenIn_bd ts i hf d (by omega)
      have h2 := hf (i + d) (by omega)
      omega
theorem lenOut_pos (ts : List Tk) (hf : AllFine ts) : ∀ m, m ≤ ts.length → ∀ k, k ∈ lenOut ts m → 0 ≤ k
  | 0, _, k, h => by simp [lenOut] at h
  | m + 1, hm, k, h => by
    rw [lenOut] at h
    simp only [List.mem_append, List.mem_singleton] at h
    rcases h with (h | h) | h
    · exact lenOut_pos ts hf m (by omega) k h
    · exact lenIn_pos ts hf m _ (by omega) k h
    · have := lenIn_bd ts m hf (ts.length - m) (by omega)
      omega
theorem worst_law (ts : List Tk) (ps : List Int) (f r : Int) (hz : refuseV ts f r = 0) (hA : AscF ts.length 0 ps) :
    wv ts f r ps = (lenIn ts 0 ts.length).1 + costP ts ps + f * (r + fin ts ps) ∧ errV ts ps f r = 0 ∧ 0 ≤ fin ts ps ∧ fin ts ps ∈ lenOut ts ts.length ∧ (∀ M, 0 ≤ M → (fin ts ps ≤ M ↔ Feas ts M 0 ps)) := by
  obtain ⟨z1, z2, z3, z4, z5⟩ := refuse_zero hz
  have hf := allFine_of ts z3
  obtain ⟨r1, r2, r3, r4, r5⟩ := run_law ts ps hf ps 0 0 rfl rfl rfl (Int.le_refl _) (Nat.zero_le _) hA
  have he : errV ts ps f r = 0 := by unfold errV; rw [if_pos hz, if_pos (ascF_places hA)]
  have e0 : (wAt ts ps 0).longest = 0 := rfl
  have e1 : (wAt ts ps 0).total = 0 := rfl
  rw [e0] at r2 r3 r5
  rw [e1, Nat.sub_zero] at r1
  refine ⟨?_, he, r5, ?_, fun M hM => ?_⟩
  · unfold wv
    rw [worst_ok he]
    show (wAt ts ps ts.length).total + f * (r + fin ts ps) = _
    rw [r1]
    omega
  · rcases r3 with h | h
    · obtain ⟨l, l1, l2, l3⟩ := r4 z1
      rw [h] at l3 ⊢
      obtain rfl : l = 0 := by omega
      exact l1
    · exact h
  · rw [r2 M hM]
    exact ⟨fun h => h.2, fun h => ⟨hM, h⟩⟩
theorem best_ascF {ts : List Tk} {f r : Int} {P : List Int} (hz : refuseV ts f r = 0) (hP : IsBest ts f r P) : AscF ts.length 0 P := by
  obtain ⟨z1, z2, z3, z4, z5⟩ := refuse_zero hz
  have hf := allFine_of ts z3
  rcases hP.1 with rfl | ⟨k, hk, hL⟩
  · trivial
  · by_cases hk0 : 0 ≤ k
    · exact Feas.ascF P 0 ((divide_least ts k hf hk0).1 P hL)
    · exfalso
      exact hk0 (lenOut_pos ts hf ts.length (Nat.le_refl _) k hk)
theorem cmpLs_eq : ∀ a b : List Int, cmpLs a b = 0 → a = b
  | [], [], _ => rfl
  | [], _ :: _, h => by simp [cmpLs] at h
  | _ :: _, [], h => by simp [cmpLs] at h
  | x :: xs, y :: ys, h => by
    rw [cmpLs] at h
    by_cases e : cmpI x y = 0
    · rw [if_pos e] at h
      rw [(cmpI_zero x y).1 e, cmpLs_eq xs ys h]
    · rw [if_neg e] at h; exact absurd h e
/-- the best places are the least of all -/
theorem best_least {ts : List Tk} {f r : Int} {P : List Int} (hz : refuseV ts f r = 0) (hP : IsBest ts f r P) (Q : List Int) (hQ : AscF ts.length 0 Q) : ¬ Beats ts f r Q P := by
  intro hB
  obtain ⟨z1, z2, z3, z4, z5⟩ := refuse_zero hz
  have hf := allFine_of ts z3
  obtain ⟨q1, q2, q3, q4, q5⟩ := worst_law ts Q f r hz hQ
  have hFQ := (q5 _ q3).1 (Int.le_refl _)
  obtain ⟨d1, d2⟩ := divide_least ts (fin ts Q) hf q3
  obtain ⟨L, hL, hK⟩ := d2 Q hFQ
  have hFL := d1 L hL
  obtain ⟨l1, l2, l3, l4, l5⟩ := worst_law ts L f r hz (Feas.ascF L 0 hFL)
  have hle := (l5 _ q3).2 hFL
  have hnot : ¬ Beats ts f r L P := hP.2.2 _ q4 L hL
  have hmul : f * (r + fin ts L) ≤ f * (r + fin ts Q) := Int.mul_le_mul_of_nonneg_left (by omega) z4.1
  have hw : wv ts f r L ≤ wv ts f r Q := by
    rcases hK with h | ⟨h, _⟩ <;> omega
  have c1 := cmpI_neg (wv ts f r L) (wv ts f r Q)
  have c2 := cmpI_zero (wv ts f r L) (wv ts f r Q)
  have c3 := cmpI_neg (L.length : Int) (Q.length : Int)
  have c4 := cmpI_zero (L.length : Int) (Q.length : Int)
  have hkey : cmpLs (keyL ts f r L) (keyL ts f r Q) ≤ 0 := by
    unfold keyL
    rw [cmpLs, cmpLs]
    by_cases he : wv ts f r L = wv ts f r Q
    · rw [if_pos (c2.2 he)]
      rcases hK with h | ⟨_, h | ⟨h, h'⟩⟩
      · omega
      · rw [if_neg (by omega)]; omega
      · rw [if_pos (c4.2 h)]; exact h'
    · rw [if_neg (by rw [c2]; exact he)]
      have : cmpI (wv ts f r L) (wv ts f r Q) < 0 := c1.2 (by omega)
      omega
  by_cases h0 : cmpLs (keyL ts f r L) (keyL ts f r Q) = 0
  · have e := cmpLs_eq _ _ h0
    unfold Beats at hB hnot
    rw [e] at hnot
    exact hnot hB
  · exact hnot (cmpLs_trans _ _ _ (by omega) hB)
/-- without faults no place is the best -/
theorem best_none {ts : List Tk} {r : Int} {P : List Int} (hz : refuseV ts 0 r = 0) (hP : IsBest ts 0 r P) : P = [] := by
  obtain ⟨z1, z2, z3, z4, z5⟩ := refuse_zero hz
  have hf := allFine_of ts z3
  have hA := best_ascF hz hP
  obtain ⟨p1, p2, p3, p4, p5⟩ := worst_law ts P 0 r hz hA
  obtain ⟨n1, _⟩ := worst_law ts [] 0 r hz trivial
  have hc := Feas.cost hf P 0 ((p5 _ p3).1 (Int.le_refl _))
  rw [Int.zero_mul] at p1 n1
  rw [costP] at n1
  cases P with
  | nil => rfl
  | cons j P =>
    exfalso
    refine hP.2.1 ?_
    unfold Beats keyL
    rw [cmpLs, cmpLs]
    have c1 := cmpI_neg (wv ts 0 r []) (wv ts 0 r (j :: P))
    have c2 := cmpI_zero (wv ts 0 r []) (wv ts 0 r (j :: P))
    have c3 := cmpI_neg (([] : List Int).length : Int) ((j :: P).length : Int)
    have c5 : cmpI (([] : List Int).length : Int) ((j :: P).length : Int) < 0 := c3.2 (by simp)
    by_cases he : wv ts 0 r [] = wv ts 0 r (j :: P)
    · rw [if_pos (c2.2 he), if_neg (by omega)]; exact c5
    · rw [if_neg (by rw [c2]; exact he)]; exact c1.2 (by omega)
end Go.Proofs.Ytddcgholnhhcoaa
