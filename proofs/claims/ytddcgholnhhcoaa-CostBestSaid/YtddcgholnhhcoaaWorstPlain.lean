/- Chapter 38 in plain Lean: tasks, the worst case, plans. No statement of the seat is proved here. -/
import Derived.Test.YtddcgholnhhcoaaCostPlain
namespace Go.Proofs.Ytddcgholnhhcoaa
set_option linter.unusedVariables false

structure Tk where
  work : Int
  cost : Int
def amountB (x : Int) : Bool := decide (0 ≤ x) && decide (x ≤ 1048576)
theorem amountB_iff (x : Int) : amountB x = true ↔ 0 ≤ x ∧ x ≤ 1048576 := by simp [amountB]
def Tk.fine (t : Tk) : Bool := amountB t.work && amountB t.cost
theorem Tk.fine_iff (t : Tk) : t.fine = true ↔ (0 ≤ t.work ∧ t.work ≤ 1048576) ∧ (0 ≤ t.cost ∧ t.cost ≤ 1048576) := by simp [Tk.fine, amountB_iff]
def noTk : Tk := ⟨0, 0⟩

/-- the error of tasks without places -/
def refuseV (ts : List Tk) (f r : Int) : Int :=
  if 64 < ts.length then 4 else if ts.length = 0 then 7 else if ts.all Tk.fine then (if amountB f && amountB r then 0 else 3) else 3
/-- places: in range, ascending -/
def placeOk (n : Nat) (ps : List Int) (i : Nat) : Bool := decide (0 ≤ ps.getD i 0) && decide (ps.getD i 0 < n) && (decide (i = 0) || decide (ps.getD (i - 1) 0 < ps.getD i 0))
def placesUpTo (n : Nat) (ps : List Int) : Nat → Bool
  | 0 => true
  | i + 1 => placesUpTo n ps i && placeOk n ps i
def errV (ts : List Tk) (ps : List Int) (f r : Int) : Int :=
  if refuseV ts f r = 0 then (if placesUpTo ts.length ps ps.length then 0 else 7) else refuseV ts f r

/-- the state of the walk over the tasks -/
structure WS where
  total : Int
  longest : Int
  length : Int
  next : Nat
def wStep (ps : List Int) (i : Nat) (t : Tk) (s : WS) : WS :=
  if s.next < ps.length ∧ ps.getD s.next 0 = i then ⟨s.total + t.work + t.cost, max s.longest (s.length + t.work + t.cost), 0, s.next + 1⟩
  else ⟨s.total + t.work, s.longest, s.length + t.work, s.next⟩
def wAt (ts : List Tk) (ps : List Int) : Nat → WS
  | 0 => ⟨0, 0, 0, 0⟩
  | i + 1 => wStep ps i (ts.getD i noTk) (wAt ts ps i)
def longV (ts : List Tk) (ps : List Int) : Int := max (wAt ts ps ts.length).longest (wAt ts ps ts.length).length
def worstOf (ts : List Tk) (ps : List Int) (f r : Int) : Int := (wAt ts ps ts.length).total + f * (r + longV ts ps)

def AllFine (ts : List Tk) : Prop := ∀ i, i < ts.length → (0 ≤ (ts.getD i noTk).work ∧ (ts.getD i noTk).work ≤ 1048576) ∧ (0 ≤ (ts.getD i noTk).cost ∧ (ts.getD i noTk).cost ≤ 1048576)
theorem allFine_of (ts : List Tk) (h : ts.all Tk.fine = true) : AllFine ts := by
  intro i hi
  rw [← Tk.fine_iff, List.getD_eq_getElem?_getD, List.getElem?_eq_getElem hi]
  exact List.all_eq_true.1 h _ (List.getElem_mem hi)
theorem refuse_zero {ts : List Tk} {f r : Int} (h : refuseV ts f r = 0) : 0 < ts.length ∧ ts.length ≤ 64 ∧ ts.all Tk.fine = true ∧ (0 ≤ f ∧ f ≤ 1048576) ∧ (0 ≤ r ∧ r ≤ 1048576) := by
  unfold refuseV at h
  split at h
  · omega
  split at h
  · omega
  split at h
  · rename_i h1 h2 h3
    split at h
    · rename_i h4
      simp [amountB_iff] at h4
      exact ⟨by omega, by omega, h3, by omega, by omega⟩
    · omega
  · omega
theorem wStep_bd (ps : List Int) (i : Nat) (t : Tk) (s : WS) (h : (0 ≤ t.work ∧ t.work ≤ 1048576) ∧ (0 ≤ t.cost ∧ t.cost ≤ 1048576)) (B : Int)
    (h1 : 0 ≤ s.total ∧ s.total ≤ B) (h2 : 0 ≤ s.longest ∧ s.longest ≤ B) (h3 : 0 ≤ s.length ∧ s.length ≤ B) (h4 : s.next ≤ ps.length) :
    (0 ≤ (wStep ps i t s).total ∧ (wStep ps i t s).total ≤ B + 2097152) ∧ (0 ≤ (wStep ps i t s).longest ∧ (wStep ps i t s).longest ≤ B + 2097152) ∧ (0 ≤ (wStep ps i t s).length ∧ (wStep ps i t s).length ≤ B + 2097152) ∧ (wStep ps i t s).next ≤ ps.length := by
  unfold wStep
  split <;> simp only <;> omega
theorem wAt_bd (ts : List Tk) (ps : List Int) (hf : AllFine ts) : ∀ i, i ≤ ts.length →
    (0 ≤ (wAt ts ps i).total ∧ (wAt ts ps i).total ≤ 2097152 * i) ∧ (0 ≤ (wAt ts ps i).longest ∧ (wAt ts ps i).longest ≤ 2097152 * i) ∧ (0 ≤ (wAt ts ps i).length ∧ (wAt ts ps i).length ≤ 2097152 * i) ∧ (wAt ts ps i).next ≤ ps.length := by
  intro i
  induction i with
  | zero => intro _; simp [wAt]
  | succ i ih =>
    intro hi
    obtain ⟨h1, h2, h3, h4⟩ := ih (by omega)
    have := wStep_bd ps i (ts.getD i noTk) (wAt ts ps i) (hf i (by omega)) (2097152 * i) h1 h2 h3 h4
    rw [wAt]
    have e : (2097152 : Int) * ((i + 1 : Nat) : Int) = 2097152 * i + 2097152 := by push_cast; omega
    rw [e]
    exact this
theorem longV_bd (ts : List Tk) (ps : List Int) (hf : AllFine ts) : 0 ≤ longV ts ps ∧ longV ts ps ≤ 2097152 * ts.length := by
  obtain ⟨_, h2, h3, _⟩ := wAt_bd ts ps hf ts.length (Nat.le_refl _)
  unfold longV
  omega

/-! ### plans -/
structure Pl where
  poss : Bool
  cost : Int
  number : Int
  first : Int
def Pl.zero : Pl := ⟨false, 0, 0, 0⟩
def Pl.last : Pl := ⟨true, 0, 0, -1⟩
def Pl.lt (p q : Pl) : Bool := p.poss && (!q.poss || decide (p.cost < q.cost) || (decide (p.cost = q.cost) && decide (p.number < q.number)))
/-- the walk over the ends of the first segment -/
def innStep (ts : List Tk) (most : Int) (T : List Pl) (j : Nat) (s : Int × Pl) : Int × Pl :=
  let t := ts.getD j noTk
  let w := s.1 + t.work
  let rest := T.getD (j + 1) Pl.zero
  if rest.poss = false ∨ most < w + t.cost then (w, s.2)
  else
    let p : Pl := ⟨true, t.cost + rest.cost, 1 + rest.number, j⟩
    (w, if p.lt s.2 then p else s.2)
def inn (ts : List Tk) (most : Int) (T : List Pl) (i : Nat) : Nat → Int × Pl
  | 0 => (0, Pl.zero)
  | d + 1 => innStep ts most T (i + d) (inn ts most T i d)
def rowV (ts : List Tk) (most : Int) (T : List Pl) (i : Nat) : Pl :=
  let s := inn ts most T i (ts.length - i)
  if s.1 ≤ most ∧ Pl.last.lt s.2 = true then Pl.last else s.2
/-- the table with k rows made, from the last one on -/
def tabV (ts : List Tk) (most : Int) : Nat → List Pl
  | 0 => (List.replicate (ts.length + 1) Pl.zero).set ts.length Pl.last
  | k + 1 => (tabV ts most k).set (ts.length - (k + 1)) (rowV ts most (tabV ts most k) (ts.length - (k + 1)))
theorem tabV_len (ts : List Tk) (most : Int) (k : Nat) : (tabV ts most k).length = ts.length + 1 := by
  induction k with
  | zero => simp [tabV]
  | succ k ih => simp [tabV, ih]
def follow (T : List Pl) : Nat → Nat → List Int
  | 0, _ => []
  | f + 1, i => if (T.getD i Pl.zero).first < 0 then [] else (T.getD i Pl.zero).first :: follow T f ((T.getD i Pl.zero).first.toNat + 1)
def divideV (ts : List Tk) (most : Int) : Option (List Int) :=
  if ((tabV ts most ts.length).getD 0 Pl.zero).poss then some (follow (tabV ts most ts.length) (ts.length + 1) 0) else none

/-- what an entry of the table fulfils -/
def GoodPl (n x : Nat) (T : List Pl) (p : Pl) : Prop :=
  (0 ≤ p.cost ∧ p.cost ≤ 1048576 * ((n : Int) - x)) ∧ (0 ≤ p.number ∧ p.number ≤ (n : Int) - x) ∧
  (p.poss = true → p.first = -1 ∨ ((x : Int) ≤ p.first ∧ p.first < n ∧ (T.getD (p.first.toNat + 1) Pl.zero).poss = true))
def GoodTab (n lo : Nat) (T : List Pl) : Prop := ∀ x, lo ≤ x → x ≤ n → GoodPl n x T (T.getD x Pl.zero)
theorem inn_good (ts : List Tk) (most : Int) (T : List Pl) (i : Nat) (hf : AllFine ts) (hi : i < ts.length) (hT : GoodTab ts.length (i + 1) T) :
    ∀ d, i + d ≤ ts.length → (0 ≤ (inn ts most T i d).1 ∧ (inn ts most T i d).1 ≤ 1048576 * d) ∧ GoodPl ts.length i T (inn ts most T i d).2 := by
  intro d
  induction d with
  | zero =>
    intro _
    refine ⟨by simp [inn], ?_⟩
    simp only [inn, GoodPl, Pl.zero]
    refine ⟨⟨by omega, by omega⟩, ⟨by omega, by omega⟩, by simp⟩
  | succ d ih =>
    intro hd
    obtain ⟨h1, h2⟩ := ih (by omega)
    have ht := hf (i + d) (by omega)
    have hr := hT (i + d + 1) (by omega) (by omega)
    rw [inn, innStep]
    generalize inn ts most T i d = s at *
    generalize ts.getD (i + d) noTk = t at *
    simp only
    split
    · refine ⟨by push_cast; omega, h2⟩
    · rename_i hno
      refine ⟨by push_cast; omega, ?_⟩
      simp only
      split
      · simp only [GoodPl] at hr ⊢
        obtain ⟨r1, r2, r3⟩ := hr
        refine ⟨⟨by omega, by omega⟩, ⟨by omega, by omega⟩, fun _ => .inr ⟨by omega, by omega, ?_⟩⟩
        have : ((i + d : Nat) : Int).toNat + 1 = i + d + 1 := by omega
        rw [this]
        rcases hp : (T.getD (i + d + 1) Pl.zero).poss with _ | _
        · exact absurd (Or.inl hp) hno
        · rfl
      · exact h2
theorem rowV_good (ts : List Tk) (most : Int) (T : List Pl) (i : Nat) (hf : AllFine ts) (hi : i < ts.length) (hT : GoodTab ts.length (i + 1) T) : GoodPl ts.length i T (rowV ts most T i) := by
  have h := (inn_good ts most T i hf hi hT (ts.length - i) (by omega)).2
  unfold rowV
  simp only
  split
  · simp only [GoodPl, Pl.last]
    exact ⟨⟨by omega, by omega⟩, ⟨by omega, by omega⟩, by simp⟩
  · exact h
theorem getD_set_ne {α : Type} (l : List α) (i j : Nat) (a d : α) (h : i ≠ j) : (l.set i a).getD j d = l.getD j d := by
  simp [List.getD_eq_getElem?_getD, List.getElem?_set_ne h]
theorem getD_set_self {α : Type} (l : List α) (i : Nat) (a d : α) (h : i < l.length) : (l.set i a).getD i d = a := by
  simp [List.getD_eq_getElem?_getD, h]
theorem GoodPl.set {n x i : Nat} {T : List Pl} {p q : Pl} (h : GoodPl n x T p) (hi : i ≤ x) : GoodPl n x (T.set i q) p := by
  obtain ⟨h1, h2, h3⟩ := h
  refine ⟨h1, h2, fun hp => ?_⟩
  rcases h3 hp with h | ⟨a, b, c⟩
  · exact .inl h
  · exact .inr ⟨a, b, by rw [getD_set_ne _ _ _ _ _ (by omega)]; exact c⟩
theorem tabV_good (ts : List Tk) (most : Int) (hf : AllFine ts) : ∀ k, k ≤ ts.length → GoodTab ts.length (ts.length - k) (tabV ts most k) := by
  intro k
  induction k with
  | zero =>
    intro _ x h1 h2
    obtain rfl : x = ts.length := by omega
    rw [tabV, getD_set_self _ _ _ _ (by simp)]
    simp only [GoodPl, Pl.last]
    exact ⟨⟨by omega, by omega⟩, ⟨by omega, by omega⟩, by simp⟩
  | succ k ih =>
    intro hk x h1 h2
    have hT := ih (by omega)
    have e : ts.length - k = ts.length - (k + 1) + 1 := by omega
    rw [e] at hT
    rw [tabV]
    by_cases hx : x = ts.length - (k + 1)
    · subst hx
      rw [getD_set_self _ _ _ _ (by rw [tabV_len]; omega)]
      exact (rowV_good ts most _ _ hf (by omega) hT).set (Nat.le_refl _)
    · rw [getD_set_ne _ _ _ _ _ (by omega)]
      exact (hT x (by omega) h2).set (by omega)
theorem follow_fuel {n : Nat} {T : List Pl} (hT : GoodTab n 0 T) : ∀ (m i : Nat), n - i = m → i ≤ n → (T.getD i Pl.zero).poss = true → ∀ f, n + 1 - i ≤ f → follow T f i = follow T (n + 1 - i) i := by
  intro m
  induction m using Nat.strongRecOn with
  | _ m ih =>
    intro i hm hi hp f hf
    obtain ⟨f', rfl⟩ : ∃ f', f = f' + 1 := ⟨f - 1, by omega⟩
    rw [show n + 1 - i = (n - i) + 1 by omega, follow, follow]
    split
    · rfl
    · rename_i hneg
      rcases (hT i (Nat.zero_le _) hi).2.2 hp with h | ⟨h1, h2, h3⟩
      · omega
      · have e1 := ih (n - ((T.getD i Pl.zero).first.toNat + 1)) (by omega) ((T.getD i Pl.zero).first.toNat + 1) rfl (by omega) h3
        rw [e1 f' (by omega), e1 (n - i) (by omega)]
theorem follow_more {n : Nat} {T : List Pl} (hT : GoodTab n 0 T) (i : Nat) (hi : i ≤ n) (hp : (T.getD i Pl.zero).poss = true) (hn : 0 ≤ (T.getD i Pl.zero).first) :
    follow T (n + 1 - i) i = (T.getD i Pl.zero).first :: follow T (n + 1 - ((T.getD i Pl.zero).first.toNat + 1)) ((T.getD i Pl.zero).first.toNat + 1) ∧
    (i : Int) ≤ (T.getD i Pl.zero).first ∧ (T.getD i Pl.zero).first < n ∧ (T.getD ((T.getD i Pl.zero).first.toNat + 1) Pl.zero).poss = true := by
  rcases (hT i (Nat.zero_le _) hi).2.2 hp with h | ⟨h1, h2, h3⟩
  · omega
  · refine ⟨?_, h1, h2, h3⟩
    rw [show n + 1 - i = (n - i) + 1 by omega, follow, if_neg (by omega)]
    rw [follow_fuel hT _ _ rfl (by omega) h3 (n - i) (by omega)]
theorem follow_end {n : Nat} {T : List Pl} (i : Nat) (hi : i ≤ n) (hn : (T.getD i Pl.zero).first < 0) : follow T (n + 1 - i) i = [] := by
  rw [show n + 1 - i = (n - i) + 1 by omega, follow, if_pos hn]
end Go.Proofs.Ytddcgholnhhcoaa
