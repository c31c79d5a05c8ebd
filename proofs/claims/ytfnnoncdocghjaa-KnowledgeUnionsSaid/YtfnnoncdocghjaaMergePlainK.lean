/- Stocks of determinants in plain Lean. No statement of the seat is proved here. -/
import Derived.Test.YtfnnoncdocghjaaCmpLawsK
namespace Go.Proofs.Ytfnnoncdocghjaa
set_option linter.unusedVariables false
set_option maxRecDepth 100000

theorem cmpD_lt_trans {a b c : Dt} (h1 : cmpD a b < 0) (h2 : cmpD b c < 0) : cmpD a c < 0 := by
  have h := cmpD_trans a b c (by omega) (by omega)
  by_cases e : cmpD a c = 0
  · have e' := (cmpD_zero a c).1 e
    subst e'
    have := cmpD_anti a b
    omega
  · omega
theorem cmpD_le_lt {a b c : Dt} (h1 : cmpD a b ≤ 0) (h2 : cmpD b c < 0) : cmpD a c < 0 := by
  by_cases e : cmpD a b = 0
  · rw [(cmpD_zero a b).1 e]; exact h2
  · exact cmpD_lt_trans (by omega) h2
abbrev AscD (l : List Dt) : Prop := l.Pairwise (fun a b => cmpD a b < 0)
/-- an ascending list is known by its elements -/
theorem asc_unique : ∀ l m : List Dt, AscD l → AscD m → (∀ d, d ∈ l ↔ d ∈ m) → l = m
  | [], [], _, _, _ => rfl
  | [], y :: m, _, _, h => by have := (h y).2 (by simp); simp at this
  | x :: l, [], _, _, h => by have := (h x).1 (by simp); simp at this
  | x :: l, y :: m, hl, hm, h => by
    rw [AscD, List.pairwise_cons] at hl hm
    have hxy : x = y := by
      have h1 := (h x).1 (by simp)
      have h2 := (h y).2 (by simp)
      rcases List.mem_cons.1 h1 with e | h1
      · exact e
      · rcases List.mem_cons.1 h2 with e | h2
        · exact e.symm
        · have a := hm.1 x h1
          have b := hl.1 y h2
          have := cmpD_anti x y
          omega
    subst hxy
    congr 1
    refine asc_unique l m hl.2 hm.2 fun d => ?_
    constructor
    · intro hd
      rcases List.mem_cons.1 ((h d).1 (List.mem_cons_of_mem _ hd)) with e | e
      · subst e
        have := hl.1 d hd
        have := cmpD_anti d d
        omega
      · exact e
    · intro hd
      rcases List.mem_cons.1 ((h d).2 (List.mem_cons_of_mem _ hd)) with e | e
      · subst e
        have := hm.1 d hd
        have := cmpD_anti d d
        omega
      · exact e
/-- equal neighbours become one -/
def cpt : List Dt → List Dt
  | [] => []
  | [x] => [x]
  | x :: y :: l => if x.same y then cpt (y :: l) else x :: cpt (y :: l)
theorem cpt_head (x : Dt) : ∀ l : List Dt, ∃ m, cpt (x :: l) = x :: m
  | [] => ⟨[], rfl⟩
  | y :: l => by
    rw [cpt]
    split
    · rename_i h
      have e := (Dt.same_iff x y).1 h
      subst e
      exact cpt_head x l
    · exact ⟨_, rfl⟩
theorem mem_cpt (d : Dt) : ∀ l : List Dt, d ∈ cpt l ↔ d ∈ l
  | [] => Iff.rfl
  | [x] => Iff.rfl
  | x :: y :: l => by
    have ih := mem_cpt d (y :: l)
    rw [cpt]
    split
    · rename_i h
      have e := (Dt.same_iff x y).1 h
      subst e
      rw [ih]; simp
    · rw [List.mem_cons, ih, List.mem_cons (a := d) (b := x)]
theorem cpt_asc : ∀ l : List Dt, l.Pairwise (fun a b => cmpD a b ≤ 0) → AscD (cpt l)
  | [], _ => List.Pairwise.nil
  | [x], _ => by simp [AscD, cpt]
  | x :: y :: l, h => by
    rw [List.pairwise_cons] at h
    have ih := cpt_asc (y :: l) h.2
    rw [cpt]
    split
    · exact ih
    · rename_i hn
      rw [AscD, List.pairwise_cons]
      refine ⟨fun d hd => ?_, ih⟩
      rw [mem_cpt] at hd
      have h1 := h.1 y (by simp)
      have hne : cmpD x y ≠ 0 := fun e => hn ((Dt.same_iff x y).2 ((cmpD_zero x y).1 e))
      rcases List.mem_cons.1 hd with e | hd
      · subst e; omega
      · have h2 := (List.pairwise_cons.1 h.2).1 d hd
        have h3 := h.1 d (List.mem_cons_of_mem _ hd)
        by_cases e : cmpD x d = 0
        · have e' := (cmpD_zero x d).1 e
          subst e'
          have := cmpD_anti x y
          omega
        · omega
def leD (x y : Dt) : Bool := !decide (cmpD y x < 0)
def sortD (l : List Dt) : List Dt := l.mergeSort leD
theorem sortD_mem (l : List Dt) (d : Dt) : d ∈ sortD l ↔ d ∈ l := (List.mergeSort_perm l leD).mem_iff
theorem leD_iff (a b : Dt) : leD a b = true ↔ cmpD a b ≤ 0 := by
  have := cmpD_anti a b
  unfold leD
  rw [Bool.not_eq_true', decide_eq_false_iff_not]
  omega
theorem sortD_asc (l : List Dt) : (sortD l).Pairwise (fun a b => cmpD a b ≤ 0) := by
  have h := List.pairwise_mergeSort (le := leD) (fun a b c h1 h2 => by
    rw [leD_iff] at h1 h2 ⊢
    exact cmpD_trans a b c h1 h2) (fun a b => by
    have := cmpD_anti a b
    by_cases e : cmpD a b ≤ 0
    · rw [(leD_iff a b).2 e]; rfl
    · rw [(leD_iff b a).2 (by omega)]; simp) l
  exact h.imp fun {a b} h => (leD_iff a b).1 h
theorem sortD_len (l : List Dt) : (sortD l).length = l.length := List.length_mergeSort l
/-- a stock -/
def stockV (l : List Dt) : List Dt := cpt (sortD l)
theorem stock_asc (l : List Dt) : AscD (stockV l) := cpt_asc _ (sortD_asc l)
theorem stock_mem (l : List Dt) (d : Dt) : d ∈ stockV l ↔ d ∈ l := (mem_cpt d _).trans (sortD_mem l d)
theorem stock_same {l : List Dt} (h : AscD l) : stockV l = l := asc_unique _ _ (stock_asc l) h (stock_mem l)

/-- where the reference puts it: the elements from k on are greater -/
def insK (out : List Dt) (d : Dt) : Nat → Nat
  | 0 => 0
  | k + 1 => if 0 < cmpD (out.getD k d) d then insK out d k else k + 1
def insV (out : List Dt) (d : Dt) : List Dt :=
  if 0 < insK out d out.length ∧ (out.getD (insK out d out.length - 1) d).same d = true then out else out.take (insK out d out.length) ++ d :: out.drop (insK out d out.length)
theorem insK_le (out : List Dt) (d : Dt) : ∀ k, insK out d k ≤ k
  | 0 => Nat.le_refl _
  | k + 1 => by
    rw [insK]
    have := insK_le out d k
    split <;> omega
theorem insK_gt (out : List Dt) (d : Dt) : ∀ k x, insK out d k ≤ x → x < k → 0 < cmpD (out.getD x d) d
  | 0, x, _, h => by omega
  | k + 1, x, h1, h2 => by
    rw [insK] at h1
    split at h1
    · rename_i hp
      by_cases e : x = k
      · subst e; exact hp
      · exact insK_gt out d k x h1 (by omega)
    · omega
theorem insK_at (out : List Dt) (d : Dt) : ∀ k, 0 < insK out d k → cmpD (out.getD (insK out d k - 1) d) d ≤ 0
  | 0, h => by simp [insK] at h
  | k + 1, h => by
    rw [insK] at h ⊢
    split
    · rename_i hp
      rw [if_pos hp] at h
      exact insK_at out d k h
    · rename_i hp
      rw [Nat.add_sub_cancel]; omega
theorem asc_at {l : List Dt} (h : AscD l) (d : Dt) {x y : Nat} (hxy : x < y) (hy : y < l.length) : cmpD (l.getD x d) (l.getD y d) < 0 := by
  have := List.pairwise_iff_getElem.1 h x y (by omega) hy hxy
  rw [List.getD_eq_getElem?_getD, List.getD_eq_getElem?_getD, List.getElem?_eq_getElem hy, List.getElem?_eq_getElem (show x < l.length by omega)]
  exact this
theorem mem_getD {l : List Dt} {a : Dt} (h : a ∈ l) (d : Dt) : ∃ x, x < l.length ∧ l.getD x d = a := by
  obtain ⟨x, hx, e⟩ := List.mem_iff_getElem.1 h
  exact ⟨x, hx, by rw [List.getD_eq_getElem?_getD, List.getElem?_eq_getElem hx]; exact e⟩
theorem insV_mem {out : List Dt} (d e : Dt) : e ∈ insV out d ↔ e ∈ out ∨ e = d := by
  unfold insV
  split
  · rename_i h
    constructor
    · exact .inl
    · rintro (h' | rfl)
      · exact h'
      · have e' := (Dt.same_iff _ _).1 h.2
        have hk := insK_le out e out.length
        rw [List.getD_eq_getElem?_getD, List.getElem?_eq_getElem (show insK out e out.length - 1 < out.length by omega), Option.getD_some] at e'
        rw [← e']
        exact List.getElem_mem _
  · conv => rhs; rw [← List.take_append_drop (insK out d out.length) out]
    simp only [List.mem_append, List.mem_cons]
    constructor
    · rintro (h | h | h)
      · exact .inl (.inl h)
      · exact .inr h
      · exact .inl (.inr h)
    · rintro ((h | h) | h)
      · exact .inl h
      · exact .inr (.inr h)
      · exact .inr (.inl h)
theorem insV_asc {out : List Dt} (h : AscD out) (d : Dt) : AscD (insV out d) := by
  unfold insV
  split
  · exact h
  · rename_i hn
    have hk := insK_le out d out.length
    have hgt := insK_gt out d out.length
    have hat := insK_at out d out.length
    generalize insK out d out.length = k at *
    rw [AscD, List.pairwise_append, List.pairwise_cons]
    refine ⟨List.Pairwise.sublist (List.take_sublist _ _) h, ⟨fun b hb => ?_, List.Pairwise.sublist (List.drop_sublist _ _) h⟩, fun a ha b hb => ?_⟩
    · obtain ⟨x, hx, rfl⟩ := List.mem_iff_getElem.1 hb
      rw [List.getElem_drop]
      have hx' : x < out.length - k := by simpa using hx
      have := hgt (k + x) (by omega) (by omega)
      rw [List.getD_eq_getElem?_getD, List.getElem?_eq_getElem (show k + x < out.length by omega)] at this
      have ha := cmpD_anti d out[k + x]
      simp only [Option.getD_some] at this
      omega
    · have hlt : ∀ a ∈ out.take k, cmpD a d < 0 := by
        intro a ha
        obtain ⟨x, hx, rfl⟩ := List.mem_iff_getElem.1 ha
        have hx' : x < k := by simp at hx; omega
        rw [List.getElem_take]
        have hk0 := hat (by omega)
        have hkd : cmpD (out.getD (k - 1) d) d < 0 := by
          by_cases e : cmpD (out.getD (k - 1) d) d = 0
          · exfalso
            have e' := (cmpD_zero _ _).1 e
            exact hn ⟨by omega, (Dt.same_iff _ _).2 e'⟩
          · omega
        by_cases e : x = k - 1
        · subst e
          rw [List.getD_eq_getElem?_getD, List.getElem?_eq_getElem (show k - 1 < out.length by omega)] at hkd
          exact hkd
        · have := asc_at h d (show x < k - 1 by omega) (by omega)
          rw [List.getD_eq_getElem?_getD (i := x), List.getElem?_eq_getElem (show x < out.length by omega)] at this
          exact cmpD_lt_trans this hkd
      rcases List.mem_cons.1 hb with rfl | hb
      · exact hlt a ha
      · have h1 := hlt a ha
        obtain ⟨x, hx, rfl⟩ := List.mem_iff_getElem.1 hb
        have hx' : x < out.length - k := by simpa using hx
        have := hgt (k + x) (by omega) (by omega)
        rw [List.getD_eq_getElem?_getD, List.getElem?_eq_getElem (show k + x < out.length by omega)] at this
        have ha := cmpD_anti d out[k + x]
        simp only [Option.getD_some] at this
        rw [List.getElem_drop]
        exact cmpD_lt_trans h1 (by omega)
/-- the reference's merge -/
def insAll (l : List Dt) : Nat → List Dt
  | 0 => []
  | i + 1 => insV (insAll l i) (l.getD i ⟨0, 0, ⟨0, 0, 0, 0, 0, 0, 0⟩⟩)
theorem insAll_asc (l : List Dt) : ∀ i, AscD (insAll l i)
  | 0 => List.Pairwise.nil
  | i + 1 => insV_asc (insAll_asc l i) _
theorem insAll_mem (l : List Dt) (e : Dt) : ∀ i, i ≤ l.length → (e ∈ insAll l i ↔ e ∈ l.take i)
  | 0, _ => by simp [insAll]
  | i + 1, h => by
    rw [insAll, insV_mem, insAll_mem l e i (by omega), List.take_succ_eq_append_getElem (by omega), List.mem_append, List.mem_singleton, List.getD_eq_getElem?_getD, List.getElem?_eq_getElem (by omega)]
    rfl
theorem insAll_stock (l : List Dt) : insAll l l.length = stockV l := asc_unique _ _ (insAll_asc l _) (stock_asc l) fun d => by rw [insAll_mem l d _ (Nat.le_refl _), List.take_length, stock_mem]
theorem cpt_len : ∀ l : List Dt, (cpt l).length ≤ l.length
  | [] => Nat.le_refl _
  | [x] => Nat.le_refl _
  | x :: y :: l => by
    have := cpt_len (y :: l)
    rw [cpt]
    split
    · simp only [List.length_cons] at *; omega
    · simp only [List.length_cons] at *; omega
end Go.Proofs.Ytfnnoncdocghjaa
