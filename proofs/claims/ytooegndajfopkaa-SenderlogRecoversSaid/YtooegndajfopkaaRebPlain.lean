/- The plain law of rebuilding. No statement of the seat is proved here. -/
import Derived.Test.YtooegndajfopkaaTabR
import Derived.Test.YtooegndajfopkaaStabPlain2
namespace Go.Proofs.Ytooegndajfopkaa
open Go.Sort
set_option linter.unusedVariables false

/-- a copy at its place -/
structure Ps where
  p : Nat
  i : Nat
  c : Cp
def Ps.rc (x : Ps) : Rc := ⟨x.p, x.c.ssn, x.c.val⟩
def rowE (to : Int) (p : Nat) : List Cp → Nat → List Ps
  | [], _ => []
  | c :: cs, i => if c.to = to then ⟨p, i, c⟩ :: rowE to p cs (i + 1) else rowE to p cs (i + 1)
def tabE (to : Int) : List (List Cp) → Nat → List Ps
  | [], _ => []
  | cs :: T, p => rowE to p cs 0 ++ tabE to T (p + 1)
theorem rowE_drop (to : Int) (p : Nat) (cs : List Cp) (i : Nat) (h : i < cs.length) : rowE to p (cs.drop i) i = if cs[i].to = to then ⟨p, i, cs[i]⟩ :: rowE to p (cs.drop (i + 1)) (i + 1) else rowE to p (cs.drop (i + 1)) (i + 1) := by
  rw [List.drop_eq_getElem_cons h, rowE]
theorem rowE_end (to : Int) (p : Nat) (cs : List Cp) (i : Nat) (h : cs.length ≤ i) : rowE to p (cs.drop i) i = [] := by
  rw [List.drop_of_length_le h, rowE]
theorem tabE_drop (to : Int) (T : List (List Cp)) (p : Nat) (h : p < T.length) : tabE to (T.drop p) p = rowE to p (T[p].drop 0) 0 ++ tabE to (T.drop (p + 1)) (p + 1) := by
  rw [List.drop_eq_getElem_cons h, tabE, List.drop_zero]
theorem tabE_end (to : Int) (T : List (List Cp)) (p : Nat) (h : T.length ≤ p) : tabE to (T.drop p) p = [] := by
  rw [List.drop_of_length_le h, tabE]
theorem rowE_mem (to : Int) (p : Nat) : ∀ (cs : List Cp) (i : Nat) (x : Ps), x ∈ rowE to p cs i → x.p = p ∧ i ≤ x.i ∧ cs[x.i - i]? = some x.c ∧ x.c.to = to := by
  intro cs
  induction cs with
  | nil => intro i x h; simp [rowE] at h
  | cons c cs ih =>
    intro i x h
    rw [rowE] at h
    have hrec : x ∈ rowE to p cs (i + 1) → x.p = p ∧ i ≤ x.i ∧ (c :: cs)[x.i - i]? = some x.c ∧ x.c.to = to := fun h => by
      obtain ⟨h1, h2, h3, h4⟩ := ih (i + 1) x h
      refine ⟨h1, by omega, ?_, h4⟩
      rw [show x.i - i = (x.i - (i + 1)) + 1 by omega, List.getElem?_cons_succ]
      exact h3
    split at h
    · rename_i hc
      rcases List.mem_cons.1 h with rfl | h
      · exact ⟨rfl, Nat.le_refl _, by simp, hc⟩
      · exact hrec h
    · exact hrec h
theorem tabE_mem (to : Int) : ∀ (T : List (List Cp)) (p : Nat) (x : Ps), x ∈ tabE to T p → p ≤ x.p ∧ (∃ cs, T[x.p - p]? = some cs ∧ cs[x.i]? = some x.c) ∧ x.c.to = to := by
  intro T
  induction T with
  | nil => intro p x h; simp [tabE] at h
  | cons cs T ih =>
    intro p x h
    rw [tabE] at h
    rcases List.mem_append.1 h with h | h
    · obtain ⟨h1, h2, h3, h4⟩ := rowE_mem to p cs 0 x h
      exact ⟨by omega, ⟨cs, by rw [h1]; simp, by simpa using h3⟩, h4⟩
    · obtain ⟨h1, ⟨ds, h2, h3⟩, h4⟩ := ih (p + 1) x h
      refine ⟨by omega, ⟨ds, ?_, h3⟩, h4⟩
      rw [show x.p - p = (x.p - (p + 1)) + 1 by omega, List.getElem?_cons_succ]
      exact h2
theorem mem_pos {to : Int} {T : List (List Cp)} {x y : Ps} (hx : x ∈ tabE to T 0) (hy : y ∈ tabE to T 0) (hp : x.p = y.p) (hi : x.i = y.i) : x = y := by
  obtain ⟨_, ⟨cs, h1, h2⟩, _⟩ := tabE_mem to T 0 x hx
  obtain ⟨_, ⟨ds, k1, k2⟩, _⟩ := tabE_mem to T 0 y hy
  rw [hp] at h1
  rw [h1] at k1
  injection k1 with k1
  subst k1
  rw [hi, k2] at h2
  injection h2 with h2
  cases x; cases y
  simp_all
theorem rowE_pw (to : Int) (p : Nat) : ∀ (cs : List Cp) (i : Nat), (rowE to p cs i).Pairwise (fun x y => x.i < y.i) := by
  intro cs
  induction cs with
  | nil => intro i; exact List.Pairwise.nil
  | cons c cs ih =>
    intro i
    rw [rowE]
    split
    · refine List.pairwise_cons.2 ⟨fun y hy => ?_, ih (i + 1)⟩
      have := rowE_mem to p cs (i + 1) y hy
      show i < y.i
      omega
    · exact ih (i + 1)
theorem tabE_pw (to : Int) : ∀ (T : List (List Cp)) (p : Nat), (tabE to T p).Pairwise (fun x y => x.p < y.p ∨ x.p = y.p ∧ x.i < y.i) := by
  intro T
  induction T with
  | nil => intro p; exact List.Pairwise.nil
  | cons cs T ih =>
    intro p
    rw [tabE]
    refine List.pairwise_append.2 ⟨?_, ih (p + 1), fun x hx y hy => ?_⟩
    · refine (rowE_pw to p cs 0).imp_of_mem fun hx hy h => .inr ⟨?_, h⟩
      rw [(rowE_mem to p cs 0 _ hx).1, (rowE_mem to p cs 0 _ hy).1]
    · have h1 := (rowE_mem to p cs 0 x hx).1
      have h2 := (tabE_mem to T (p + 1) y hy).1
      exact .inl (by omega)

/-! ### the first with a number -/
def fstE : List Ps → Int → Option Nat
  | [], _ => none
  | x :: E, r => if x.c.rsn = r then some 0 else (fstE E r).map (· + 1)
def fndE : List Ps → Int → Option Ps
  | [], _ => none
  | x :: E, r => if x.c.rsn = r then some x else fndE E r
theorem fst_app (A B : List Ps) (r : Int) : fstE (A ++ B) r = match fstE A r with | some i => some i | none => (fstE B r).map (· + A.length) := by
  induction A with
  | nil => simp [fstE]
  | cons x A ih =>
    rw [List.cons_append, fstE, fstE]
    by_cases h : x.c.rsn = r
    · rw [if_pos h, if_pos h]
    · rw [if_neg h, if_neg h, ih]
      cases fstE A r with
      | some i => rfl
      | none =>
        cases fstE B r with
        | none => rfl
        | some j => simp; omega
theorem fnd_app (A B : List Ps) (r : Int) : fndE (A ++ B) r = match fndE A r with | some i => some i | none => fndE B r := by
  induction A with
  | nil => simp [fndE]
  | cons x A ih =>
    rw [List.cons_append, fndE, fndE]
    by_cases h : x.c.rsn = r
    · rw [if_pos h, if_pos h]
    · rw [if_neg h, if_neg h, ih]
theorem fst_some {E : List Ps} {r : Int} : ∀ {i : Nat}, fstE E r = some i → ∃ x, E[i]? = some x ∧ x.c.rsn = r ∧ fndE E r = some x := by
  induction E with
  | nil => intro i h; simp [fstE] at h
  | cons x E ih =>
    intro i h
    rw [fstE] at h
    by_cases hx : x.c.rsn = r
    · rw [if_pos hx] at h
      injection h with h
      subst h
      exact ⟨x, rfl, hx, by rw [fndE, if_pos hx]⟩
    · rw [if_neg hx] at h
      cases hf : fstE E r with
      | none => rw [hf] at h; simp at h
      | some j =>
        rw [hf] at h
        simp at h
        subst h
        obtain ⟨y, h1, h2, h3⟩ := ih hf
        exact ⟨y, by rw [List.getElem?_cons_succ]; exact h1, h2, by rw [fndE, if_neg hx]; exact h3⟩
theorem fst_none {E : List Ps} {r : Int} (h : fstE E r = none) : fndE E r = none := by
  induction E with
  | nil => rfl
  | cons x E ih =>
    rw [fstE] at h
    by_cases hx : x.c.rsn = r
    · rw [if_pos hx] at h; cases h
    · rw [if_neg hx] at h
      cases hf : fstE E r with
      | none => rw [fndE, if_neg hx]; exact ih hf
      | some j => rw [hf] at h; simp at h
theorem fnd_mem {E : List Ps} {r : Int} {x : Ps} (h : fndE E r = some x) : x ∈ E ∧ x.c.rsn = r := by
  cases hf : fstE E r with
  | none => rw [fst_none hf] at h; cases h
  | some i =>
    obtain ⟨y, h1, h2, h3⟩ := fst_some hf
    rw [h] at h3
    injection h3 with h3
    subst h3
    exact ⟨List.mem_of_getElem? h1, h2⟩
/-- the numbers from 1 on are there up to R, and not the next one -/
def Stop (E : List Ps) (R : Nat) : Prop := (∀ q : Nat, q < R → fndE E ((q : Int) + 1) ≠ none) ∧ fndE E ((R : Int) + 1) = none
theorem stop_unique {E : List Ps} {R R' : Nat} (h : Stop E R) (h' : Stop E R') : R = R' := by
  rcases Nat.lt_trichotomy R R' with hl | hl | hl
  · exact absurd h.2 (h'.1 R hl)
  · exact hl
  · exact absurd h'.2 (h.1 R' hl)
/-- there are not more numbers than copies -/
theorem stop_all {E : List Ps} (h : ∀ q : Nat, q < E.length → fndE E ((q : Int) + 1) ≠ none) : fndE E ((E.length : Int) + 1) = none := by
  cases hf : fndE E ((E.length : Int) + 1) with
  | none => rfl
  | some x =>
    exfalso
    have hall : ∀ q : Nat, q < E.length + 1 → ((q : Int) + 1) ∈ E.map (fun x => x.c.rsn) := fun q hq => by
      have : fndE E ((q : Int) + 1) ≠ none := by
        by_cases hq' : q < E.length
        · exact h q hq'
        · obtain rfl : q = E.length := by omega
          rw [hf]; simp
      cases hy : fndE E ((q : Int) + 1) with
      | none => exact absurd hy this
      | some y =>
        have := fnd_mem hy
        exact List.mem_map.2 ⟨y, this.1, this.2⟩
    have hnd : ((List.range (E.length + 1)).map (fun q : Nat => ((q : Int) + 1))).Nodup := by
      exact List.pairwise_map.2 (List.nodup_range.imp (fun {a b} (hab : a ≠ b) => by show ((a : Int) + 1) ≠ (b : Int) + 1; omega))
    have hsub : ((List.range (E.length + 1)).map (fun q : Nat => ((q : Int) + 1))) ⊆ E.map (fun x => x.c.rsn) := fun z hz => by
      obtain ⟨q, hq, rfl⟩ := List.mem_map.1 hz
      exact hall q (List.mem_range.1 hq)
    have := hnd.length_le_of_subset hsub
    simp at this
    omega
def fixedL (E : List Ps) (R : Nat) : List Rc := (List.range R).map (fun q : Nat => ((fndE E ((q : Int) + 1)).map Ps.rc).getD default)
theorem fixedL_len (E : List Ps) (R : Nat) : (fixedL E R).length = R := by simp [fixedL]
theorem fixedL_succ (E : List Ps) (R : Nat) {x : Ps} (h : fndE E ((R : Int) + 1) = some x) : fixedL E (R + 1) = fixedL E R ++ [x.rc] := by
  unfold fixedL
  rw [List.range_succ, List.map_append, List.map_cons, List.map_nil, h]
  rfl
/-- whether a copy has a fixed place -/
def usedB (E : List Ps) (R : Nat) (p i : Nat) : Bool := (List.range R).any (fun q : Nat => match fndE E ((q : Int) + 1) with | some y => y.p == p && y.i == i | none => false)
theorem usedB_succ (E : List Ps) (R : Nat) {x : Ps} (h : fndE E ((R : Int) + 1) = some x) (p i : Nat) : usedB E (R + 1) p i = (usedB E R p i || (x.p == p && x.i == i)) := by
  unfold usedB
  rw [List.range_succ, List.any_append, List.any_cons, List.any_nil, h, Bool.or_false]
def restL (E : List Ps) (R : Nat) : List Rc := (E.filter (fun x => !usedB E R x.p x.i)).map Ps.rc
/-- .. by places in the list -/
def plcI (E : List Ps) (R : Nat) (k : Int) : Bool := (List.range R).any (fun q : Nat => match fstE E ((q : Int) + 1) with | some j => decide ((j : Int) = k) | none => false)
theorem plcI_succ (E : List Ps) (R : Nat) {j : Nat} (h : fstE E ((R : Int) + 1) = some j) (k : Int) : plcI E (R + 1) k = (plcI E R k || decide ((j : Int) = k)) := by
  unfold plcI
  rw [List.range_succ, List.any_append, List.any_cons, List.any_nil, h, Bool.or_false]
theorem plc_used {to : Int} {T : List (List Cp)} (R n : Nat) {x : Ps} (hx : (tabE to T 0)[n]? = some x) : plcI (tabE to T 0) R n = usedB (tabE to T 0) R x.p x.i := by
  unfold plcI usedB
  congr 1
  funext q
  cases hf : fstE (tabE to T 0) ((q : Int) + 1) with
  | none => rw [fst_none hf]
  | some j =>
    obtain ⟨y, h1, h2, h3⟩ := fst_some hf
    rw [h3]
    simp only
    by_cases e : j = n
    · subst e
      rw [h1] at hx
      injection hx with hx
      subst hx
      simp
    · have hne : ¬ (y.p = x.p ∧ y.i = x.i) := fun ⟨e1, e2⟩ => by
        have hpw := tabE_pw to T 0
        obtain ⟨j1, j2⟩ := List.getElem?_eq_some_iff.1 h1
        obtain ⟨n1, n2⟩ := List.getElem?_eq_some_iff.1 hx
        rcases Nat.lt_or_gt_of_ne e with hl | hl
        · have := (List.pairwise_iff_getElem.1 hpw) j n j1 n1 hl
          rw [j2, n2] at this
          omega
        · have := (List.pairwise_iff_getElem.1 hpw) n j n1 j1 hl
          rw [j2, n2] at this
          omega
      have e' : ¬ ((j : Int) = (n : Int)) := by omega
      rw [decide_eq_false e']
      cases h4 : (y.p == x.p && y.i == x.i) with
      | false => rfl
      | true => simp at h4; exact absurd h4 hne
/-- the rest, counted up -/
def restN (E : List Ps) (R : Nat) : Nat → List Rc
  | 0 => []
  | n + 1 => restN E R n ++ (if plcI E R n then [] else (E[n]?.map Ps.rc).toList)
theorem restN_all {to : Int} {T : List (List Cp)} (R : Nat) : restN (tabE to T 0) R (tabE to T 0).length = restL (tabE to T 0) R := by
  have : ∀ n, n ≤ (tabE to T 0).length → restN (tabE to T 0) R n = (((tabE to T 0).take n).filter (fun x => !usedB (tabE to T 0) R x.p x.i)).map Ps.rc := by
    intro n
    induction n with
    | zero => intro _; simp [restN]
    | succ n ih =>
      intro hn
      have hx : (tabE to T 0)[n]? = some (tabE to T 0)[n] := List.getElem?_eq_getElem (by omega)
      rw [restN, ih (by omega), List.take_add_one, hx, List.filter_append, List.map_append, plc_used R n hx]
      congr 1
      cases hu : usedB (tabE to T 0) R (tabE to T 0)[n].p (tabE to T 0)[n].i with
      | true => simp [hu]
      | false => simp [hu]
  have h := this _ (Nat.le_refl _)
  rw [List.take_length] at h
  exact h
/-- what both rebuild -/
def Reb (E : List Ps) (l : List Rc) (R : Nat) : Prop := ∃ S, l = fixedL E R ++ S ∧ Stop E R ∧ Srtd (ltOf cmpRc) S ∧ Cls (ltOf cmpRc) (restL E R) S
theorem reb_unique {E : List Ps} {l l' : List Rc} {R R' : Nat} (h : Reb E l R) (h' : Reb E l' R') : l = l' ∧ R = R' := by
  obtain ⟨S, rfl, h1, h2, h3⟩ := h
  obtain ⟨S', rfl, k1, k2, k3⟩ := h'
  obtain rfl := stop_unique h1 k1
  rw [srtd_unique swoR S S' h2 k2 (h3.symm.trans k3)]
  exact ⟨rfl, rfl⟩
end Go.Proofs.Ytooegndajfopkaa
