/- The plain law of recovering. No statement of the seat is proved here. -/
import Derived.Test.YtooegndajfopkaaRebPlain
namespace Go.Proofs.Ytooegndajfopkaa
open Go.Sort
set_option linter.unusedVariables false

def rcv (p : Nat) (cs : List Cp) : List Rc := cs.map (fun c => ⟨(p : Int), c.ssn, c.val⟩)
def allR : List (List Cp) → Nat → List Rc
  | [], _ => []
  | cs :: T, p => rcv p cs ++ allR T (p + 1)
theorem rowE_rc (tg : Int) (p : Nat) : ∀ (cs : List Cp) (i : Nat), (∀ c ∈ cs, c.to = tg) → (rowE tg p cs i).map Ps.rc = rcv p cs := by
  intro cs
  induction cs with
  | nil => intro i _; rfl
  | cons c cs ih =>
    intro i h
    rw [rowE, if_pos (h c (List.mem_cons_self)), List.map_cons, ih (i + 1) (fun d hd => h d (List.mem_cons_of_mem _ hd))]
    rfl
theorem tabE_rc (tg : Int) : ∀ (T : List (List Cp)) (p : Nat), (∀ cs ∈ T, ∀ c ∈ cs, c.to = tg) → (tabE tg T p).map Ps.rc = allR T p := by
  intro T
  induction T with
  | nil => intro p _; rfl
  | cons cs T ih =>
    intro p h
    rw [tabE, allR, List.map_append, rowE_rc tg p cs 0 (h cs (List.mem_cons_self)), ih (p + 1) (fun d hd => h d (List.mem_cons_of_mem _ hd))]
theorem allR_push : ∀ (T : List (List Cp)) (p q : Nat) (cs : List Cp) (c : Cp), T[q]? = some cs → (allR (T.set q (cs ++ [c])) p).Perm (⟨((p + q : Nat) : Int), c.ssn, c.val⟩ :: allR T p) := by
  intro T
  induction T with
  | nil => intro p q cs c h; simp at h
  | cons ds T ih =>
    intro p q cs c h
    cases q with
    | zero =>
      simp only [List.getElem?_cons_zero, Option.some.injEq] at h
      subst h
      rw [List.set_cons_zero, allR, allR]
      unfold rcv
      rw [List.map_append, List.append_assoc]
      refine (List.perm_middle (a := (⟨((p + 0 : Nat) : Int), c.ssn, c.val⟩ : Rc)) (l₁ := ds.map _) (l₂ := allR T (p + 1)))
    | succ q =>
      rw [List.set_cons_succ, allR, allR]
      have h2 := ih (p + 1) q cs c (by simpa using h)
      rw [show p + 1 + q = p + (q + 1) by omega] at h2
      exact (h2.append_left _).trans List.perm_middle
theorem allR_mem : ∀ (T : List (List Cp)) (p : Nat) (x : Rc), x ∈ allR T p → ∃ q cs c, T[q]? = some cs ∧ c ∈ cs ∧ x = ⟨((p + q : Nat) : Int), c.ssn, c.val⟩ := by
  intro T
  induction T with
  | nil => intro p x h; simp [allR] at h
  | cons ds T ih =>
    intro p x h
    rw [allR] at h
    rcases List.mem_append.1 h with h | h
    · obtain ⟨c, hc, rfl⟩ := List.mem_map.1 h
      exact ⟨0, ds, c, rfl, hc, rfl⟩
    · obtain ⟨q, cs, c, h1, h2, h3⟩ := ih (p + 1) x h
      exact ⟨q + 1, cs, c, by simpa using h1, h2, by rw [h3, show p + 1 + q = p + (q + 1) by omega]⟩
theorem rcv_nodup (p : Nat) (cs : List Cp) (h : ∀ (i : Nat) (c : Cp), cs[i]? = some c → c.ssn = (i : Int) + 1) : (rcv p cs).Nodup := by
  refine List.pairwise_iff_getElem.2 fun i j hi hj hij => ?_
  unfold rcv at hi hj ⊢
  rw [List.length_map] at hi hj
  rw [List.getElem_map, List.getElem_map]
  intro e
  injection e with _ e _
  rw [h i _ (List.getElem?_eq_getElem hi), h j _ (List.getElem?_eq_getElem hj)] at e
  omega
theorem allR_nodup : ∀ (T : List (List Cp)) (p : Nat), (∀ cs ∈ T, ∀ (i : Nat) (c : Cp), cs[i]? = some c → c.ssn = (i : Int) + 1) → (allR T p).Nodup := by
  intro T
  induction T with
  | nil => intro p _; exact List.Pairwise.nil
  | cons ds T ih =>
    intro p h
    rw [allR]
    refine List.pairwise_append.2 ⟨rcv_nodup p ds (h ds List.mem_cons_self), ih (p + 1) (fun cs hc => h cs (List.mem_cons_of_mem _ hc)), fun x hx y hy => ?_⟩
    obtain ⟨c, _, rfl⟩ := List.mem_map.1 hx
    obtain ⟨q, cs, d, _, _, rfl⟩ := allR_mem T (p + 1) y hy
    intro e
    injection e with e _ _
    omega
/-- what was sent, and the order in which it was received -/
structure Sent (T : List (List Cp)) (O : List Rc) : Prop where
  row : ∀ cs ∈ T, ∀ (i : Nat) (c : Cp), cs[i]? = some c → c.to = 9 ∧ c.ssn = (i : Int) + 1 ∧ c.rsn = 0
  perm : O.Perm (allR T 0)
theorem Sent.start (n : Nat) : Sent (List.replicate n []) [] := by
  refine ⟨fun cs h i c hc => ?_, ?_⟩
  · rw [List.eq_of_mem_replicate h] at hc; simp at hc
  · have : ∀ (n p : Nat), allR (List.replicate n []) p = [] := by
      intro n
      induction n with
      | zero => intro p; rfl
      | succ n ih => intro p; rw [List.replicate_succ, allR, ih]; rfl
    rw [this]
theorem Sent.push {T : List (List Cp)} {O O' : List Rc} (h : Sent T O) {p : Nat} {cs : List Cp} (hp : T[p]? = some cs) (v : Int) (hO : O'.Perm (⟨(p : Int), (cs.length : Int) + 1, v⟩ :: O)) :
    Sent (T.set p (cs ++ [⟨9, (cs.length : Int) + 1, v, 0⟩])) O' := by
  refine ⟨fun ds hd i c hc => ?_, ?_⟩
  · rcases List.mem_or_eq_of_mem_set hd with hd | rfl
    · exact h.row ds hd i c hc
    · rw [List.getElem?_append] at hc
      split at hc
      · exact h.row cs (List.mem_of_getElem? hp) i c hc
      · rename_i hn
        rw [List.getElem?_singleton] at hc
        split at hc
        · injection hc with hc
          subst hc
          exact ⟨rfl, by show (cs.length : Int) + 1 = _; omega, rfl⟩
        · cases hc
  · have h1 := allR_push T 0 p cs ⟨9, (cs.length : Int) + 1, v, 0⟩ hp
    rw [Nat.zero_add] at h1
    exact hO.trans ((h.perm.cons _).trans h1.symm)
theorem Sent.nodup {T : List (List Cp)} {O : List Rc} (h : Sent T O) : O.Nodup :=
  h.perm.nodup_iff.2 (allR_nodup T 0 fun cs hc i c hi => (h.row cs hc i c hi).2.1)
theorem Sent.at_ {T : List (List Cp)} {O : List Rc} (h : Sent T O) {x : Rc} (hx : x ∈ O) : ∃ (p : Nat) (cs : List Cp) (i : Nat) (c : Cp), T[p]? = some cs ∧ cs[i]? = some c ∧ x = ⟨(p : Int), (i : Int) + 1, c.val⟩ ∧ c.ssn = (i : Int) + 1 := by
  obtain ⟨q, cs, c, h1, h2, h3⟩ := allR_mem T 0 x (h.perm.mem_iff.1 hx)
  obtain ⟨i, hi⟩ := List.mem_iff_getElem?.1 h2
  have hs := (h.row cs (List.mem_of_getElem? h1) i c hi).2.1
  exact ⟨q, cs, i, c, h1, hi, by rw [h3, hs, Nat.zero_add], hs⟩
theorem Sent.len {T : List (List Cp)} {O : List Rc} (h : Sent T O) {p : Nat} {cs : List Cp} (hp : T[p]? = some cs) : cs.length ≤ O.length := by
  rw [h.perm.length_eq]
  have : ∀ (T : List (List Cp)) (k p : Nat) (cs : List Cp), T[p]? = some cs → cs.length ≤ (allR T k).length := by
    intro T
    induction T with
    | nil => intro k p cs h; simp at h
    | cons ds T ih =>
      intro k p cs h
      rw [allR, List.length_append]
      cases p with
      | zero => simp at h; subst h; simp [rcv]
      | succ p => have := ih (k + 1) p cs (by simpa using h); omega
  exact this T 0 p cs hp
/-- the first R of the order are known by their numbers -/
structure Rcd (T T' : List (List Cp)) (O : List Rc) (R : Nat) : Prop where
  len : T'.length = T.length
  row : ∀ (p : Nat) (cs : List Cp), T[p]? = some cs → ∃ cs', T'[p]? = some cs' ∧ cs'.length = cs.length ∧ ∀ (i : Nat) (c : Cp), cs[i]? = some c → ∃ r, cs'[i]? = some ⟨9, c.ssn, c.val, r⟩ ∧
    ((r = 0 ∧ (⟨(p : Int), c.ssn, c.val⟩ : Rc) ∉ O.take R) ∨ ∃ q : Nat, q < R ∧ O[q]? = some ⟨(p : Int), c.ssn, c.val⟩ ∧ r = (q : Int) + 1)
theorem Rcd.start {T : List (List Cp)} {O : List Rc} (h : Sent T O) : Rcd T T O 0 := by
  refine ⟨rfl, fun p cs hp => ⟨cs, hp, rfl, fun i c hi => ⟨0, ?_, .inl ⟨rfl, by simp⟩⟩⟩⟩
  obtain ⟨h1, h2, h3⟩ := h.row cs (List.mem_of_getElem? hp) i c hi
  rw [hi]
  cases c
  simp only at h1 h3
  subst h1 h3
  rfl
theorem Rcd.next {T T' : List (List Cp)} {O : List Rc} {R : Nat} (hS : Sent T O) (h : Rcd T T' O R) (hR : R < O.length) :
    ∃ (p : Nat) (cs' : List Cp), T'[p]? = some cs' ∧ O[R].frm = (p : Int) ∧ (recFrom cs' ⟨9, O[R].ssn, O[R].val, (R : Int) + 1⟩).length = cs'.length ∧ Rcd T (T'.set p (recFrom cs' ⟨9, O[R].ssn, O[R].val, (R : Int) + 1⟩)) O (R + 1) := by
  have hx : O[R] ∈ O := List.getElem_mem hR
  obtain ⟨p, cs, i, c, hp, hi, hxe, hcs⟩ := hS.at_ hx
  obtain ⟨cs', hp', hl, hrow⟩ := h.row p cs hp
  have hil : i < cs.length := (List.getElem?_eq_some_iff.1 hi).1
  have hssn : ∀ (k : Nat) (hk : k < cs'.length), cs'[k].ssn = (k : Int) + 1 := fun k hk => by
    obtain ⟨r, h1, _⟩ := hrow k (cs[k]'(by omega)) (List.getElem?_eq_getElem (by omega))
    rw [List.getElem?_eq_getElem hk] at h1
    injection h1 with h1
    rw [h1]
    exact (hS.row cs (List.mem_of_getElem? hp) k _ (List.getElem?_eq_getElem (by omega))).2.1
  have hto : ∀ (k : Nat) (hk : k < cs'.length), cs'[k].to = 9 := fun k hk => by
    obtain ⟨r, h1, _⟩ := hrow k (cs[k]'(by omega)) (List.getElem?_eq_getElem (by omega))
    rw [List.getElem?_eq_getElem hk] at h1
    injection h1 with h1
    rw [h1]
  have hrec : recFrom cs' ⟨9, O[R].ssn, O[R].val, (R : Int) + 1⟩ = cs'.set i ⟨9, O[R].ssn, O[R].val, (R : Int) + 1⟩ := by
    refine rec_hit cs' _ i (by omega) (hto i (by omega)) ?_ fun k hk hki e => ?_
    · rw [hssn i (by omega), hxe]
    · have := e.2
      rw [hssn k hk, hxe] at this
      simp only at this
      omega
  refine ⟨p, cs', hp', by rw [hxe], by rw [hrec, List.length_set], by rw [List.length_set]; exact h.len, fun q ds hq => ?_⟩
  have htk : O.take (R + 1) = O.take R ++ [O[R]] := List.take_succ_eq_append_getElem hR
  rw [hrec]
  by_cases e : p = q
  · subst e
    rw [hp] at hq
    injection hq with hq
    subst hq
    refine ⟨_, by rw [List.getElem?_set_self (List.getElem?_eq_some_iff.1 hp').1], by rw [List.length_set]; exact hl, fun k d hk => ?_⟩
    by_cases ek : i = k
    · subst ek
      rw [hi] at hk
      injection hk with hk
      subst hk
      refine ⟨(R : Int) + 1, ?_, .inr ⟨R, by omega, ?_, rfl⟩⟩
      · rw [List.getElem?_set_self (by omega), hxe, hcs]
      · rw [List.getElem?_eq_getElem hR, hxe, hcs]
    · obtain ⟨r, h1, h2⟩ := hrow k d hk
      refine ⟨r, by rw [List.getElem?_set_ne ek]; exact h1, ?_⟩
      rcases h2 with ⟨h2, h3⟩ | ⟨q, h2, h3, h4⟩
      · refine .inl ⟨h2, ?_⟩
        rw [htk]
        intro hm
        rcases List.mem_append.1 hm with hm | hm
        · exact h3 hm
        · rw [List.mem_singleton, hxe] at hm
          injection hm with _ hm _
          rw [(hS.row cs (List.mem_of_getElem? hp) k d hk).2.1] at hm
          omega
      · exact .inr ⟨q, by omega, h3, h4⟩
  · obtain ⟨ds', h1, h2, h3⟩ := h.row q ds hq
    refine ⟨ds', by rw [List.getElem?_set_ne e]; exact h1, h2, fun k d hk => ?_⟩
    obtain ⟨r, h4, h5⟩ := h3 k d hk
    refine ⟨r, h4, ?_⟩
    rcases h5 with ⟨h5, h6⟩ | ⟨q', h5, h6, h7⟩
    · refine .inl ⟨h5, ?_⟩
      rw [htk]
      intro hm
      rcases List.mem_append.1 hm with hm | hm
      · exact h6 hm
      · rw [List.mem_singleton, hxe] at hm
        injection hm with hm _ _
        omega
    · exact .inr ⟨q', by omega, h6, h7⟩
theorem allR_congr : ∀ (T T' : List (List Cp)) (p : Nat), T'.length = T.length → (∀ (q : Nat) (cs : List Cp), T[q]? = some cs → ∃ cs', T'[q]? = some cs' ∧ cs'.map (fun c => (c.ssn, c.val)) = cs.map (fun c => (c.ssn, c.val))) → allR T' p = allR T p := by
  intro T
  induction T with
  | nil => intro T' p hl _; rw [List.length_eq_zero_iff.1 hl]
  | cons cs T ih =>
    intro T' p hl h
    cases T' with
    | nil => simp at hl
    | cons cs' T' =>
      rw [allR, allR, ih T' (p + 1) (by simpa using hl) (fun q ds hq => by
        obtain ⟨ds', h1, h2⟩ := h (q + 1) ds (by simpa using hq)
        exact ⟨ds', by simpa using h1, h2⟩)]
      obtain ⟨ds', h1, h2⟩ := h 0 cs rfl
      simp only [List.getElem?_cons_zero, Option.some.injEq] at h1
      subst h1
      congr 1
      unfold rcv
      have := congrArg (List.map (fun z : Int × Int => (⟨(p : Int), z.1, z.2⟩ : Rc))) h2
      rw [List.map_map, List.map_map] at this
      exact this
theorem Rcd.rcs {T T' : List (List Cp)} {O : List Rc} {R : Nat} (hS : Sent T O) (h : Rcd T T' O R) : (tabE 9 T' 0).map Ps.rc = allR T 0 := by
  rw [tabE_rc 9 T' 0, allR_congr T T' 0 h.len]
  · intro q cs hq
    obtain ⟨cs', h1, h2, h3⟩ := h.row q cs hq
    refine ⟨cs', h1, List.ext_getElem? fun i => ?_⟩
    rw [List.getElem?_map, List.getElem?_map]
    cases hi : cs[i]? with
    | none => rw [List.getElem?_eq_none (by have := List.getElem?_eq_none_iff.1 hi; omega)]
    | some c =>
      obtain ⟨r, h4, _⟩ := h3 i c hi
      rw [h4]
      rfl
  · intro cs' hcs' c' hc'
    obtain ⟨q, hq⟩ := List.mem_iff_getElem?.1 hcs'
    have hql := (List.getElem?_eq_some_iff.1 hq).1
    rw [h.len] at hql
    obtain ⟨ds', h1, h2, h3⟩ := h.row q T[q] (List.getElem?_eq_getElem hql)
    rw [hq] at h1
    injection h1 with h1
    subst h1
    obtain ⟨i, hi⟩ := List.mem_iff_getElem?.1 hc'
    have hil := (List.getElem?_eq_some_iff.1 hi).1
    obtain ⟨r, h4, _⟩ := h3 i (T[q][i]'(by omega)) (List.getElem?_eq_getElem (by omega))
    rw [hi] at h4
    injection h4 with h4
    rw [h4]
theorem Rcd.num {T T' : List (List Cp)} {O : List Rc} {R : Nat} (h : Rcd T T' O R) {x : Ps} (hx : x ∈ tabE 9 T' 0) : (x.c.rsn = 0 ∧ x.rc ∉ O.take R) ∨ ∃ q : Nat, q < R ∧ O[q]? = some x.rc ∧ x.c.rsn = (q : Int) + 1 := by
  obtain ⟨_, ⟨cs', h1, h2⟩, _⟩ := tabE_mem 9 T' 0 x hx
  rw [Nat.sub_zero] at h1
  have hpl := (List.getElem?_eq_some_iff.1 h1).1
  rw [h.len] at hpl
  obtain ⟨ds', k1, k2, k3⟩ := h.row x.p T[x.p] (List.getElem?_eq_getElem hpl)
  rw [h1] at k1
  injection k1 with k1
  subst k1
  have hil := (List.getElem?_eq_some_iff.1 h2).1
  obtain ⟨r, k4, k5⟩ := k3 x.i (T[x.p][x.i]'(by omega)) (List.getElem?_eq_getElem (by omega))
  rw [h2] at k4
  injection k4 with k4
  unfold Ps.rc
  rw [k4]
  exact k5
theorem fnd_none {E : List Ps} {r : Int} (h : fndE E r = none) : ∀ x ∈ E, x.c.rsn ≠ r := by
  induction E with
  | nil => intro x hx; simp at hx
  | cons y E ih =>
    intro x hx e
    rw [fndE] at h
    split at h
    · cases h
    · rename_i hy
      rcases List.mem_cons.1 hx with rfl | hx
      · exact hy e
      · exact ih h x hx e
theorem nodup_inj {α β : Type} {f : α → β} : ∀ {l : List α}, (l.map f).Nodup → ∀ x ∈ l, ∀ y ∈ l, f x = f y → x = y := by
  intro l
  induction l with
  | nil => intro _ x hx; simp at hx
  | cons a l ih =>
    intro h x hx y hy e
    rw [List.map_cons] at h
    have h' := List.pairwise_cons.1 h
    rcases List.mem_cons.1 hx with e1 | hx1
    · rcases List.mem_cons.1 hy with e2 | hy1
      · rw [e1, e2]
      · exact absurd (by rw [← e1]; exact e) (h'.1 _ (List.mem_map.2 ⟨y, hy1, rfl⟩))
    · rcases List.mem_cons.1 hy with e2 | hy1
      · exact absurd (by rw [← e2]; exact e.symm) (h'.1 _ (List.mem_map.2 ⟨x, hx1, rfl⟩))
      · exact ih h'.2 x hx1 y hy1 e
theorem nodup_idx {α : Type} {l : List α} (h : l.Nodup) {i j : Nat} {x : α} (hi : l[i]? = some x) (hj : l[j]? = some x) : i = j := by
  obtain ⟨h1, h2⟩ := List.getElem?_eq_some_iff.1 hi
  obtain ⟨h3, h4⟩ := List.getElem?_eq_some_iff.1 hj
  rcases Nat.lt_trichotomy i j with hl | hl | hl
  · exact absurd (h2.trans h4.symm) ((List.pairwise_iff_getElem.1 h) i j h1 h3 hl)
  · exact hl
  · exact absurd (h4.trans h2.symm) ((List.pairwise_iff_getElem.1 h) j i h3 h1 hl)
theorem Rcd.find {T T' : List (List Cp)} {O : List Rc} {R : Nat} (hS : Sent T O) (h : Rcd T T' O R) (hR : R ≤ O.length) {q : Nat} (hq : q < R) : ∃ y, fndE (tabE 9 T' 0) ((q : Int) + 1) = some y ∧ y ∈ tabE 9 T' 0 ∧ O[q]? = some y.rc := by
  have hql : q < O.length := by omega
  have hmem : O[q] ∈ (tabE 9 T' 0).map Ps.rc := by rw [h.rcs hS]; exact hS.perm.mem_iff.1 (List.getElem_mem hql)
  obtain ⟨x, hx, hxr⟩ := List.mem_map.1 hmem
  have hnum := h.num hx
  cases hf : fndE (tabE 9 T' 0) ((q : Int) + 1) with
  | none =>
    exfalso
    have hne := fnd_none hf x hx
    rcases hnum with ⟨_, h2⟩ | ⟨q', h1, h2, h3⟩
    · apply h2
      rw [hxr]
      exact List.mem_iff_getElem?.2 ⟨q, by rw [List.getElem?_take_of_lt hq]; exact List.getElem?_eq_getElem hql⟩
    · rw [hxr] at h2
      have := nodup_idx hS.nodup h2 (List.getElem?_eq_getElem hql)
      subst this
      exact hne h3
  | some y =>
    have hy := fnd_mem hf
    refine ⟨y, rfl, hy.1, ?_⟩
    rcases h.num hy.1 with ⟨h1, _⟩ | ⟨q', h1, h2, h3⟩
    · have := hy.2; omega
    · have := hy.2
      obtain rfl : q = q' := by omega
      exact h2
theorem Rcd.stop {T T' : List (List Cp)} {O : List Rc} {R : Nat} (hS : Sent T O) (h : Rcd T T' O R) (hR : R ≤ O.length) : Stop (tabE 9 T' 0) R := by
  refine ⟨fun q hq => ?_, ?_⟩
  · obtain ⟨y, hy, _⟩ := h.find hS hR hq
    rw [hy]; simp
  · cases hf : fndE (tabE 9 T' 0) ((R : Int) + 1) with
    | none => rfl
    | some y =>
      exfalso
      have hy := fnd_mem hf
      rcases h.num hy.1 with ⟨h1, _⟩ | ⟨q', h1, h2, h3⟩
      · have := hy.2; omega
      · have := hy.2; omega
theorem Rcd.fixed {T T' : List (List Cp)} {O : List Rc} {R : Nat} (hS : Sent T O) (h : Rcd T T' O R) (hR : R ≤ O.length) : fixedL (tabE 9 T' 0) R = O.take R := by
  refine List.ext_getElem? fun q => ?_
  by_cases hq : q < R
  · obtain ⟨y, h1, _, h3⟩ := h.find hS hR hq
    rw [List.getElem?_take_of_lt hq, h3]
    unfold fixedL
    rw [List.getElem?_map, List.getElem?_range hq, Option.map_some, h1]
    rfl
  · rw [List.getElem?_eq_none (by rw [fixedL_len]; omega), List.getElem?_eq_none (by rw [List.length_take]; omega)]
theorem Rcd.used {T T' : List (List Cp)} {O : List Rc} {R : Nat} (hS : Sent T O) (h : Rcd T T' O R) (hR : R ≤ O.length) {x : Ps} (hx : x ∈ tabE 9 T' 0) : usedB (tabE 9 T' 0) R x.p x.i = decide (x.rc ∈ O.take R) := by
  have hnd : ((tabE 9 T' 0).map Ps.rc).Nodup := by rw [h.rcs hS]; exact hS.perm.nodup_iff.1 hS.nodup
  rw [Bool.eq_iff_iff, decide_eq_true_iff]
  unfold usedB
  rw [List.any_eq_true]
  constructor
  · rintro ⟨q, hq, hm⟩
    rw [List.mem_range] at hq
    obtain ⟨y, h1, h2, h3⟩ := h.find hS hR hq
    rw [h1] at hm
    simp only [Bool.and_eq_true, beq_iff_eq] at hm
    have := mem_pos h2 hx hm.1 hm.2
    subst this
    exact List.mem_iff_getElem?.2 ⟨q, by rw [List.getElem?_take_of_lt hq]; exact h3⟩
  · intro hm
    obtain ⟨q, hqm⟩ := List.mem_iff_getElem?.1 hm
    have hq : q < R := by
      have := (List.getElem?_eq_some_iff.1 hqm).1
      rw [List.length_take] at this
      omega
    rw [List.getElem?_take_of_lt hq] at hqm
    obtain ⟨y, h1, h2, h3⟩ := h.find hS hR hq
    rw [hqm] at h3
    injection h3 with h3
    have := nodup_inj hnd x hx y h2 h3
    subst this
    refine ⟨q, List.mem_range.2 hq, ?_⟩
    rw [h1]
    simp
theorem filter_drop {O : List Rc} (h : O.Nodup) (R : Nat) : O.filter (fun x => !decide (x ∈ O.take R)) = O.drop R := by
  have e : O = O.take R ++ O.drop R := (List.take_append_drop R O).symm
  have hd : ∀ x ∈ O.drop R, x ∉ O.take R := fun x hx hx' => by
    rw [e] at h
    exact (List.pairwise_append.1 h).2.2 x hx' x hx rfl
  have h1 : (O.take R).filter (fun x => !decide (x ∈ O.take R)) = [] := List.filter_eq_nil_iff.2 fun x hx => by simp [hx]
  have h2 : (O.drop R).filter (fun x => !decide (x ∈ O.take R)) = O.drop R := List.filter_eq_self.2 fun x hx => by simp [hd x hx]
  have h3 : (O.take R ++ O.drop R).filter (fun x => !decide (x ∈ O.take R)) = O.drop R := by rw [List.filter_append, h1, h2]; rfl
  rw [← e] at h3
  exact h3
theorem cls_perm {A B : List Rc} (h : Cls (ltOf cmpRc) A B) : A.Perm B := by
  refine List.perm_iff_count.2 fun x => ?_
  have hx : eqv (ltOf cmpRc) x x = true := eqv_iff.2 ⟨swoR.irrefl x, swoR.irrefl x⟩
  have h1 := List.count_filter (l := A) hx
  have h2 := List.count_filter (l := B) hx
  rw [← h1, ← h2, h x]
/-- what is rebuilt -/
theorem recovered {T T' : List (List Cp)} {O l : List Rc} {R N : Nat} (hS : Sent T O) (h : Rcd T T' O R) (hR : R ≤ O.length) (hb : Reb (tabE 9 T' 0) l N) : N = R ∧ l.take R = O.take R ∧ l.Perm O := by
  obtain ⟨S, rfl, h1, h2, h3⟩ := hb
  obtain rfl := stop_unique h1 (h.stop hS hR)
  have hfix := h.fixed hS hR
  have hlen : (O.take N).length = N := by rw [List.length_take]; omega
  refine ⟨rfl, ?_, ?_⟩
  · rw [hfix, List.take_append_of_le_length (by omega), List.take_of_length_le (by omega)]
  · rw [hfix]
    have h4 : restL (tabE 9 T' 0) N = ((tabE 9 T' 0).map Ps.rc).filter (fun x => !decide (x ∈ O.take N)) := by
      unfold restL
      rw [List.filter_map]
      congr 1
      refine List.filter_congr fun x hx => ?_
      rw [h.used hS hR hx]
      rfl
    have h5 : S.Perm (O.drop N) := by
      refine (cls_perm h3).symm.trans ?_
      rw [h4, h.rcs hS, ← filter_drop hS.nodup N]
      exact hS.perm.symm.filter _
    have h6 := h5.append_left (O.take N)
    rw [List.take_append_drop] at h6
    exact h6
theorem count_one {l O : List Rc} (h : l.Perm O) (hd : O.Nodup) {i : Nat} (hi : i < O.length) : l.count O[i] = 1 := by
  rw [h.count_eq, hd.count, if_pos (List.getElem_mem hi)]
end Go.Proofs.Ytooegndajfopkaa
