/- The stable sort's plain law: what insertion, rotation and the symmetric merge leave is sorted, with equals in their order. No statement of the seat is proved here. -/
import Derived.Test.YtooegndajfopkaaSymDefs
namespace Go.Proofs.Ytooegndajfopkaa
open Go.Sort
set_option linter.unusedVariables false
section
variable {α : Type} [Inhabited α]

/-! ### lists and places -/
omit [Inhabited α] in
theorem set_at (X : List α) (x v : α) (R : List α) (k : Nat) (hk : X.length = k) : (X ++ x :: R).set k v = X ++ v :: R := by
  subst hk
  induction X with
  | nil => rfl
  | cons a X ih => simp only [List.cons_append, List.length_cons, List.set_cons_succ, ih]
theorem get_at {d : Array α} {X R : List α} {x : α} {k : Nat} (h : d.toList = X ++ x :: R) (hk : X.length = k) : d[k]! = x := by
  subst hk
  have : d.toList[X.length]? = some x := by rw [h, List.getElem?_append_right (Nat.le_refl _), Nat.sub_self]; rfl
  rw [Array.getElem?_toList] at this
  rw [getElem!_def, this]
theorem swp_list {d : Array α} {X M Y : List α} {x y : α} {i j : Nat} (h : d.toList = X ++ x :: (M ++ y :: Y)) (hi : X.length = i) (hj : i + 1 + M.length = j) :
    (swp d i j).toList = X ++ y :: (M ++ x :: Y) ∧ (swp d j i).toList = X ++ y :: (M ++ x :: Y) := by
  have h2 : d.toList = (X ++ x :: M) ++ y :: Y := by rw [h]; simp
  have e1 : d[i]! = x := get_at h hi
  have e2 : d[j]! = y := get_at h2 (by simp; omega)
  unfold swp
  rw [e1, e2]
  simp only [Array.toList_setIfInBounds]
  constructor
  · rw [h, set_at X x y _ i hi, show X ++ y :: (M ++ y :: Y) = (X ++ y :: M) ++ y :: Y by simp, set_at _ _ _ _ j (by simp; omega)]
    simp
  · rw [h2, set_at _ y x Y j (by simp; omega), show (X ++ x :: M) ++ x :: Y = X ++ x :: (M ++ x :: Y) by simp, set_at X x y _ i hi]
theorem swR_list (a b n : Nat) : ∀ (A B : List α) (i : Nat) (d : Array α) (X M Y : List α), d.toList = X ++ (A ++ (M ++ (B ++ Y))) → X.length = a + i → X.length + A.length + M.length = b + i → A.length = n - i → B.length = n - i → (swR d a b i n).toList = X ++ (B ++ (M ++ (A ++ Y))) := by
  intro A
  induction A with
  | nil =>
    intro B i d X M Y h h1 h2 h3 h4
    have : n - i = 0 := by simpa using h3.symm
    obtain rfl : B = [] := List.eq_nil_of_length_eq_zero (by omega)
    rw [swR_end _ _ _ (by omega)]
    exact h
  | cons x A ih =>
    intro B i d X M Y h h1 h2 h3 h4
    simp only [List.length_cons] at h2 h3
    obtain ⟨y, B, rfl⟩ : ∃ y B', B = y :: B' := by
      cases B with
      | nil => simp only [List.length_nil] at h4; omega
      | cons y B => exact ⟨y, B, rfl⟩
    simp only [List.length_cons] at h4
    rw [swR_go _ _ _ (by omega)]
    have hs := (swp_list (d := d) (X := X) (M := A ++ M) (Y := B ++ Y) (x := x) (y := y) (i := a + i) (j := b + i) (by rw [h]; simp) h1 (by simp; omega)).1
    have := ih B (i + 1) (swp d (a + i) (b + i)) (X ++ [y]) (M ++ [x]) Y (by rw [hs]; simp) (by simp; omega) (by simp; omega) (by omega) (by omega)
    rw [this]
    simp
omit [Inhabited α] in
theorem take_drop_len (l : List α) (k : Nat) (h : k ≤ l.length) : ∃ A B, l = A ++ B ∧ A.length = k := ⟨l.take k, l.drop k, (List.take_append_drop k l).symm, by rw [List.length_take]; omega⟩
theorem rotL_list (m : Nat) : ∀ (N i j : Nat) (d : Array α) (X U V Y : List α), i + j ≤ N → 0 < i → 0 < j → d.toList = X ++ (U ++ (V ++ Y)) → X.length + i = m → U.length = i → V.length = j → (rotL d m i j).toList = X ++ (V ++ (U ++ Y)) := by
  intro N
  induction N with
  | zero => intro i j d X U V Y h h1; omega
  | succ N ih =>
    intro i j d X U V Y h hi hj hd hm hU hV
    by_cases he : i = j
    · subst he
      rw [rotL_eq, swR_list (m - i) m i U V 0 d X [] Y (by rw [hd]; simp) (by omega) (by simp; omega) (by omega) (by omega)]
      simp
    · by_cases hgt : j < i
      · rw [rotL_gt _ _ hgt hj]
        obtain ⟨U1, U2, rfl, hU1⟩ := take_drop_len U j (by omega)
        rw [List.length_append] at hU
        have hs := swR_list (m - i) m j U1 V 0 d X U2 Y (by rw [hd]; simp) (by omega) (by omega) (by omega) (by omega)
        rw [ih (i - j) j _ (X ++ V) U2 U1 Y (by omega) (by omega) hj (by rw [hs]; simp) (by simp; omega) (by omega) hU1]
        simp
      · rw [rotL_lt _ _ (by omega) hi]
        obtain ⟨V1, V2, rfl, hV1⟩ := take_drop_len V (j - i) (by omega)
        rw [List.length_append] at hV
        have hs := swR_list (m - i) (m + j - i) i U V2 0 d X V1 Y (by rw [hd]; simp) (by omega) (by omega) (by omega) (by omega)
        rw [ih i (j - i) _ X V2 V1 (U ++ Y) (by omega) hi (by omega) (by rw [hs]) hm (by omega) hV1]
        simp
theorem upS_list (e : Nat) : ∀ (V : List α) (k : Nat) (d : Array α) (X : List α) (x : α) (Y : List α), d.toList = X ++ x :: (V ++ Y) → X.length = k → k + V.length = e → (upS d k e).toList = X ++ (V ++ x :: Y) := by
  intro V
  induction V with
  | nil =>
    intro k d X x Y h h1 h2
    simp only [List.length_nil] at h2
    rw [upS_end _ (by omega), h]
    rfl
  | cons v V ih =>
    intro k d X x Y h h1 h2
    simp only [List.length_cons] at h2
    rw [upS_go _ (by omega)]
    have hs := (swp_list (d := d) (X := X) (M := []) (Y := V ++ Y) (x := x) (y := v) (i := k) (j := k + 1) (by rw [h]; simp) h1 (by simp)).1
    rw [ih (k + 1) _ (X ++ [v]) x Y (by rw [hs]; simp) (by simp; omega) (by omega)]
    simp
theorem dnS_list (e : Nat) : ∀ (n : Nat) (V : List α) (k : Nat) (d : Array α) (X : List α) (x : α) (Y : List α), V.length = n → d.toList = X ++ (V ++ x :: Y) → X.length = e → e + V.length = k → (dnS d k e).toList = X ++ x :: (V ++ Y) := by
  intro n
  induction n with
  | zero =>
    intro V k d X x Y h0 h h1 h2
    obtain rfl : V = [] := List.eq_nil_of_length_eq_zero h0
    simp only [List.length_nil] at h2
    rw [dnS_end _ (by omega), h]
    rfl
  | succ n ih =>
    intro V k d X x Y h0 h h1 h2
    obtain ⟨W, v, rfl⟩ : ∃ W v, V = W ++ [v] := ⟨V.dropLast, V.getLast (by intro e; rw [e] at h0; simp at h0), (List.dropLast_concat_getLast _).symm⟩
    simp only [List.length_append, List.length_cons, List.length_nil] at h0 h2
    obtain ⟨q, rfl⟩ : ∃ q, k = q + 1 := ⟨k - 1, by omega⟩
    rw [dnS_go _ (by omega)]
    have hs := (swp_list (d := d) (X := X ++ W) (M := []) (Y := Y) (x := v) (y := x) (i := q) (j := q + 1) (by rw [h]; simp) (by simp; omega) (by simp)).2
    rw [show q + 1 - 1 = q by omega, ih W q _ X x (v :: Y) (by omega) (by rw [hs]; simp) h1 (by omega)]
    simp

/-! ### the search -/
theorem bsr_spec (p : Nat → Bool) : ∀ (n i j : Nat), j - i ≤ n → i ≤ j → (∀ a b, i ≤ a → a ≤ b → b < j → p b = true → p a = true) →
    (∀ q, i ≤ q → q < bsr p i j → p q = true) ∧ ∀ q, bsr p i j ≤ q → q < j → p q = false := by
  intro n
  induction n with
  | zero =>
    intro i j h hij hm
    rw [bsr_end p (by omega)]
    exact ⟨fun q h1 h2 => by omega, fun q h1 h2 => by omega⟩
  | succ n ih =>
    intro i j h hij hm
    by_cases hlt : i < j
    · cases hp : p ((i + j) / 2) with
      | true =>
        rw [bsr_up p hlt hp]
        obtain ⟨h1, h2⟩ := ih ((i + j) / 2 + 1) j (by omega) (by omega) (fun a b x y z => hm a b (by omega) y z)
        refine ⟨fun q hq hr => ?_, h2⟩
        by_cases hc : q ≤ (i + j) / 2
        · exact hm q _ hq hc (by omega) hp
        · exact h1 q (by omega) hr
      | false =>
        rw [bsr_dn p hlt hp]
        obtain ⟨h1, h2⟩ := ih i ((i + j) / 2) (by omega) (by omega) (fun a b x y z => hm a b x y (by omega))
        refine ⟨h1, fun q hq hr => ?_⟩
        by_cases hc : q < (i + j) / 2
        · exact h2 q hq hc
        · cases hv : p q with
          | false => rfl
          | true => rw [hm ((i + j) / 2) q (by omega) (by omega) hr hv] at hp; exact hp
    · rw [bsr_end p hlt]
      exact ⟨fun q h1 h2 => by omega, fun q h1 h2 => by omega⟩

/-! ### sorted, and equals in their order -/
variable (lt : α → α → Bool)
def Srtd (l : List α) : Prop := l.Pairwise (fun x y => lt y x = false)
def eqv (x y : α) : Bool := !lt x y && !lt y x
def Cls (A B : List α) : Prop := ∀ x, A.filter (eqv lt x) = B.filter (eqv lt x)
variable {lt}
omit [Inhabited α] in
theorem Cls.refl (A : List α) : Cls lt A A := fun _ => rfl
omit [Inhabited α] in
theorem Cls.trans {A B C : List α} (h : Cls lt A B) (k : Cls lt B C) : Cls lt A C := fun x => (h x).trans (k x)
omit [Inhabited α] in
theorem Cls.symm {A B : List α} (h : Cls lt A B) : Cls lt B A := fun x => (h x).symm
omit [Inhabited α] in
theorem Cls.app {A A' B B' : List α} (h : Cls lt A A') (k : Cls lt B B') : Cls lt (A ++ B) (A' ++ B') := fun x => by
  rw [List.filter_append, List.filter_append, h x, k x]
omit [Inhabited α] in
theorem eqv_iff {x y : α} : eqv lt x y = true ↔ lt x y = false ∧ lt y x = false := by
  unfold eqv
  cases lt x y <;> cases lt y x <;> simp
omit [Inhabited α] in
theorem Cls.swap (hO : SWO lt) {U V : List α} (h : ∀ u ∈ U, ∀ v ∈ V, lt v u = true) : Cls lt (U ++ V) (V ++ U) := fun x => by
  rw [List.filter_append, List.filter_append]
  by_cases hu : U.filter (eqv lt x) = []
  · rw [hu]; simp
  · by_cases hv : V.filter (eqv lt x) = []
    · rw [hv]; simp
    · obtain ⟨u, hu'⟩ := List.exists_mem_of_ne_nil _ hu
      obtain ⟨v, hv'⟩ := List.exists_mem_of_ne_nil _ hv
      rw [List.mem_filter] at hu' hv'
      have e1 := eqv_iff.1 hu'.2
      have e2 := eqv_iff.1 hv'.2
      have := hO.ntrans v x u e2.2 e1.1
      rw [h u hu'.1 v hv'.1] at this
      cases this
omit [Inhabited α] in
theorem Cls.mem (hO : SWO lt) {A B : List α} (h : Cls lt A B) {x : α} (hx : x ∈ A) : x ∈ B := by
  have : x ∈ A.filter (eqv lt x) := List.mem_filter.2 ⟨hx, eqv_iff.2 ⟨hO.irrefl x, hO.irrefl x⟩⟩
  rw [h x] at this
  exact (List.mem_filter.1 this).1
omit [Inhabited α] in
theorem srtd_unique (hO : SWO lt) : ∀ (A B : List α), Srtd lt A → Srtd lt B → Cls lt A B → A = B := by
  intro A
  induction A with
  | nil =>
    intro B hA hB h
    cases B with
    | nil => rfl
    | cons y B => exact absurd (h.symm.mem hO (List.mem_cons_self)) (by simp)
  | cons x A ih =>
    intro B hA hB h
    cases B with
    | nil => exact absurd (h.mem hO (List.mem_cons_self)) (by simp)
    | cons y B =>
      have hA' := List.pairwise_cons.1 hA
      have hB' := List.pairwise_cons.1 hB
      have h1 : lt y x = false := by
        have := h.symm.mem hO (List.mem_cons_self (a := y) (l := B))
        rcases List.mem_cons.1 this with e | e
        · rw [e]; exact hO.irrefl x
        · exact hA'.1 y e
      have h2 : lt x y = false := by
        have := h.mem hO (List.mem_cons_self (a := x) (l := A))
        rcases List.mem_cons.1 this with e | e
        · rw [← e]; exact hO.irrefl x
        · exact hB'.1 x e
      have hx := h x
      rw [List.filter_cons, if_pos (eqv_iff.2 ⟨hO.irrefl x, hO.irrefl x⟩), List.filter_cons, if_pos (eqv_iff.2 ⟨h2, h1⟩)] at hx
      obtain ⟨rfl, _⟩ := List.cons.inj hx
      congr 1
      refine ih B hA'.2 hB'.2 fun z => ?_
      have hz := h z
      rw [List.filter_cons, List.filter_cons] at hz
      by_cases hc : eqv lt z x = true
      · rw [if_pos hc, if_pos hc] at hz
        exact (List.cons.inj hz).2
      · rw [if_neg hc, if_neg hc] at hz
        exact hz
omit [Inhabited α] in
theorem SWO.asy (hO : SWO lt) {x y : α} (h : lt x y = true) : lt y x = false := by
  cases hyx : lt y x with
  | false => rfl
  | true => have := hO.trans x y x h hyx; rw [hO.irrefl] at this; cases this

/-- a place within a list that is a part -/
theorem get_in {d : Array α} {X V Y : List α} (h : d.toList = X ++ (V ++ Y)) {k i : Nat} (hk : X.length = k) (hi : i < V.length) : d[k + i]! = V[i] := by
  subst hk
  have : d.toList[X.length + i]? = some V[i] := by
    rw [h, List.getElem?_append_right (by omega), List.getElem?_append_left (by omega), show X.length + i - X.length = i by omega, List.getElem?_eq_getElem hi]
  rw [Array.getElem?_toList] at this
  rw [getElem!_def, this]
/-- a sorted part, by places -/
theorem srtd_idx {d : Array α} {X V Y : List α} (h : d.toList = X ++ (V ++ Y)) (hV : Srtd lt V) {k : Nat} (hk : X.length = k) {p q : Nat} (hp : k ≤ p) (hpq : p < q) (hq : q < k + V.length) : lt d[q]! d[p]! = false := by
  have e1 : d[p]! = V[p - k]'(by omega) := by have := get_in h hk (i := p - k) (by omega); rwa [show k + (p - k) = p by omega] at this
  have e2 : d[q]! = V[q - k]'(by omega) := by have := get_in h hk (i := q - k) (by omega); rwa [show k + (q - k) = q by omega] at this
  rw [e1, e2]
  exact (List.pairwise_iff_getElem.1 hV) (p - k) (q - k) (by omega) (by omega) (by omega)
theorem srtd_le (hO : SWO lt) {d : Array α} {X V Y : List α} (h : d.toList = X ++ (V ++ Y)) (hV : Srtd lt V) {k : Nat} (hk : X.length = k) {p q : Nat} (hp : k ≤ p) (hpq : p ≤ q) (hq : q < k + V.length) : lt d[q]! d[p]! = false := by
  rcases Nat.lt_or_eq_of_le hpq with hl | rfl
  · exact srtd_idx h hV hk hp hl hq
  · exact hO.irrefl _
/-- an element of a part lies at one of its places -/
theorem mem_idx {d : Array α} {X V Y : List α} (h : d.toList = X ++ (V ++ Y)) {k : Nat} (hk : X.length = k) {v : α} (hv : v ∈ V) : ∃ p, k ≤ p ∧ p < k + V.length ∧ d[p]! = v := by
  obtain ⟨i, hi, rfl⟩ := List.mem_iff_getElem.1 hv
  exact ⟨k + i, by omega, by omega, get_in h hk hi⟩

/-! ### the symmetric merge -/
theorem symS_facts (hO : SWO lt) (d : Array α) (a m b : Nat) (X U V Y : List α) (hd : d.toList = X ++ (U ++ (V ++ Y))) (hX : X.length = a) (hU : U.length = m - a) (hV : V.length = b - m) (ham : a < m) (hmb : m < b) (sU : Srtd lt U) (sV : Srtd lt V) :
    ∃ s, s = symS lt d a m b ∧ a ≤ s ∧ s ≤ m ∧ s ≤ (a + b) / 2 ∧ (a + b) / 2 + m - s ≤ b ∧
      (s < m → s < (a + b) / 2 → lt d[(a + b) / 2 + m - 1 - s]! d[s]! = true) ∧ (a < s → (a + b) / 2 + m - s < b → lt d[(a + b) / 2 + m - s]! d[s - 1]! = false) := by
  have hdV : d.toList = (X ++ U) ++ (V ++ Y) := by rw [hd]; simp
  have hXU : (X ++ U).length = m := by simp; omega
  have mono : ∀ i j, a ≤ i → (∀ c, i ≤ c → c < j → c < m ∧ m ≤ (a + b) / 2 + m - 1 - c ∧ (a + b) / 2 + m - 1 - c < b ∧ c ≤ (a + b) / 2 + m - 1) →
      ∀ x y, i ≤ x → x ≤ y → y < j → (!lt d[(a + b) / 2 + m - 1 - y]! d[y]!) = true → (!lt d[(a + b) / 2 + m - 1 - x]! d[x]!) = true := by
    intro i j hai hc x y hx hxy hy hp
    have cx := hc x hx (by omega)
    have cy := hc y (by omega) hy
    have h1 : lt d[y]! d[x]! = false := srtd_le hO hd sU hX (by omega) hxy (by omega)
    have h2 : lt d[(a + b) / 2 + m - 1 - x]! d[(a + b) / 2 + m - 1 - y]! = false := srtd_le hO hdV sV hXU (by omega) (by omega) (by omega)
    have h3 : lt d[(a + b) / 2 + m - 1 - y]! d[y]! = false := by simpa using hp
    have h4 := hO.ntrans _ _ _ h2 (hO.ntrans _ _ _ h3 h1)
    rw [h4]; rfl
  refine ⟨_, rfl, ?_⟩
  unfold symS
  by_cases hA : (a + b) / 2 < m
  · rw [if_pos hA]
    obtain ⟨b1, b2⟩ := bsr_in (fun c => !lt d[(a + b) / 2 + m - 1 - c]! d[c]!) _ ((a + b) / 2 + m - b) ((a + b) / 2) (Nat.le_refl _) (by omega)
    obtain ⟨s1, s2⟩ := bsr_spec (fun c => !lt d[(a + b) / 2 + m - 1 - c]! d[c]!) _ ((a + b) / 2 + m - b) ((a + b) / 2) (Nat.le_refl _) (by omega) (mono _ _ (by omega) (fun c h1 h2 => by omega))
    generalize bsr (fun c => !lt d[(a + b) / 2 + m - 1 - c]! d[c]!) ((a + b) / 2 + m - b) ((a + b) / 2) = s at *
    refine ⟨by omega, by omega, by omega, by omega, fun h1 h2 => ?_, fun h1 h2 => ?_⟩
    · have := s2 s (Nat.le_refl _) h2
      simpa using this
    · have := s1 (s - 1) (by omega) (by omega)
      rw [show (a + b) / 2 + m - s = (a + b) / 2 + m - 1 - (s - 1) by omega]
      simpa using this
  · rw [if_neg hA]
    obtain ⟨b1, b2⟩ := bsr_in (fun c => !lt d[(a + b) / 2 + m - 1 - c]! d[c]!) _ a m (Nat.le_refl _) (by omega)
    obtain ⟨s1, s2⟩ := bsr_spec (fun c => !lt d[(a + b) / 2 + m - 1 - c]! d[c]!) _ a m (Nat.le_refl _) (by omega) (mono _ _ (by omega) (fun c h1 h2 => by omega))
    generalize bsr (fun c => !lt d[(a + b) / 2 + m - 1 - c]! d[c]!) a m = s at *
    refine ⟨by omega, by omega, by omega, by omega, fun h1 h2 => ?_, fun h1 h2 => ?_⟩
    · have := s2 s (Nat.le_refl _) h1
      simpa using this
    · have := s1 (s - 1) (by omega) (by omega)
      rw [show (a + b) / 2 + m - s = (a + b) / 2 + m - 1 - (s - 1) by omega]
      simpa using this
end
end Go.Proofs.Ytooegndajfopkaa
