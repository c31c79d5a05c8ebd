/- The past of an index of lineages, in plain Lean. No statement of the seat is proved here. -/
import Derived.Test.YtcljdkjlfciacaaEventsC
namespace Go.Proofs.Ytcljdkjlfciacaa
set_option linter.unusedVariables false

abbrev zEv : Ev := ⟨0, 0, 0, 0, 0, 0, 0⟩
abbrev Lin := List (List Ev)
def rowL (L : Lin) (q : Nat) : List Ev := L.getD q []
def elX (X : List Int) (q : Nat) : Int := X.getD q 0
/-- the label of an index of a lineage is this one -/
def labB (es : List Ev) (inc idx : Int) : Bool := if idx = 0 then inc == 0 else (decide (0 < idx) && (decide (idx ≤ (es.length : Int)) && ((es.getD (idx - 1).toNat zEv).inc == inc)))
def sentB (L : Lin) (q : Nat) (e : Ev) : Bool := decide (0 ≤ e.frm) && (decide (e.frm < (L.length : Int)) && ((e.frm != (q : Int)) && labB (rowL L e.frm.toNat) e.sinc e.sidx))
theorem labB_le {es : List Ev} {inc idx : Int} (h : labB es inc idx = true) : 0 ≤ idx ∧ idx ≤ (es.length : Int) := by
  unfold labB at h
  split at h
  · omega
  · simp only [Bool.and_eq_true, decide_eq_true_eq] at h
    omega
theorem sentB_spec {L : Lin} {q : Nat} {e : Ev} (h : sentB L q e = true) : 0 ≤ e.frm ∧ e.frm.toNat < L.length ∧ e.frm.toNat ≠ q ∧ 0 ≤ e.sidx ∧ e.sidx ≤ ((rowL L e.frm.toNat).length : Int) := by
  unfold sentB at h
  simp only [Bool.and_eq_true, decide_eq_true_eq, bne_iff_ne, ne_eq] at h
  have := labB_le h.2.2.2
  omega
structure GoodY (L : Lin) (p : Nat) (i : Int) (y : Nat → Int) : Prop where
  start : i ≤ y p
  lo : ∀ q, q < L.length → 0 ≤ y q
  hi : ∀ q, q < L.length → y q ≤ ((rowL L q).length : Int)
  evs : ∀ q k e, q < L.length → (k : Nat) < y q → (rowL L q)[k]? = some e → e.kind = 1 → sentB L q e = true ∧ e.sidx ≤ y e.frm.toNat
/-- the least vector that is closed, if there is one -/
def IsPast (L : Lin) (p : Nat) (i : Int) : Option (List Int) → Prop
  | none => ∀ y, ¬ GoodY L p i y
  | some X => X.length = L.length ∧ GoodY L p i (elX X) ∧ ∀ y, GoodY L p i y → ∀ q, q < L.length → elX X q ≤ y q
theorem elX_ext {X Y : List Int} (hl : X.length = Y.length) (h : ∀ q, q < X.length → elX X q = elX Y q) : X = Y := by
  apply List.ext_getElem hl
  intro q h1 h2
  have := h q h1
  unfold elX at this
  rw [List.getD_eq_getElem?_getD, List.getD_eq_getElem?_getD, List.getElem?_eq_getElem h1, List.getElem?_eq_getElem h2] at this
  exact this
theorem past_unique {L : Lin} {p : Nat} {i : Int} {r s : Option (List Int)} (h : IsPast L p i r) (k : IsPast L p i s) : r = s := by
  cases r with
  | none =>
    cases s with
    | none => rfl
    | some Y => exact absurd k.2.1 (h _)
  | some X =>
    cases s with
    | none => exact absurd h.2.1 (k _)
    | some Y =>
      congr 1
      refine elX_ext (h.1.trans k.1.symm) fun q hq => ?_
      have hq' : q < L.length := by rw [← h.1]; exact hq
      have h1 := h.2.2 _ k.2.1 q hq'
      have h2 := k.2.2 _ h.2.1 q hq'
      omega
/-- what both loops keep -/
structure PInv (L : Lin) (p : Nat) (i : Int) (X : List Int) : Prop where
  len : X.length = L.length
  start : i ≤ elX X p
  lo : ∀ q, q < L.length → 0 ≤ elX X q
  hi : ∀ q, q < L.length → elX X q ≤ ((rowL L q).length : Int)
  least : ∀ y, GoodY L p i y → ∀ q, q < L.length → elX X q ≤ y q
theorem elX_set (X : List Int) (r : Nat) (v : Int) (q : Nat) (hr : r < X.length) : elX (X.set r v) q = if q = r then v else elX X q := by
  unfold elX
  rw [List.getD_eq_getElem?_getD, List.getD_eq_getElem?_getD]
  by_cases h : q = r
  · subst h
    rw [if_pos rfl, List.getElem?_set_self hr]; rfl
  · rw [if_neg h, List.getElem?_set_ne (fun e => h e.symm)]
theorem elX_rep (n q : Nat) : elX (List.replicate n 0) q = 0 := by
  unfold elX
  rw [List.getD_eq_getElem?_getD, List.getElem?_replicate]
  split <;> rfl
theorem pinv_start {L : Lin} {p : Nat} {i : Int} (hp : p < L.length) (h0 : 0 ≤ i) (hi : i ≤ ((rowL L p).length : Int)) : PInv L p i ((List.replicate L.length 0).set p i) := by
  have hs : ∀ q, elX ((List.replicate L.length 0).set p i) q = if q = p then i else 0 := fun q => by rw [elX_set _ _ _ _ (by simpa using hp), elX_rep]
  refine ⟨by simp, by rw [hs, if_pos rfl]; omega, fun q _ => ?_, fun q _ => ?_, fun y hy q hq => ?_⟩
  · rw [hs]; split <;> omega
  · rw [hs]
    split
    · rename_i e; subst e; exact hi
    · omega
  · rw [hs]
    split
    · rename_i e; subst e; exact hy.start
    · exact hy.lo q hq
theorem pinv_bad {L : Lin} {p : Nat} {i : Int} {X : List Int} (h : PInv L p i X) {q k : Nat} {e : Ev} (hq : q < L.length) (hk : (k : Int) < elX X q) (he : (rowL L q)[k]? = some e) (hr : e.kind = 1) (hb : sentB L q e = false) : IsPast L p i none := by
  intro y hy
  have h1 := h.least y hy q hq
  have := (hy.evs q k e hq (by omega) he hr).1
  rw [hb] at this
  cases this
theorem pinv_step {L : Lin} {p : Nat} {i : Int} {X : List Int} (h : PInv L p i X) {q k : Nat} {e : Ev} (hq : q < L.length) (hk : (k : Int) < elX X q) (he : (rowL L q)[k]? = some e) (hr : e.kind = 1) (hb : sentB L q e = true) : PInv L p i (X.set e.frm.toNat (max (elX X e.frm.toNat) e.sidx)) := by
  obtain ⟨s1, s2, s3, s4, s5⟩ := sentB_spec hb
  have hs : ∀ r, elX (X.set e.frm.toNat (max (elX X e.frm.toNat) e.sidx)) r = if r = e.frm.toNat then max (elX X e.frm.toNat) e.sidx else elX X r := fun r => elX_set _ _ _ _ (by rw [h.len]; exact s2)
  refine ⟨by simp [h.len], ?_, fun r hr' => ?_, fun r hr' => ?_, fun y hy r hr' => ?_⟩
  · rw [hs]
    have := h.start
    split
    · rename_i e'; rw [e'] at this; omega
    · exact this
  · rw [hs]
    have := h.lo r hr'
    split <;> omega
  · rw [hs]
    have := h.hi r hr'
    split
    · rename_i e'; subst e'; omega
    · exact this
  · rw [hs]
    have h1 := h.least y hy r hr'
    split
    · rename_i e'
      have h2 := (hy.evs q k e hq (by have := h.least y hy q hq; omega) he hr).2
      rw [e'] at h1 ⊢
      omega
    · exact h1
theorem pinv_done {L : Lin} {p : Nat} {i : Int} {X : List Int} (h : PInv L p i X) (hc : ∀ q k e, q < L.length → (k : Nat) < elX X q → (rowL L q)[k]? = some e → e.kind = 1 → sentB L q e = true ∧ e.sidx ≤ elX X e.frm.toNat) : IsPast L p i (some X) :=
  ⟨h.len, ⟨h.start, h.lo, h.hi, hc⟩, h.least⟩
/-- how far the vector may still rise -/
def totX (L : Lin) (X : List Int) : Nat := ((List.range L.length).map fun q => (((rowL L q).length : Int) - elX X q).toNat).sum
theorem sum_le (f g : Nat → Nat) : ∀ l : List Nat, (∀ q ∈ l, g q ≤ f q) → (l.map g).sum ≤ (l.map f).sum
  | [], _ => Nat.le_refl _
  | a :: l, h => by
    have := sum_le f g l fun q hq => h q (List.mem_cons_of_mem _ hq)
    have := h a (by simp)
    simp only [List.map_cons, List.sum_cons]
    omega
theorem sum_lt (f g : Nat → Nat) : ∀ l : List Nat, (∀ q ∈ l, g q ≤ f q) → (∃ q ∈ l, g q < f q) → (l.map g).sum < (l.map f).sum
  | [], _, h => by obtain ⟨_, h, _⟩ := h; cases h
  | a :: l, h, k => by
    have h1 := sum_le f g l fun q hq => h q (List.mem_cons_of_mem _ hq)
    have h2 := h a (by simp)
    simp only [List.map_cons, List.sum_cons]
    obtain ⟨q, hq, hlt⟩ := k
    rcases List.mem_cons.1 hq with rfl | hq
    · omega
    · have := sum_lt f g l (fun q hq => h q (List.mem_cons_of_mem _ hq)) ⟨q, hq, hlt⟩
      omega
theorem tot_up {L : Lin} {p : Nat} {i : Int} {X : List Int} (h : PInv L p i X) {r : Nat} {v : Int} (hr : r < L.length) (hv : elX X r < v) (hh : v ≤ ((rowL L r).length : Int)) : totX L (X.set r v) < totX L X := by
  have hs : ∀ q, elX (X.set r v) q = if q = r then v else elX X q := fun q => elX_set _ _ _ _ (by rw [h.len]; exact hr)
  refine sum_lt _ _ _ (fun q hq => ?_) ⟨r, by simpa using hr, ?_⟩
  · rw [hs]
    split
    · rename_i e; subst e; omega
    · omega
  · rw [hs, if_pos rfl]; omega
theorem set_same {X : List Int} {r : Nat} (hr : r < X.length) : X.set r (elX X r) = X := by
  refine elX_ext (by simp) fun q hq => ?_
  rw [elX_set _ _ _ _ hr]
  split
  · rename_i e; rw [e]
  · rfl
/-- a past of a lower index -/
theorem good_mono {L : Lin} {p : Nat} {i j : Int} {y : Nat → Int} (h : GoodY L p i y) (hj : j ≤ i) : GoodY L p j y := ⟨Int.le_trans hj h.start, h.lo, h.hi, h.evs⟩
theorem past_mono {L : Lin} {p : Nat} {i j : Int} {X : List Int} {r : Option (List Int)} (h : IsPast L p i (some X)) (k : IsPast L p j r) (hj : j ≤ i) : ∃ Y, r = some Y ∧ ∀ q, q < L.length → elX Y q ≤ elX X q := by
  cases r with
  | none => exact absurd (good_mono h.2.1 hj) (k _)
  | some Y => exact ⟨Y, rfl, k.2.2 _ (good_mono h.2.1 hj)⟩
end Go.Proofs.Ytcljdkjlfciacaa
