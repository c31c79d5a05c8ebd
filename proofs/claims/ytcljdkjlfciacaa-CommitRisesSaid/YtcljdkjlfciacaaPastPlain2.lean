/- The past: what the two loops keep, in plain Lean. No statement of the seat is proved here. -/
import Derived.Test.YtcljdkjlfciacaaPastPlain
namespace Go.Proofs.Ytcljdkjlfciacaa
set_option linter.unusedVariables false

/-- an event of the past was looked at -/
def Handled (L : Lin) (X : List Int) (q k : Nat) : Prop := ∀ e, (rowL L q)[k]? = some e → e.kind = 1 → sentB L q e = true ∧ e.sidx ≤ elX X e.frm.toNat
def LeX (L : Lin) (X Y : List Int) : Prop := ∀ q, q < L.length → elX X q ≤ elX Y q
theorem LeX.refl (L : Lin) (X : List Int) : LeX L X X := fun _ _ => Int.le_refl _
theorem LeX.trans {L : Lin} {X Y Z : List Int} (h : LeX L X Y) (k : LeX L Y Z) : LeX L X Z := fun q hq => Int.le_trans (h q hq) (k q hq)
theorem Handled.mono {L : Lin} {X Y : List Int} {q k : Nat} (h : Handled L X q k) (hl : LeX L X Y) : Handled L Y q k := fun e he hk => by
  obtain ⟨h1, h2⟩ := h e he hk
  exact ⟨h1, Int.le_trans h2 (hl _ (sentB_spec h1).2.1)⟩
theorem step_le {L : Lin} {X : List Int} (hlen : X.length = L.length) {r : Nat} {v : Int} (hr : r < L.length) : LeX L X (X.set r (max (elX X r) v)) := fun q hq => by
  rw [elX_set _ _ _ _ (by rw [hlen]; exact hr)]
  split
  · rename_i e; subst e; omega
  · omega
theorem step_other {L : Lin} {X : List Int} (hlen : X.length = L.length) {r q : Nat} {v : Int} (hr : r < L.length) (hne : r ≠ q) : elX (X.set r v) q = elX X q := by
  rw [elX_set _ _ _ _ (by rw [hlen]; exact hr), if_neg (fun e => hne e.symm)]
/-- what the code's loop keeps -/
structure SInv (L : Lin) (p : Nat) (i : Int) (X S : List Int) : Prop where
  inv : PInv L p i X
  len : S.length = L.length
  lo : ∀ q, q < L.length → 0 ≤ elX S q
  le : LeX L S X
  done : ∀ q (k : Nat), q < L.length → (k : Int) < elX S q → Handled L X q k
theorem SInv.start {L : Lin} {p : Nat} {i : Int} (hp : p < L.length) (h0 : 0 ≤ i) (hi : i ≤ ((rowL L p).length : Int)) : SInv L p i ((List.replicate L.length 0).set p i) (List.replicate L.length 0) := by
  have hP := pinv_start hp h0 hi
  refine ⟨hP, by simp, fun q _ => by rw [elX_rep]; omega, fun q hq => by rw [elX_rep]; exact hP.lo q hq, fun q k _ hk => by rw [elX_rep] at hk; omega⟩
/-- a round of the inner loop that raises -/
theorem SInv.step {L : Lin} {p : Nat} {i : Int} {X S : List Int} (h : SInv L p i X S) {q k : Nat} {e : Ev} (hq : q < L.length) (hk : (k : Int) < elX X q) (he : (rowL L q)[k]? = some e) (hr : e.kind = 1) (hb : sentB L q e = true) :
    SInv L p i (X.set e.frm.toNat (max (elX X e.frm.toNat) e.sidx)) S ∧ LeX L X (X.set e.frm.toNat (max (elX X e.frm.toNat) e.sidx)) ∧ elX (X.set e.frm.toNat (max (elX X e.frm.toNat) e.sidx)) q = elX X q ∧ Handled L (X.set e.frm.toNat (max (elX X e.frm.toNat) e.sidx)) q k := by
  obtain ⟨s1, s2, s3, s4, s5⟩ := sentB_spec hb
  have hle := step_le h.inv.len (v := e.sidx) s2
  refine ⟨⟨pinv_step h.inv hq hk he hr hb, h.len, h.lo, h.le.trans hle, fun q' k' hq' hk' => (h.done q' k' hq' hk').mono hle⟩, hle, step_other h.inv.len s2 s3, fun e' he' hr' => ?_⟩
  rw [he] at he'
  injection he' with he'
  subst he'
  refine ⟨hb, ?_⟩
  rw [elX_set _ _ _ _ (by rw [h.inv.len]; exact s2), if_pos rfl]
  omega
theorem handled_skip {L : Lin} {X : List Int} {q k : Nat} {e : Ev} (he : (rowL L q)[k]? = some e) (hr : e.kind ≠ 1) : Handled L X q k := fun e' he' hr' => by
  rw [he] at he'
  injection he' with he'
  subst he'
  exact absurd hr' hr
/-- a lineage was looked at up to x[q] -/
theorem SInv.next {L : Lin} {p : Nat} {i : Int} {X S : List Int} (h : SInv L p i X S) {q : Nat} (hq : q < L.length) (hd : ∀ k : Nat, elX S q ≤ (k : Int) → (k : Int) < elX X q → Handled L X q k) :
    SInv L p i X (S.set q (max (elX S q) (elX X q))) ∧ elX (S.set q (max (elX S q) (elX X q))) q = elX X q ∧ LeX L S (S.set q (max (elX S q) (elX X q))) := by
  have hle := h.le q hq
  have hs : ∀ r, elX (S.set q (max (elX S q) (elX X q))) r = if r = q then max (elX S q) (elX X q) else elX S r := fun r => elX_set _ _ _ _ (by rw [h.len]; exact hq)
  have hm : max (elX S q) (elX X q) = elX X q := by omega
  refine ⟨⟨h.inv, by simp [h.len], fun r hr => ?_, fun r hr => ?_, fun r k hr hk => ?_⟩, by rw [hs, if_pos rfl, hm], fun r hr => ?_⟩
  · rw [hs]; have := h.lo r hr; have := h.inv.lo q hq; split <;> omega
  · rw [hs]; have := h.le r hr; split
    · rename_i e; subst e; omega
    · omega
  · rw [hs] at hk
    split at hk
    · rename_i e
      subst e
      by_cases hk' : (k : Int) < elX S r
      · exact h.done r k hr hk'
      · exact hd k (by omega) (by omega)
    · exact h.done r k hr hk
  · rw [hs]; split
    · rename_i e; subst e; omega
    · omega
theorem SInv.stop {L : Lin} {p : Nat} {i : Int} {X : List Int} (h : SInv L p i X X) : IsPast L p i (some X) :=
  pinv_done h.inv fun q k e hq hk he hr => h.done q k hq hk e he hr
theorem tot_rise {L : Lin} {S T : List Int} (hl : LeX L S T) (hh : ∀ q, q < L.length → elX T q ≤ ((rowL L q).length : Int)) (hs : ∃ q, q < L.length ∧ elX S q < elX T q) : totX L T < totX L S := by
  refine sum_lt _ _ _ (fun q hq => ?_) ?_
  · have := hl q (by simpa using hq); omega
  · obtain ⟨q, hq, hlt⟩ := hs
    have := hh q hq
    exact ⟨q, by simpa using hq, by omega⟩
/-- a whole pass of the code's loop looks at something -/
theorem SInv.pass {L : Lin} {p : Nat} {i : Int} {X0 S0 X S : List Int} (h0 : SInv L p i X0 S0) (h : SInv L p i X S) (hS : LeX L S0 S) (hX : LeX L X0 S) (hne : S0 ≠ X0) : totX L S < totX L S0 := by
  refine tot_rise hS (fun q hq => Int.le_trans (h.le q hq) (h.inv.hi q hq)) ?_
  apply Classical.byContradiction
  intro hno
  apply hne
  refine elX_ext (h0.len.trans h0.inv.len.symm) fun q hq => ?_
  have hq' : q < L.length := by rw [← h0.len]; exact hq
  have h1 := h0.le q hq'
  have h2 := hX q hq'
  have h3 : ¬ elX S0 q < elX S q := fun h => hno ⟨q, hq', h⟩
  omega

open Classical in
/-- the past of an index -/
noncomputable def pastV (L : Lin) (p : Nat) (i : Int) : Option (List Int) := if h : ∃ r, IsPast L p i r then Classical.choose h else none
theorem pastV_eq {L : Lin} {p : Nat} {i : Int} {r : Option (List Int)} (h : IsPast L p i r) : pastV L p i = r := by
  have hx : ∃ r, IsPast L p i r := ⟨r, h⟩
  unfold pastV
  rw [dif_pos hx]
  exact past_unique (Classical.choose_spec hx) h
/-- the list that Past gives -/
noncomputable def pastL (L : Lin) (p i : Int) : List Int := if 0 ≤ p ∧ p < (L.length : Int) ∧ 0 ≤ i ∧ i ≤ ((rowL L p.toNat).length : Int) then (pastV L p.toNat i).getD [] else []
theorem pastL_none {L : Lin} {p i : Int} (h : ¬ (0 ≤ p ∧ p < (L.length : Int) ∧ 0 ≤ i ∧ i ≤ ((rowL L p.toNat).length : Int))) : pastL L p i = [] := if_neg h
theorem pastL_some {L : Lin} {p : Nat} {i : Int} (hp : p < L.length) (h0 : 0 ≤ i) (hi : i ≤ ((rowL L p).length : Int)) {r : Option (List Int)} (h : IsPast L p i r) : pastL L (p : Int) i = r.getD [] := by
  unfold pastL
  rw [if_pos ⟨by omega, by omega, h0, by simpa using hi⟩, show ((p : Int)).toNat = p by omega, pastV_eq h]

/-- what the reference's loop keeps in a pass that began with X0 -/
structure RInv (L : Lin) (p : Nat) (i : Int) (X0 X : List Int) (mo : Bool) (q : Nat) : Prop where
  inv : PInv L p i X
  tot : totX L X ≤ totX L X0
  up : mo = true → totX L X < totX L X0
  same : mo = false → X = X0
  done : mo = false → ∀ q' (k : Nat), q' < q → q' < L.length → (k : Int) < elX X q' → Handled L X q' k
theorem RInv.start {L : Lin} {p : Nat} {i : Int} {X : List Int} (h : PInv L p i X) : RInv L p i X X false 0 :=
  ⟨h, Nat.le_refl _, (fun h => by cases h), fun _ => rfl, fun _ q' _ h => absurd h (Nat.not_lt_zero _)⟩
theorem RInv.raise {L : Lin} {p : Nat} {i : Int} {X0 X : List Int} {more : Bool} {q : Nat} (h : RInv L p i X0 X more q) {k : Nat} {e : Ev} (hq : q < L.length) (hk : (k : Int) < elX X q) (he : (rowL L q)[k]? = some e) (hr : e.kind = 1) (hb : sentB L q e = true) (hup : elX X e.frm.toNat < e.sidx) :
    RInv L p i X0 (X.set e.frm.toNat e.sidx) true q := by
  obtain ⟨s1, s2, s3, s4, s5⟩ := sentB_spec hb
  have hP := pinv_step h.inv hq hk he hr hb
  rw [show max (elX X e.frm.toNat) e.sidx = e.sidx by omega] at hP
  have ht := tot_up h.inv s2 hup s5
  have := h.tot
  exact ⟨hP, by omega, fun _ => by omega, (fun h => by cases h), (fun h => by cases h)⟩
theorem handled_le {L : Lin} {X : List Int} {q k : Nat} {e : Ev} (he : (rowL L q)[k]? = some e) (hb : sentB L q e = true) (hle : e.sidx ≤ elX X e.frm.toNat) : Handled L X q k := fun e' he' hr' => by
  rw [he] at he'
  injection he' with he'
  subst he'
  exact ⟨hb, hle⟩
theorem RInv.next {L : Lin} {p : Nat} {i : Int} {X0 X : List Int} {more : Bool} {q : Nat} (h : RInv L p i X0 X more q) (hd : more = false → ∀ k : Nat, (k : Int) < elX X q → Handled L X q k) : RInv L p i X0 X more (q + 1) :=
  ⟨h.inv, h.tot, h.up, h.same, fun hm q' k hq' hl hk => by
    by_cases e : q' = q
    · subst e; exact hd hm k hk
    · exact h.done hm q' k (by omega) hl hk⟩
theorem RInv.stop {L : Lin} {p : Nat} {i : Int} {X0 X : List Int} (h : RInv L p i X0 X false L.length) : IsPast L p i (some X) :=
  pinv_done h.inv fun q k e hq hk he hr => h.done rfl q k hq hq hk e he hr
end Go.Proofs.Ytcljdkjlfciacaa
