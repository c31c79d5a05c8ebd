/- What the maker's lineages fulfil, in plain Lean. No statement of the seat is proved here. -/
import Derived.Test.YtcljdkjlfciacaaMk7
namespace Go.Proofs.Ytcljdkjlfciacaa
open Go.RowKit
set_option linter.unusedVariables false

def smI (z : Int) : Prop := -200 ≤ z ∧ z ≤ 200
/-- each number of the event is small -/
def Ev.sm (e : Ev) : Prop := smI e.kind ∧ smI e.inc ∧ smI e.frm ∧ smI e.sinc ∧ smI e.sidx ∧ smI e.ord ∧ smI e.val
def Ticks (n : Nat) (cnt : Nat → Int) (R : List Rw) : Prop := R.length = n ∧ ∀ (q : Nat) (s : Rw), R[q]? = some s → (s.es.length : Int) = cnt q ∧ ∀ e ∈ s.es, e.kind = 2 ∧ e.sm
def cntF (Ls : List Int) (q : Nat) (j : Int) (r : Nat) : Int := if r < q then elX Ls r else if r = q then j else 0
theorem set_get {R : List Rw} {q p : Nat} {s t x : Rw} (hs : R[q]? = some s) (h : (R.set q x)[p]? = some t) : (p = q ∧ t = x) ∨ (p ≠ q ∧ R[p]? = some t) := by
  have hq : q < R.length := (List.getElem?_eq_some_iff.1 hs).1
  rw [List.getElem?_set] at h
  split at h
  · rename_i e
    first | rw [if_pos hq] at h | skip
    injection h with h
    exact .inl ⟨e.symm, h.symm⟩
  · rename_i e
    exact .inr ⟨fun e' => e e'.symm, h⟩
theorem Ticks.start (n : Nat) (Ls : List Int) : Ticks n (cntF Ls 0 0) (List.replicate n ⟨none, 0, []⟩) := by
  refine ⟨List.length_replicate, fun q s hs => ?_⟩
  rw [List.getElem?_replicate] at hs
  split at hs
  · injection hs with hs
    subst hs
    refine ⟨?_, fun e he => by cases he⟩
    unfold cntF
    rw [if_neg (by omega)]
    split <;> rfl
  · cases hs
theorem Ticks.congr {n : Nat} {cnt cnt' : Nat → Int} {R : List Rw} (h : Ticks n cnt R) (hc : ∀ q, q < n → cnt q = cnt' q) : Ticks n cnt' R :=
  ⟨h.1, fun q s hs => ⟨by rw [← hc q (by rw [← h.1]; exact (List.getElem?_eq_some_iff.1 hs).1)]; exact (h.2 q s hs).1, (h.2 q s hs).2⟩⟩
theorem Ticks.push {n : Nat} {Ls : List Int} {q j : Nat} {R : List Rw} (h : Ticks n (cntF Ls q j) R) {s : Rw} (hs : R[q]? = some s) {A : Option Addr} {c : Nat} {x : Ev} (hx : x.kind = 2 ∧ x.sm) : Ticks n (cntF Ls q (j + 1 : Nat)) (R.set q ⟨A, c, s.es ++ [x]⟩) := by
  refine ⟨by rw [List.length_set]; exact h.1, fun p t ht => ?_⟩
  rcases set_get hs ht with ⟨rfl, rfl⟩ | ⟨hp, ht⟩
  · have h1 := (h.2 _ _ hs).1
    refine ⟨?_, fun e he => ?_⟩
    · unfold cntF at h1 ⊢
      rw [if_neg (by omega), if_pos rfl] at h1 ⊢
      simp only [List.length_append, List.length_singleton]
      omega
    · rcases List.mem_append.1 he with h' | h'
      · exact (h.2 _ _ hs).2 e h'
      · rw [List.mem_singleton] at h'
        subst h'
        exact hx
  · have h1 := h.2 p t ht
    refine ⟨?_, h1.2⟩
    rw [h1.1]
    unfold cntF
    split
    · rfl
    · first | rfl | (rw [if_neg hp, if_neg hp])
/-- an event of a row was changed to a tick -/
theorem Ticks.set {n : Nat} {cnt : Nat → Int} {R : List Rw} (h : Ticks n cnt R) {q : Nat} {s : Rw} (hs : R[q]? = some s) {j : Nat} {x : Ev} (hx : x.kind = 2 ∧ x.sm) : Ticks n cnt (R.set q ⟨s.A, s.c, s.es.set j x⟩) := by
  refine ⟨by rw [List.length_set]; exact h.1, fun p t ht => ?_⟩
  rcases set_get hs ht with ⟨rfl, rfl⟩ | ⟨hp, ht⟩
  · have h1 := h.2 _ _ hs
    refine ⟨by simpa using h1.1, fun e he => ?_⟩
    rcases List.mem_or_eq_of_mem_set he with h' | h'
    · exact h1.2 e h'
    · rw [h']; exact hx
  · exact h.2 p t ht

theorem evsL_get {R : List Rw} {q : Nat} {s : Rw} (hs : R[q]? = some s) : rowL (evsL R) q = s.es := by
  obtain ⟨hq, he⟩ := List.getElem?_eq_some_iff.1 hs
  rw [evsL_row hq, he]
/-- what the finished lineages fulfil -/
structure LinGood (p : Pt) (R : List Rw) : Prop where
  len : R.length = p.Ls.length
  rl : ∀ (q : Nat) (s : Rw), R[q]? = some s → (s.es.length : Int) = elX p.Ls q
  ev : ∀ (q : Nat) (s : Rw) (k : Nat) (e : Ev), R[q]? = some s → s.es[k]? = some e → e.sm ∧ (e.kind = 2 ∨ (e.kind = 1 ∧ sentB (evsL R) q e = true ∧ ∃ a ∈ p.As, a.dst = (q : Int) ∧ a.at_ = (k : Int) + 1 ∧ a.frm = e.frm ∧ a.idx = e.sidx))
theorem LinGood.start {p : Pt} {R : List Rw} (h : Ticks p.Ls.length (elX p.Ls) R) : LinGood p R :=
  ⟨h.1, fun q s hs => (h.2 q s hs).1, fun q s k e hs he => by
    have := (h.2 q s hs).2 e (List.mem_of_getElem? he)
    exact ⟨this.2, .inl this.1⟩⟩
theorem labB_congr {es es' : List Ev} (hl : es.length = es'.length) (hi : ∀ i : Nat, (es.getD i zEv).inc = (es'.getD i zEv).inc) (inc idx : Int) : labB es inc idx = labB es' inc idx := by
  unfold labB
  rw [hl, hi]
theorem getD_set_ev (es : List Ev) (j : Nat) (x : Ev) (i : Nat) (hx : ∀ e, es[j]? = some e → x.inc = e.inc) : ((es.set j x).getD i zEv).inc = (es.getD i zEv).inc := by
  rw [List.getD_eq_getElem?_getD, List.getD_eq_getElem?_getD, List.getElem?_set]
  split
  · rename_i e
    subst e
    split
    · rename_i h
      rw [List.getElem?_eq_getElem h]
      exact hx _ (List.getElem?_eq_getElem h)
    · rename_i h
      rw [List.getElem?_eq_none (by omega)]
  · rfl
theorem sentB_set {R : List Rw} {q : Nat} {s : Rw} (hs : R[q]? = some s) {j : Nat} {x : Ev} (hx : ∀ e, s.es[j]? = some e → x.inc = e.inc) (p : Nat) (e : Ev) : sentB (evsL (R.set q ⟨s.A, s.c, s.es.set j x⟩)) p e = sentB (evsL R) p e := by
  have hq : q < R.length := (List.getElem?_eq_some_iff.1 hs).1
  unfold sentB
  rw [evsL_len, evsL_len, List.length_set]
  have hrow : labB (rowL (evsL (R.set q ⟨s.A, s.c, s.es.set j x⟩)) e.frm.toNat) e.sinc e.sidx = labB (rowL (evsL R) e.frm.toNat) e.sinc e.sidx := by
    by_cases hf : e.frm.toNat = q
    · have e1 : (R.set q ⟨s.A, s.c, s.es.set j x⟩)[e.frm.toNat]? = some ⟨s.A, s.c, s.es.set j x⟩ := by rw [hf]; simp [hq]
      rw [evsL_get e1, hf, evsL_get hs]
      exact labB_congr (by simp) (fun i => getD_set_ev s.es j x i hx) _ _
    · have e1 : rowL (evsL (R.set q ⟨s.A, s.c, s.es.set j x⟩)) e.frm.toNat = rowL (evsL R) e.frm.toNat := by
        unfold rowL evsL
        rw [List.getD_eq_getElem?_getD, List.getD_eq_getElem?_getD, List.getElem?_map, List.getElem?_map, List.getElem?_set_ne (by omega)]
      rw [e1]
  rw [hrow]
theorem LinGood.arc {p : Pt} {R : List Rw} (h : LinGood p R) {a : Ar} (ha : a ∈ p.As) {n : Nat} (hok : okA p.Ls n a) (hn : p.Ls.length = n) {q : Nat} {s : Rw} (hs : R[q]? = some s) (hq : a.dst = (q : Int)) {j : Nat} (hj : a.at_ = (j : Int) + 1) {old x : Ev} (hold : s.es[j]? = some old)
    (hx : x.kind = 1) (hi : x.inc = old.inc) (hf : x.frm = a.frm) (hsx : x.sidx = a.idx) (hsm : x.sm) (hl : labB (rowL (evsL R) a.frm.toNat) x.sinc a.idx = true) : LinGood p (R.set q ⟨s.A, s.c, s.es.set j x⟩) := by
  have hx' : ∀ e, s.es[j]? = some e → x.inc = e.inc := fun e he => by rw [hold] at he; injection he with he; rw [← he]; exact hi
  refine ⟨by rw [List.length_set]; exact h.len, fun r t ht => ?_, fun r t k e ht he => ?_⟩
  · rcases set_get hs ht with ⟨rfl, rfl⟩ | ⟨_, ht⟩
    · simpa using h.rl r s hs
    · exact h.rl r t ht
  · rw [sentB_set hs hx']
    rcases set_get hs ht with ⟨rfl, rfl⟩ | ⟨_, ht⟩
    · dsimp only at he
      rw [List.getElem?_set] at he
      split at he
      · rename_i e0
        split at he
        · injection he with he
          subst he
          refine ⟨hsm, .inr ⟨hx, ?_, a, ha, hq, by omega, hf.symm, hsx.symm⟩⟩
          obtain ⟨⟨h1, h2⟩, _, h3, _⟩ := hok
          unfold sentB
          rw [evsL_len, h.len, hf, hsx, hl]
          simp only [Bool.and_true, Bool.and_eq_true, decide_eq_true_eq, bne_iff_ne, ne_eq]
          exact ⟨h1, by omega, by omega⟩
        · cases he
      · exact h.ev r s k e hs he
    · exact h.ev r t k e ht he
end Go.Proofs.Ytcljdkjlfciacaa
