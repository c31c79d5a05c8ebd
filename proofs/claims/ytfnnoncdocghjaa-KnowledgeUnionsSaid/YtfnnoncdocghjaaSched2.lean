/- A region that draws its order, walked along a tree of schedules: where two operations may come up, both are followed. No statement of the seat is proved here. -/
import Derived.Test.YtfnnoncdocghjaaSched
namespace Go.Proofs.Ytfnnoncdocghjaa
set_option linter.unusedVariables false

inductive Sch where
  | done
  | read (i : Nat) (s : Sch)
  | one (i : Nat) (s : Sch)
  | two (i j : Nat) (s t : Sch)
def Sch.steps : Sch → Nat
  | .done => 0
  | .read _ s => s.steps + 1
  | .one _ s => s.steps + 1
  | .two _ _ s _ => s.steps + 1
/-- no reads -/
def Sch.calm : Sch → Bool
  | .done => true
  | .read _ _ => false
  | .one _ s => s.calm
  | .two _ _ s t => s.calm && t.calm
def schOk (md : Region.Mode) (ops : Array Oper) (n : Nat) : Sch → Array Bool → Bool
  | .done, listed => (Region.ready md ops listed).isEmpty
  | .read i s, listed => decide (i < n) && Region.free md ops listed i && (Region.ready md ops listed).contains i && schOk md ops n s (listed.setIfInBounds i true)
  | .one i s, listed => (Region.ready md ops listed == [i]) && (decide (i < n) || s.calm) && schOk md ops n s (listed.setIfInBounds i true)
  | .two i j s t, listed => (Region.ready md ops listed == [i, j]) && decide (i < n) && decide (j < n) && (s.steps == t.steps) && schOk md ops n s (listed.setIfInBounds i true) && schOk md ops n t (listed.setIfInBounds j true)

section
variable {P : Program} {ops : Array Oper} {Q : Exit → Act → World → Prop} {md : Region.Mode} {S : World → Prop}
def wpSch (P : Program) (ops : Array Oper) (Q : Exit → Act → World → Prop) (n : Nat) (S : World → Prop) : Sch → Act → World → Prop
  | .done, a, w => Q .normal a w
  | .read i s, a, w => S w ∧ ∃ o v, ops[i]? = some o ∧ YieldsIf P ops S o v a ∧ wpSch P ops Q n S s (a.put o.dst v) w
  | .one i s, a, w => wpOp P ops Q i (fun a' w' => (i < n → S w') ∧ wpSch P ops Q n S s a' w') a w
  | .two i j s t, a, w => wpOp P ops Q i (fun a' w' => S w' ∧ wpSch P ops Q n S s a' w') a w ∧ wpOp P ops Q j (fun a' w' => S w' ∧ wpSch P ops Q n S t a' w') a w

theorem wpAnyT_of_sch {n : Nat} (hsel : Region.noSelect ops = true) (hQ : ∀ c a (d : Option Tmp) v w, Q (.panic c) (Act.put a d v) w → Q (.panic c) a w) (hs : Region.sinkB md ops n = true) (hc : Region.chainB md ops n = true) (hn : n < ops.size) :
    ∀ (s : Sch) (listed : Array Bool) (a : Act) (w : World), schOk md ops n s listed = true → (HeadInv md ops n listed ∨ s.calm = true) →
      wpSch P ops Q n S s a w → wpAnyT P md ops Q n S s.steps listed a w
  | .done, listed, a, w, hk, _, h => ⟨by simpa [schOk] using hk, h⟩
  | .read i s, listed, a, w, hk, hinv, h => by
    simp only [schOk, Bool.and_eq_true, decide_eq_true_eq] at hk
    obtain ⟨⟨⟨hin, hf⟩, hr⟩, hrest⟩ := hk
    obtain ⟨hS, o, v, ho, hy, hw⟩ := h
    have inv : HeadInv md ops n listed := by
      rcases hinv with h | h
      · exact h
      · simp [Sch.calm] at h
    have hr' : i ∈ Region.ready md ops listed := by simpa using hr
    exact wpAnyT_first ho (Region.noSelect_spec hsel) hQ hs hc hn hin s.steps listed a w inv (Region.free_spec ho hf) hr' hy hS
      (wpAnyT_of_sch hsel hQ hs hc hn s _ _ _ hrest (.inl (inv.set hr' hin)) hw)
  | .one i s, listed, a, w, hk, hinv, h => by
    simp only [schOk, Bool.and_eq_true, beq_iff_eq] at hk
    obtain ⟨⟨hr, hd⟩, hrest⟩ := hk
    have hr' : i ∈ Region.ready md ops listed := by rw [hr]; simp
    have hnext : HeadInv md ops n (listed.setIfInBounds i true) ∨ s.calm = true := by
      rcases hinv with inv | h
      · rcases Nat.lt_or_ge i n with hin | hin
        · exact .inl (inv.set hr' hin)
        · right
          simp only [Bool.or_eq_true, decide_eq_true_eq] at hd
          rcases hd with hd | hd
          · omega
          · exact hd
      · exact .inr h
    refine ⟨fun h0 => (by rw [h0] at hr; cases hr), fun j hj => ?_⟩
    rw [hr, List.mem_singleton] at hj
    subst hj
    exact wpOp_mono (fun a' w' h' => ⟨h'.1, wpAnyT_of_sch hsel hQ hs hc hn s _ _ _ hrest hnext h'.2⟩) h
  | .two i j s t, listed, a, w, hk, hinv, h => by
    simp only [schOk, Bool.and_eq_true, beq_iff_eq, decide_eq_true_eq] at hk
    obtain ⟨⟨⟨⟨⟨hr, hin⟩, hjn⟩, hst⟩, h1⟩, h2⟩ := hk
    have hri : i ∈ Region.ready md ops listed := by rw [hr]; simp
    have hrj : j ∈ Region.ready md ops listed := by rw [hr]; simp
    have hni : HeadInv md ops n (listed.setIfInBounds i true) ∨ s.calm = true := by
      rcases hinv with inv | h
      · exact .inl (inv.set hri hin)
      · simp only [Sch.calm, Bool.and_eq_true] at h; exact .inr h.1
    have hnj : HeadInv md ops n (listed.setIfInBounds j true) ∨ t.calm = true := by
      rcases hinv with inv | h
      · exact .inl (inv.set hrj hjn)
      · simp only [Sch.calm, Bool.and_eq_true] at h; exact .inr h.2
    refine ⟨fun h0 => (by rw [h0] at hr; cases hr), fun m hm => ?_⟩
    rw [hr] at hm
    rcases List.mem_cons.1 hm with rfl | hm
    · exact wpOp_mono (fun a' w' h' => ⟨fun _ => h'.1, wpAnyT_of_sch hsel hQ hs hc hn s _ _ _ h1 hni h'.2⟩) h.1
    · rw [List.mem_singleton] at hm
      subst hm
      have : s.steps = t.steps := hst
      show wpOp P ops Q m (fun a' w' => (m < n → S w') ∧ wpAnyT P md ops Q n S s.steps (listed.setIfInBounds m true) a' w') a w
      rw [this]
      exact wpOp_mono (fun a' w' h' => ⟨fun _ => h'.1, wpAnyT_of_sch hsel hQ hs hc hn t _ _ _ h2 hnj h'.2⟩) h.2

def schB (ops : Array Oper) (n : Nat) (s : Sch) : Bool :=
  Region.noSelect ops && Region.sinkB .any ops n && Region.chainB .any ops n && decide (n < ops.size) && (s.steps == ops.size) && schOk .any ops n s (Array.replicate ops.size false)
theorem wp_region_sch {id : Nat} {a : Act} {w : World} (hm : P.follows .mixedOrders = true) (n : Nat) (s : Sch) (S : World → Prop) (hB : schB ops n s = true)
    (hQ : ∀ c a (d : Option Tmp) v w, Q (.panic c) (Act.put a d v) w → Q (.panic c) a w) (hS : S w.drew) (h : S w.drew → wpSch P ops Q n S s a w.drew) : (Code.region id ops true).wp P Q a w := by
  simp only [schB, Bool.and_eq_true, decide_eq_true_eq, beq_iff_eq] at hB
  obtain ⟨⟨⟨⟨⟨h1, h2⟩, h3⟩, h4⟩, h5⟩, h6⟩ := hB
  refine wp_region_any hm (wpAny_of_T (n := n) (S := S) _ _ _ _ ?_)
  have key := wpAnyT_of_sch (md := .any) (S := S) h1 hQ h2 h3 h4 s (Array.replicate ops.size false) a w.drew h6 (.inl ⟨by simp, fun j oj _ hl => (by rw [getD_replicate_false] at hl; cases hl), fun t _ ht => (by simp [ht])⟩) (h hS)
  rw [h5] at key
  exact key
variable {l : List Oper}
theorem sch_read {n i : Nat} {s : Sch} {o : Oper} {v : Value} {a : Act} {w : World} (ho : opAt l i = some o) (hy : YieldsIf P l.toArray S o v a) (hS : S w) (h : wpSch P l.toArray Q n S s (a.put o.dst v) w) : wpSch P l.toArray Q n S (.read i s) a w :=
  ⟨hS, o, v, opAt_spec l i o ho, hy, h⟩
theorem sch_one {n i : Nat} {s : Sch} {o : Oper} {a : Act} {w : World} (ho : opAt l i = some o)
    (h : ∀ K' : Act → World → Prop, Shut (∀ a w, S w → (S w → wpSch P l.toArray Q n S s a w) → K' a w) → if Region.wanted o (yielded l.toArray a.tmps) = true then Oper.wp P o a w K' Q else K' (a.put o.dst undef) w) : wpSch P l.toArray Q n S (.one i s) a w :=
  wpOp_step (opAt_spec l i o ho) fun K' hK => h K' fun a w hS hW => hK a w ⟨fun _ => hS, hW hS⟩
theorem sch_tail {n i : Nat} {s : Sch} {o : Oper} {a : Act} {w : World} (ho : opAt l i = some o) (hn : n ≤ i)
    (h : ∀ K' : Act → World → Prop, Shut (∀ a w, wpSch P l.toArray Q n S s a w → K' a w) → if Region.wanted o (yielded l.toArray a.tmps) = true then Oper.wp P o a w K' Q else K' (a.put o.dst undef) w) : wpSch P l.toArray Q n S (.one i s) a w :=
  wpOp_step (opAt_spec l i o ho) fun K' hK => h K' fun a w hW => hK a w ⟨fun h => absurd h (by omega), hW⟩
theorem sch_two {n i j : Nat} {s t : Sch} {o o' : Oper} {a : Act} {w : World} (ho : opAt l i = some o) (ho' : opAt l j = some o')
    (h : ∀ K' : Act → World → Prop, Shut (∀ a w, S w → (S w → wpSch P l.toArray Q n S s a w) → K' a w) → if Region.wanted o (yielded l.toArray a.tmps) = true then Oper.wp P o a w K' Q else K' (a.put o.dst undef) w)
    (h' : ∀ K' : Act → World → Prop, Shut (∀ a w, S w → (S w → wpSch P l.toArray Q n S t a w) → K' a w) → if Region.wanted o' (yielded l.toArray a.tmps) = true then Oper.wp P o' a w K' Q else K' (a.put o'.dst undef) w) : wpSch P l.toArray Q n S (.two i j s t) a w :=
  ⟨wpOp_step (opAt_spec l i o ho) fun K' hK => h K' fun a w hS hW => hK a w ⟨hS, hW hS⟩, wpOp_step (opAt_spec l j o' ho') fun K' hK => h' K' fun a w hS hW => hK a w ⟨hS, hW hS⟩⟩
theorem sch_done {n : Nat} {a : Act} {w : World} (h : Q .normal a w) : wpSch P ops Q n S .done a w := h
end
end Go.Proofs.Ytfnnoncdocghjaa
