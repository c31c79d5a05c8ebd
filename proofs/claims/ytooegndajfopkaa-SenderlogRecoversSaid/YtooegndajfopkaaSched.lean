/- A region that draws its order, walked along one schedule: reads first, the rest in its forced order. No statement of the seat is proved here. -/
import Derived.OrdersHeld
import Derived.StillTail
import Derived.Deep.RegionHeld
import Derived.Tactics
namespace Go.Proofs.Ytooegndajfopkaa
set_option linter.unusedVariables false

section
variable {P : Program} {ops : Array Oper} {Q : Exit → Act → World → Prop} {md : Region.Mode} {S : World → Prop}

/-- whatever order is picked; S holds behind each operation ahead of number n -/
def wpAnyT (P : Program) (md : Region.Mode) (ops : Array Oper) (Q : Exit → Act → World → Prop) (n : Nat) (S : World → Prop) : Nat → Array Bool → Act → World → Prop
  | 0, listed, a, w => Region.ready md ops listed = [] ∧ Q .normal a w
  | fuel + 1, listed, a, w =>
    (Region.ready md ops listed = [] → Q .normal a w) ∧
    ∀ i ∈ Region.ready md ops listed, wpOp P ops Q i (fun a' w' => (i < n → S w') ∧ wpAnyT P md ops Q n S fuel (listed.setIfInBounds i true) a' w') a w

theorem wpAny_of_T {n : Nat} : ∀ (fuel : Nat) (listed : Array Bool) (a : Act) (w : World), wpAnyT P md ops Q n S fuel listed a w → wpAny P md ops Q fuel listed a w
  | 0, _, _, _, h => h
  | fuel + 1, _, _, _, h => ⟨h.1, fun i hi => wpOp_mono (fun a' w' h' => wpAny_of_T fuel _ a' w' h'.2) (h.2 i hi)⟩

theorem wpAnyT_first {n i : Nat} {oi : Oper} {v : Value} (hi : ops[i]? = some oi) (hsel : ∀ (j : Nat) (o : Oper) cs b, ops[j]? = some o → o.op ≠ .select cs b)
    (hQ : ∀ c a (d : Option Tmp) v w, Q (.panic c) (Act.put a d v) w → Q (.panic c) a w) (hs : Region.sinkB md ops n = true) (hc : Region.chainB md ops n = true) (hn : n < ops.size) (hin : i < n) :
    ∀ (fuel : Nat) (listed : Array Bool) (a : Act) (w : World), HeadInv md ops n listed →
      (∀ j oj, ops[j]? = some oj → j ≠ i → listed.getD j true = false → (∀ e ∈ oj.after, Region.binds md e = true → e.on ≠ i) → oi.apart ops oj = true) →
      i ∈ Region.ready md ops listed → YieldsIf P ops S oi v a → S w →
      wpAnyT P md ops Q n S fuel (listed.setIfInBounds i true) (a.put oi.dst v) w → wpAnyT P md ops Q n S (fuel + 1) listed a w := by
  intro fuel
  induction fuel with
  | zero =>
    intro listed a w inv _ hr hy hS H
    refine ⟨fun h => (by rw [h] at hr; cases hr), fun j hj => ?_⟩
    by_cases hji : j = i
    · subst hji; exact hy.wpOp hi hS ⟨fun _ => hS, H⟩
    · have := ready_mono hj hji
      rw [H.1] at this
      cases this
  | succ fuel ih =>
    intro listed a w inv hfree hr hy hS H
    refine ⟨fun h => (by rw [h] at hr; cases hr), fun j hj => ?_⟩
    by_cases hji : j = i
    · subst hji; exact hy.wpOp hi hS ⟨fun _ => hS, H⟩
    · have hjn : j < n := by
        rcases Nat.lt_or_ge j n with h | h
        · exact h
        · exact absurd hj (tail_waits hs hc hn inv (n - i) i rfl hin (mem_ready.1 hr).1 j h)
      have h1 := H.2 j (ready_mono hj hji)
      obtain ⟨hjun, oj, hoj, hall⟩ := mem_ready.1 hj
      have hnot : ∀ e ∈ oj.after, Region.binds md e = true → e.on ≠ i := fun e he hb heq => by
        have h1 := hall e he hb
        rw [heq, getD_both (mem_ready.1 hr).1] at h1
        cases h1
      have h2 := wpOp_putIf hoj (hfree j oj hoj hji hjun hnot) (fun cs b => hsel i oi cs b hi) (fun cs b => hsel j oj cs b hoj) (fun c a w h => hQ c a _ _ w h) hy h1
      have hfree' : ∀ k ok, ops[k]? = some ok → k ≠ i → (listed.setIfInBounds j true).getD k true = false →
          (∀ e ∈ ok.after, Region.binds md e = true → e.on ≠ i) → oi.apart ops ok = true := fun k ok hk hki hun hno => by
        refine hfree k ok hk hki ?_ hno
        by_cases hjk : j = k
        · subst hjk; exact hjun
        · rw [getD_set_ne true hjk] at hun; exact hun
      refine wpOp_mono (fun a' w' h3 => ⟨fun _ => h3.2.1 hjn, ih (listed.setIfInBounds j true) a' w' (inv.set hj hjn) hfree' (ready_mono hr (Ne.symm hji)) h3.1 (h3.2.1 hjn) ?_⟩) h2
      rw [Array.setIfInBounds_comm _ _ hji]
      exact h3.2.2

/-- the schedule fits: a read may come up and is apart from what may come ahead of it; all else is the only one that may come up -/
def schedOk (md : Region.Mode) (ops : Array Oper) (n : Nat) : List (Nat × Bool) → Array Bool → Bool
  | [], listed => (Region.ready md ops listed).isEmpty
  | (i, true) :: rest, listed => decide (i < n) && Region.free md ops listed i && (Region.ready md ops listed).contains i && schedOk md ops n rest (listed.setIfInBounds i true)
  | (i, false) :: rest, listed => (Region.ready md ops listed == [i]) && (decide (i < n) || rest.all (fun x => !x.2)) && schedOk md ops n rest (listed.setIfInBounds i true)

def wpSched (P : Program) (ops : Array Oper) (Q : Exit → Act → World → Prop) (n : Nat) (S : World → Prop) : List (Nat × Bool) → Act → World → Prop
  | [], a, w => Q .normal a w
  | (i, true) :: rest, a, w => S w ∧ ∃ o v, ops[i]? = some o ∧ YieldsIf P ops S o v a ∧ wpSched P ops Q n S rest (a.put o.dst v) w
  | (i, false) :: rest, a, w => wpOp P ops Q i (fun a' w' => (i < n → S w') ∧ wpSched P ops Q n S rest a' w') a w

theorem wpAnyT_of_sched {n : Nat} (hsel : Region.noSelect ops = true) (hQ : ∀ c a (d : Option Tmp) v w, Q (.panic c) (Act.put a d v) w → Q (.panic c) a w) (hs : Region.sinkB md ops n = true) (hc : Region.chainB md ops n = true) (hn : n < ops.size) :
    ∀ (order : List (Nat × Bool)) (listed : Array Bool) (a : Act) (w : World), schedOk md ops n order listed = true → (HeadInv md ops n listed ∨ order.all (fun x => !x.2) = true) →
      wpSched P ops Q n S order a w → wpAnyT P md ops Q n S order.length listed a w
  | [], listed, a, w, hk, _, h => ⟨by simpa [schedOk] using hk, h⟩
  | (i, true) :: rest, listed, a, w, hk, hinv, h => by
    simp only [schedOk, Bool.and_eq_true, decide_eq_true_eq] at hk
    obtain ⟨⟨⟨hin, hf⟩, hr⟩, hrest⟩ := hk
    obtain ⟨hS, o, v, ho, hy, hw⟩ := h
    have inv : HeadInv md ops n listed := by
      rcases hinv with h | h
      · exact h
      · simp at h
    have hr' : i ∈ Region.ready md ops listed := by simpa using hr
    exact wpAnyT_first ho (Region.noSelect_spec hsel) hQ hs hc hn hin rest.length listed a w inv (Region.free_spec ho hf) hr' hy hS
      (wpAnyT_of_sched hsel hQ hs hc hn rest _ _ _ hrest (.inl (inv.set hr' hin)) hw)
  | (i, false) :: rest, listed, a, w, hk, hinv, h => by
    simp only [schedOk, Bool.and_eq_true, beq_iff_eq] at hk
    obtain ⟨⟨hr, hd⟩, hrest⟩ := hk
    have hr' : i ∈ Region.ready md ops listed := by rw [hr]; simp
    have hnext : HeadInv md ops n (listed.setIfInBounds i true) ∨ rest.all (fun x => !x.2) = true := by
      rcases hinv with inv | h
      · rcases Nat.lt_or_ge i n with hin | hin
        · exact .inl (inv.set hr' hin)
        · right
          simp only [Bool.or_eq_true, decide_eq_true_eq] at hd
          rcases hd with hd | hd
          · omega
          · exact hd
      · right
        simpa using h
    refine ⟨fun h0 => (by rw [h0] at hr; cases hr), fun j hj => ?_⟩
    rw [hr, List.mem_singleton] at hj
    subst hj
    exact wpOp_mono (fun a' w' h' => ⟨h'.1, wpAnyT_of_sched hsel hQ hs hc hn rest _ _ _ hrest hnext h'.2⟩) h

def schedB (ops : Array Oper) (n : Nat) (order : List (Nat × Bool)) : Bool :=
  Region.noSelect ops && Region.sinkB .any ops n && Region.chainB .any ops n && decide (n < ops.size) && (order.length == ops.size) && schedOk .any ops n order (Array.replicate ops.size false)

theorem wp_region_sched {id : Nat} {a : Act} {w : World} (hm : P.follows .mixedOrders = true) (n : Nat) (order : List (Nat × Bool)) (S : World → Prop) (hB : schedB ops n order = true)
    (hQ : ∀ c a (d : Option Tmp) v w, Q (.panic c) (Act.put a d v) w → Q (.panic c) a w) (hS : S w.drew) (h : S w.drew → wpSched P ops Q n S order a w.drew) : (Code.region id ops true).wp P Q a w := by
  simp only [schedB, Bool.and_eq_true, decide_eq_true_eq, beq_iff_eq] at hB
  obtain ⟨⟨⟨⟨⟨h1, h2⟩, h3⟩, h4⟩, h5⟩, h6⟩ := hB
  refine wp_region_any hm (wpAny_of_T (n := n) (S := S) _ _ _ _ ?_)
  have key := wpAnyT_of_sched (md := .any) (S := S) h1 hQ h2 h3 h4 order (Array.replicate ops.size false) a w.drew h6 (.inl ⟨by simp, fun j oj _ hl => (by rw [getD_replicate_false] at hl; cases hl), fun t _ ht => (by simp [ht])⟩) (h hS)
  rw [h5] at key
  exact key

/-- the operation with this number, written out -/
def opAt : List Oper → Nat → Option Oper
  | [], _ => none
  | x :: _, 0 => some x
  | _ :: xs, i + 1 => opAt xs i
theorem opAt_spec : ∀ (l : List Oper) (i : Nat) (o : Oper), opAt l i = some o → l.toArray[i]? = some o
  | [], _, _, h => by cases h
  | x :: xs, 0, o, h => by simpa [opAt] using h
  | x :: xs, i + 1, o, h => by
    have := opAt_spec xs i o h
    simpa using this
variable {l : List Oper}
theorem sched_read {n i : Nat} {rest : List (Nat × Bool)} {o : Oper} {v : Value} {a : Act} {w : World} (ho : opAt l i = some o) (hy : YieldsIf P l.toArray S o v a) (hS : S w) (h : wpSched P l.toArray Q n S rest (a.put o.dst v) w) : wpSched P l.toArray Q n S ((i, true) :: rest) a w :=
  ⟨hS, o, v, opAt_spec l i o ho, hy, h⟩
theorem sched_eff {n i : Nat} {rest : List (Nat × Bool)} {o : Oper} {a : Act} {w : World} (ho : opAt l i = some o)
    (h : ∀ K' : Act → World → Prop, Shut (∀ a w, S w → (S w → wpSched P l.toArray Q n S rest a w) → K' a w) → if Region.wanted o (yielded l.toArray a.tmps) = true then Oper.wp P o a w K' Q else K' (a.put o.dst undef) w) : wpSched P l.toArray Q n S ((i, false) :: rest) a w :=
  wpOp_step (opAt_spec l i o ho) fun K' hK => h K' fun a w hS hW => hK a w ⟨fun _ => hS, hW hS⟩
theorem sched_tail {n i : Nat} {rest : List (Nat × Bool)} {o : Oper} {a : Act} {w : World} (ho : opAt l i = some o) (hn : n ≤ i)
    (h : ∀ K' : Act → World → Prop, Shut (∀ a w, wpSched P l.toArray Q n S rest a w → K' a w) → if Region.wanted o (yielded l.toArray a.tmps) = true then Oper.wp P o a w K' Q else K' (a.put o.dst undef) w) : wpSched P l.toArray Q n S ((i, false) :: rest) a w :=
  wpOp_step (opAt_spec l i o ho) fun K' hK => h K' fun a w hW => hK a w ⟨fun h => absurd h (by omega), hW⟩
theorem sched_done {n : Nat} {a : Act} {w : World} (h : Q .normal a w) : wpSched P ops Q n S [] a w := h
end
end Go.Proofs.Ytooegndajfopkaa
