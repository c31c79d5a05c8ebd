/- A region that draws its order, walked by an invariant: one step for each operation. No statement of the seat is proved here. -/
import Derived.Orders
import Derived.Tactics
namespace Go.Proofs.Ytfnnoncdocghjaa
set_option linter.unusedVariables false

/-- the mark of operation i is set -/
def upd (l : Nat → Bool) (i : Nat) : Nat → Bool := fun j => if j = i then true else l j

section
variable {P : Program} {ops : Array Oper} {Q : Exit → Act → World → Prop}

theorem letsOut_then {K : Act → World → Prop} (h : LetsOut (Exit.then K Q)) : LetsOut Q := by
  unfold LetsOut at *
  simpa [Exit.then] using h
theorem wp_then {o : Oper} {a : Act} {w : World} {K K' : Act → World → Prop} (hh : o.wp P a w K (Exit.then K' Q)) : o.wp P a w K Q := by
  unfold Oper.wp at *
  generalize (execOp a.eval o).run P w = r at *
  cases r with
  | ok n w' =>
    cases n <;> simp only [Oper.upon] at hh ⊢ <;>
      first
        | exact hh
        | exact letsOut_then hh
        | exact Calls.mono hh (fun e w'' he => by cases e <;> first | exact he | exact letsOut_then he)
  | halt x w' => cases x <;> simp only [Oper.upon] at hh ⊢ <;> first | exact hh | exact letsOut_then hh
theorem wpOp_of_list {i : Nat} {o : Oper} {a : Act} {w : World} {K : Act → World → Prop} (hi : ops[i]? = some o) (h : wpList P ops (Exit.then K Q) [o] a w) : wpOp P ops Q i K a w := by
  unfold wpOp
  rw [hi]
  unfold wpList at h
  simp only
  split
  · rename_i hw
    rw [if_pos hw] at h
    rcases h with h | ⟨h1, h2⟩
    · exact .inl (wp_then (Oper.wp_mono (fun a w h => h) h))
    · exact .inr ⟨h1, letsOut_then h2⟩
  · rename_i hw
    rw [if_neg hw] at h
    exact h

theorem wpAny_inv (I : (Nat → Bool) → Act → World → Prop) (hord : ∀ (i : Nat) (o : Oper), ops[i]? = some o → ∀ e ∈ o.after, e.on < i)
    (hstep : ∀ l a w, I l a w → ∀ (i : Nat) (o : Oper), ops[i]? = some o → l i = false → (∀ e ∈ o.after, Region.binds .any e = true → l e.on = true) → wpList P ops (Exit.then (I (upd l i)) Q) [o] a w)
    (hend : ∀ l a w, I l a w → (∀ i, i < ops.size → l i = true) → Q .normal a w) :
    ∀ (fuel : Nat) (listed : Array Bool) (a : Act) (w : World), listed.size = ops.size → listed.toList.count false ≤ fuel → I (fun j => listed.getD j false) a w → wpAny P .any ops Q fuel listed a w := by
  have hall : ∀ listed : Array Bool, listed.size = ops.size → Region.ready .any ops listed = [] → ∀ i, i < ops.size → listed.getD i false = true := by
    intro listed hs hr i
    induction i using Nat.strongRecOn with
    | _ i ih =>
      intro hi
      rcases hb : listed.getD i false with _ | _
      · exfalso
        have hm : i ∈ Region.ready .any ops listed := by
          unfold Region.ready
          rw [List.mem_filter]
          refine ⟨by simpa using hi, ?_⟩
          have h1 : listed.getD i true = false := by
            rw [Array.getD_eq_getD_getElem?, Array.getElem?_eq_getElem (by omega)] at hb ⊢
            exact hb
          rw [h1, Array.getElem?_eq_getElem hi]
          simp only [Option.map_some, Option.getD_some, Bool.not_false, Bool.true_and]
          rw [Array.all_eq_true']
          intro e he
          have hlt := hord i ops[i] (Array.getElem?_eq_getElem hi) e he
          rw [ih e.on hlt (by omega)]
          simp
        rw [hr] at hm
        cases hm
      · rfl
  intro fuel
  induction fuel with
  | zero =>
    intro listed a w hs hc hI
    have hr : Region.ready .any ops listed = [] := by
      unfold Region.ready
      rw [List.filter_eq_nil_iff]
      intro i hi
      have hi' : i < listed.size := by rw [hs]; simpa using hi
      have : listed.getD i true = true := by
        rw [Array.getD_eq_getD_getElem?, Array.getElem?_eq_getElem hi']
        simp only [Option.getD_some]
        rcases hb : listed[i] with _ | _
        · exfalso
          have hm : false ∈ listed.toList := by rw [← hb]; simp
          have := List.count_pos_iff.2 hm
          omega
        · rfl
      rw [this]; simp
    exact ⟨hr, hend _ a w hI (fun i hi => hall listed hs hr i hi)⟩
  | succ fuel ih =>
    intro listed a w hs hc hI
    refine ⟨fun hr => hend _ a w hI (fun i hi => hall listed hs hr i hi), fun i hi => ?_⟩
    unfold Region.ready at hi
    rw [List.mem_filter] at hi
    obtain ⟨h1, h2⟩ := hi
    have hi' : i < ops.size := by simpa using h1
    have hil : i < listed.size := by omega
    rw [Array.getElem?_eq_getElem hi'] at h2
    simp only [Option.map_some, Option.getD_some, Bool.and_eq_true, Bool.not_eq_true'] at h2
    obtain ⟨h2, h3⟩ := h2
    have hf : listed[i] = false := by
      rw [Array.getD_eq_getD_getElem?, Array.getElem?_eq_getElem hil] at h2
      exact h2
    rw [Array.all_eq_true'] at h3
    have hs := hstep _ a w hI i ops[i] (Array.getElem?_eq_getElem hi') (by rw [Array.getD_eq_getD_getElem?, Array.getElem?_eq_getElem hil]; exact hf) (fun e he hb => by
      have := h3 e he
      rw [hb] at this
      simpa using this)
    have key : ∀ a w, I (upd (fun j => listed.getD j false) i) a w → wpAny P .any ops Q fuel (listed.setIfInBounds i true) a w := by
      intro a w hI'
      refine ih _ a w (by simp; omega) ?_ ?_
      · have hc' : (listed.setIfInBounds i true).toList.count false + 1 = listed.toList.count false := by
          rw [Array.toList_setIfInBounds]
          have := List.count_set (a := true) (b := false) (l := listed.toList) (i := i) (by simpa using hil)
          rw [this]
          have e1 : listed.toList[i]'(by simpa using hil) = false := by simpa using hf
          have hp : 0 < listed.toList.count false := List.count_pos_iff.2 (by rw [← hf]; simp)
          have h1 : (listed.toList[i]'(by simpa using hil) == false) = true := by rw [e1]; rfl
          have h2 : ((true : Bool) == false) = false := rfl
          simp only [h1, h2, if_true, Bool.false_eq_true, if_false]
          omega
        omega
      · have : (fun j => (listed.setIfInBounds i true).getD j false) = upd (fun j => listed.getD j false) i := by
          funext j
          simp only [upd, Array.getD_eq_getD_getElem?, Array.getElem?_setIfInBounds]
          by_cases hj : i = j
          · subst hj; simp [hil]
          · rw [if_neg hj, if_neg (by omega)]
        rw [this]
        exact hI'
    exact wpOp_mono key (wpOp_of_list (Array.getElem?_eq_getElem hi') hs)

theorem wp_region_inv {id : Nat} {a : Act} {w : World} (hm : P.follows .mixedOrders = true) (I : (Nat → Bool) → Act → World → Prop) (hord : ∀ (i : Nat) (o : Oper), ops[i]? = some o → ∀ e ∈ o.after, e.on < i)
    (hstep : ∀ l a w, I l a w → ∀ (i : Nat) (o : Oper), ops[i]? = some o → l i = false → (∀ e ∈ o.after, Region.binds .any e = true → l e.on = true) → wpList P ops (Exit.then (I (upd l i)) Q) [o] a w)
    (hend : ∀ l a w, I l a w → (∀ i, i < ops.size → l i = true) → Q .normal a w) (h0 : I (fun _ => false) a w.drew) : (Code.region id ops true).wp P Q a w := by
  refine wp_region_any hm (wpAny_inv I hord hstep hend _ _ _ _ (by simp) ?_ ?_)
  · simp
  · have : (fun j => (Array.replicate ops.size false).getD j false) = fun _ => false := by
      funext j
      rw [Array.getD_eq_getD_getElem?, Array.getElem?_replicate]
      split <;> rfl
    rw [this]
    exact h0

/-- each edge leads back -/
def ordB (ops : Array Oper) : Bool := (List.range ops.size).all fun i => ((ops[i]?).map (·.after.all fun e => decide (e.on < i))).getD true
theorem ordB_spec (h : ordB ops = true) : ∀ (i : Nat) (o : Oper), ops[i]? = some o → ∀ e ∈ o.after, e.on < i := by
  intro i o hi e he
  unfold ordB at h
  rw [List.all_eq_true] at h
  have := h i (by simpa using (Array.getElem?_eq_some_iff.1 hi).1)
  rw [hi] at this
  simp only [Option.map_some, Option.getD_some] at this
  rw [Array.all_eq_true'] at this
  simpa using this e he
/-- one step for each operation -/
def StepsOf (P : Program) (ops : Array Oper) (Q : Exit → Act → World → Prop) (I : (Nat → Bool) → Act → World → Prop) : List Oper → Nat → Prop
  | [], _ => True
  | o :: rest, i => (∀ l a w, I l a w → l i = false → (∀ e ∈ o.after.toList, Region.binds .any e = true → l e.on = true) → wpList P ops (Exit.then (I (upd l i)) Q) [o] a w) ∧ StepsOf P ops Q I rest (i + 1)
theorem stepsOf_get {I : (Nat → Bool) → Act → World → Prop} : ∀ (l : List Oper) (k : Nat), StepsOf P ops Q I l k → ∀ (i : Nat) (o : Oper), l[i]? = some o →
    ∀ m a w, I m a w → m (k + i) = false → (∀ e ∈ o.after.toList, Region.binds .any e = true → m e.on = true) → wpList P ops (Exit.then (I (upd m (k + i))) Q) [o] a w
  | [], _, _, i, o, hi => by simp at hi
  | x :: xs, k, h, i, o, hi => by
    cases i with
    | zero =>
      simp only [List.getElem?_cons_zero, Option.some.injEq] at hi
      subst hi
      exact h.1
    | succ i =>
      have := stepsOf_get xs (k + 1) h.2 i o (by simpa using hi)
      rw [show k + 1 + i = k + (i + 1) by omega] at this
      exact this
theorem wp_region_steps {id : Nat} {l : List Oper} {a : Act} {w : World} (hm : P.follows .mixedOrders = true) (hB : ordB l.toArray = true) (I : (Nat → Bool) → Act → World → Prop)
    (h0 : I (fun _ => false) a w.drew) (hend : ∀ m a w, I m a w → (∀ i, i < l.length → m i = true) → Q .normal a w) (hs : StepsOf P l.toArray Q I l 0) : (Code.region id l.toArray true).wp P Q a w :=
  wp_region_inv hm I (ordB_spec hB) (fun m a w hI i o hi hl he => by
    have := stepsOf_get l 0 hs i o (by simpa using hi) m a w hI (by rw [Nat.zero_add]; exact hl) (fun e h => he e (by simpa using h))
    rw [Nat.zero_add] at this
    exact this) (fun m a w hI h => hend m a w hI (by simpa using h)) h0
end
end Go.Proofs.Ytfnnoncdocghjaa
