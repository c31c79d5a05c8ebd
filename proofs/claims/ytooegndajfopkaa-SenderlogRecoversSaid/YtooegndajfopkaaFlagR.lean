/- A table of flags in memory. No statement of the seat is proved here. -/
import Derived.Test.YtooegndajfopkaaFindR
import Derived.Test.YtooegndajfopkaaTabCN
namespace Go.Proofs.Ytooegndajfopkaa
open Go.RowKit
set_option linter.unusedVariables false
set_option maxRecDepth 100000

theorem flat_one {α : Type} (n : Nat) (v : α) : (List.replicate n ()).flatMap (fun _ => [v]) = List.replicate n v := by
  induction n with
  | zero => rfl
  | succ n ih => rw [List.replicate_succ, List.flatMap_cons, ih]; rfl
theorem infoB : (Try.prog.info? 4).map (fun i => (i.zero, i.size, i.bytes)) = some (some (.bool false), 1, 1) := by kernel_rfl
theorem infoBs : (Try.prog.info? 66).map (fun i => (i.zero, i.size, i.bytes)) = some (some (.slice none 0 0), 1, 24) := by kernel_rfl
theorem mk_bools (n : Nat) (hn : n ≤ 1000) (w : World) : (Instr.makeSlice 66 (.int .i64 (n : Int)) (.int .i64 (n : Int))).run Try.prog w =
    .ok (.slice (some ⟨w.heap.size, 0, none⟩) n n) (w.alloc (.cells (Array.replicate n (Value.bool false)) 4)) := by
  rw [← List.toArray_replicate]
  obtain ⟨i0, hi, hz0, hz1, hz2⟩ := info_parts infoB
  rw [run_make w 66 4 i0 _ Try.underlying66 hi hz0 .i64 .i64 _ _ (by omega) (Int.le_refl _) (by rw [hz2]; omega) (by omega)]
  rw [hz1, show ((n : Int)).toNat = n by omega, made_flat (fun _ : Unit => [Value.bool false]) 1 (by omega) (fun _ => rfl) () (Value.bool false).cells rfl, flat_one]
theorem mk_boolss (n : Nat) (hn : n ≤ 1000) (w : World) : (Instr.makeSlice 65 (.int .i64 (n : Int)) (.int .i64 (n : Int))).run Try.prog w =
    .ok (.slice (some ⟨w.heap.size, 0, none⟩) n n) (w.alloc (.cells (Array.replicate n (Value.slice none 0 0)) 66)) := by
  rw [← List.toArray_replicate]
  obtain ⟨i0, hi, hz0, hz1, hz2⟩ := info_parts infoBs
  rw [run_make w 65 66 i0 _ Try.underlying65 hi hz0 .i64 .i64 _ _ (by omega) (Int.le_refl _) (by rw [hz2]; omega) (by omega)]
  rw [hz1, show ((n : Int)).toNat = n by omega, made_flat (fun _ : Unit => [Value.slice none 0 0]) 1 (by omega) (fun _ => rfl) () (Value.slice none 0 0).cells rfl, flat_one]
def rowB (F : Nat → Nat → Bool) (p n : Nat) : List Value := (List.range n).map (fun i => Value.bool (F p i))
theorem rowB_len (F : Nat → Nat → Bool) (p n : Nat) : (rowB F p n).length = n := by simp [rowB]
theorem rowB_at (F : Nat → Nat → Bool) (p n i : Nat) (h : i < n) : (rowB F p n)[i]? = some (.bool (F p i)) := by simp [rowB, h]
theorem rowB_none (p n : Nat) : rowB (fun _ _ => false) p n = List.replicate n (Value.bool false) := by
  apply List.ext_getElem?
  intro i
  by_cases h : i < n
  · rw [rowB_at _ _ _ _ h]; simp [h]
  · rw [List.getElem?_eq_none (by rw [rowB_len]; omega), List.getElem?_eq_none (by simp; omega)]
theorem rowB_set (F : Nat → Nat → Bool) (p n i : Nat) (h : i < n) : (rowB F p n).set i (.bool true) = rowB (fun p' i' => F p' i' || (p == p' && i == i')) p n := by
  apply List.ext_getElem?
  intro q
  rw [List.getElem?_set]
  by_cases hq : q < n
  · rw [rowB_at _ _ _ _ hq, rowB_at _ _ _ _ hq]
    by_cases e : i = q
    · subst e
      rw [if_pos rfl, if_pos (by rw [rowB_len]; exact h)]
      simp
    · rw [if_neg e]
      simp [e]
  · rw [List.getElem?_eq_none (by rw [rowB_len]; omega), List.getElem?_eq_none (by rw [rowB_len]; omega)]
    by_cases e : i = q
    · omega
    · rw [if_neg e]
theorem rowB_other (F : Nat → Nat → Bool) (p p' n i : Nat) (h : p ≠ p') : rowB F p' n = rowB (fun q j => F q j || (p == q && i == j)) p' n := by
  unfold rowB
  congr 1
  funext j
  simp [h]
/-- k rows of flags have been made -/
def FM (wx : World) (H gU : Nat) (R : List TR) (F : Nat → Nat → Bool) (k : Nat) : Prop :=
  ∃ (O : List Value) (gs : List Nat), gs.length = k ∧ k ≤ R.length ∧ O.length = R.length ∧ Blk wx gU 66 O.toArray ∧
    (∀ (p g : Nat) (r : TR), gs[p]? = some g → R[p]? = some r → O[p]? = some (.slice (some ⟨g, 0, none⟩) r.cs.length r.cs.length) ∧ Blk wx g 4 (rowB F p r.cs.length).toArray ∧ gU < g) ∧
    (∀ p q g : Nat, gs[p]? = some g → gs[q]? = some g → p = q) ∧ H ≤ gU
theorem FM.ext {wx wy : World} {H gU k : Nat} {R : List TR} {F : Nat → Nat → Bool} (h : FM wx H gU R F k) (hE : Ext wx wy) : FM wy H gU R F k := by
  obtain ⟨O, gs, h1, h2, h3, h4, h5, h6, h7⟩ := h
  exact ⟨O, gs, h1, h2, h3, h4.ext hE, fun p g r a b => ⟨(h5 p g r a b).1, (h5 p g r a b).2.1.ext hE, (h5 p g r a b).2.2⟩, h6, h7⟩
theorem own_ne_blk {w : World} {b1 n1 g : Nat} {e1 t : TypeId} {s1 : Nat} {v1 : Value} {xs1 : List Value} {cs : Array Value} (h1 : w.ownsRow b1 e1 s1 v1 n1 xs1) (h2 : Blk w g t cs) (hne : e1 ≠ t) : some g ≠ v1.ownBlock := by
  rcases h1.2 with ⟨rfl, _⟩ | ⟨g', cap, cur, rfl, _, hh, _⟩
  · simp [Value.ownBlock]
  · intro e
    simp only [Value.ownBlock, Option.some.injEq] at e
    subst e
    rw [h2] at hh
    injection hh with hh
    injection hh with _ ht
    exact hne ht.symm
theorem FM.grown {wx wy : World} {H gU k base : Nat} {R : List TR} {F : Nat → Nat → Bool} {v : Value} {l : List Rc} (h : FM wx H gU R F k) (ho : wx.ownsRow base 54 3 v l.length (l.flatMap Rc.cells)) (hg : wx.grownBy wy v.ownBlock) : FM wy H gU R F k := by
  obtain ⟨O, gs, h1, h2, h3, h4, h5, h6, h7⟩ := h
  exact ⟨O, gs, h1, h2, h3, (hg.block gU h4.lt (own_ne_blk ho h4 (by decide))).trans h4, fun p g r a b => ⟨(h5 p g r a b).1, (hg.block g (h5 p g r a b).2.1.lt (own_ne_blk ho (h5 p g r a b).2.1 (by decide))).trans (h5 p g r a b).2.1, (h5 p g r a b).2.2⟩, h6, h7⟩
theorem FM.add {wx : World} {H gU k : Nat} {R : List TR} (h : FM wx H gU R (fun _ _ => false) k) {r : TR} (hr : R[k]? = some r) :
    FM ((wx.alloc (.cells (Array.replicate r.cs.length (Value.bool false)) 4)).setCell ⟨gU, k, none⟩ (.slice (some ⟨wx.heap.size, 0, none⟩) r.cs.length r.cs.length)) H gU R (fun _ _ => false) (k + 1) := by
  rw [← List.toArray_replicate]
  obtain ⟨O, gs, h1, h2, h3, h4, h5, h6, h7⟩ := h
  have hE := (Ext.refl wx).allocs (.cells (List.replicate r.cs.length (Value.bool false)).toArray 4)
  have hk : k < R.length := (List.getElem?_eq_some_iff.1 hr).1
  have hB := Blk.new wx 4 (List.replicate r.cs.length (Value.bool false)).toArray
  have h4' := h4.ext hE
  generalize wx.alloc (.cells (List.replicate r.cs.length (Value.bool false)).toArray 4) = W at *
  have hoth : ∀ g t cs, g ≠ gU → Blk W g t cs → Blk (W.setCell ⟨gU, k, none⟩ (.slice (some ⟨wx.heap.size, 0, none⟩) r.cs.length r.cs.length)) g t cs := fun g t cs hne hb => (Below.heap_setCell W ⟨gU, k, none⟩ _ g hne).trans hb
  refine ⟨O.set k (.slice (some ⟨wx.heap.size, 0, none⟩) r.cs.length r.cs.length), gs ++ [wx.heap.size], by simp [h1], hk, by simp [h3], by have := Blk.set1 h4' (o := k) (.slice (some ⟨wx.heap.size, 0, none⟩) r.cs.length r.cs.length); simpa using this, fun p g r' a b => ?_, fun p q g a b => ?_, h7⟩
  · by_cases hp : p < k
    · rw [List.getElem?_append_left (by omega)] at a
      obtain ⟨x1, x2, x3⟩ := h5 p g r' a b
      refine ⟨by rw [List.getElem?_set_ne (by omega)]; exact x1, hoth g _ _ (by omega) (x2.ext hE), x3⟩
    · have hpk : p = k := by
        have := (List.getElem?_eq_some_iff.1 a).1
        simp at this; omega
      subst hpk
      rw [List.getElem?_append_right (by omega), h1, Nat.sub_self] at a
      injection a with a
      subst a
      rw [hr] at b
      injection b with b
      subst b
      have hgl := h4.lt
      refine ⟨by rw [List.getElem?_set_self (by omega)], hoth _ _ _ (by omega) (by rw [rowB_none]; exact hB), h4.lt⟩
  · have hlt : ∀ p, gs[p]? = some wx.heap.size → False := fun p hp => by
      have hpk := (List.getElem?_eq_some_iff.1 hp).1
      obtain ⟨r', hr'⟩ : ∃ r', R[p]? = some r' := ⟨_, List.getElem?_eq_getElem (by omega)⟩
      have := (h5 p _ r' hp hr').2.1.lt
      omega
    rw [List.getElem?_append] at a b
    split at a <;> split at b
    · exact h6 p q g a b
    · rename_i hp hq
      have : q - gs.length = 0 := by
        have := (List.getElem?_eq_some_iff.1 b).1
        simp at this; exact this
      rw [this] at b
      injection b with b
      subst b
      exact (hlt p a).elim
    · rename_i hp hq
      have : p - gs.length = 0 := by
        have := (List.getElem?_eq_some_iff.1 a).1
        simp at this; exact this
      rw [this] at a
      injection a with a
      subst a
      exact (hlt q b).elim
    · have e1 := (List.getElem?_eq_some_iff.1 a).1
      have e2 := (List.getElem?_eq_some_iff.1 b).1
      simp at e1 e2
      omega
theorem FM.at_ {wx : World} {H gU : Nat} {R : List TR} {F : Nat → Nat → Bool} (h : FM wx H gU R F R.length) {p : Nat} (hp : p < R.length) :
    ∃ g, wx.cell? ⟨gU, p, none⟩ = some (.slice (some ⟨g, 0, none⟩) R[p].cs.length R[p].cs.length) ∧ gU < g ∧ H ≤ gU ∧ (∃ cs, Blk wx g 4 cs) ∧ (∀ i, i < R[p].cs.length → wx.cell? ⟨g, i, none⟩ = some (.bool (F p i)) ∧ wx.frozen? ⟨g, i, none⟩ = false) ∧
      ∀ i, i < R[p].cs.length → FM (wx.setCell ⟨g, i, none⟩ (.bool true)) H gU R (fun p' i' => F p' i' || (p == p' && i == i')) R.length := by
  obtain ⟨O, gs, h1, h2, h3, h4, h5, h6, h7⟩ := h
  obtain ⟨g, hg⟩ : ∃ g, gs[p]? = some g := ⟨_, List.getElem?_eq_getElem (by omega)⟩
  have hr : R[p]? = some R[p] := List.getElem?_eq_getElem hp
  obtain ⟨x1, x2, x3⟩ := h5 p g _ hg hr
  refine ⟨g, by rw [h4.cell, List.getElem?_toArray]; exact x1, x3, h7, ⟨_, x2⟩, fun i hi => ⟨by rw [x2.cell, List.getElem?_toArray, rowB_at _ _ _ _ hi], x2.frozen i⟩, fun i hi => ?_⟩
  refine ⟨O, gs, h1, h2, h3, (Below.heap_setCell wx ⟨g, i, none⟩ _ gU (by show gU ≠ g; omega)).trans h4, fun q g' r' a b => ?_, h6, h7⟩
  obtain ⟨y1, y2, y3⟩ := h5 q g' r' a b
  refine ⟨y1, ?_, y3⟩
  by_cases e : q = p
  · subst e
    rw [hg] at a
    injection a with a
    subst a
    rw [hr] at b
    injection b with b
    subst b
    have := Blk.set1 y2 (o := i) (.bool true)
    rw [List.setIfInBounds_toArray, rowB_set F q _ i hi] at this
    exact this
  · rw [← rowB_other F p q r'.cs.length i (fun h => e h.symm)]
    have hne : g' ≠ g := fun hh => e (h6 q p g (by rw [← hh]; exact a) hg)
    exact (Below.heap_setCell wx ⟨g, i, none⟩ _ g' hne).trans y2
theorem FM.cell {wx : World} {H gU k : Nat} {R : List TR} {F : Nat → Nat → Bool} (h : FM wx H gU R F k) {p : Nat} (hp : p < R.length) : ∃ v, wx.cell? ⟨gU, p, none⟩ = some v ∧ wx.frozen? ⟨gU, p, none⟩ = false := by
  obtain ⟨O, gs, h1, h2, h3, h4, h5, h6, h7⟩ := h
  exact ⟨O[p]'(by omega), by rw [h4.cell, List.getElem?_toArray, List.getElem?_eq_getElem (by omega)], h4.frozen p⟩
theorem FM.made (w : World) (R : List TR) : FM (w.alloc (.cells (Array.replicate R.length (Value.slice none 0 0)) 66)) w.heap.size w.heap.size R (fun _ _ => false) 0 := by
  rw [← List.toArray_replicate]
  exact ⟨List.replicate R.length (Value.slice none 0 0), [], rfl, Nat.zero_le _, by simp, Blk.new w _ _, fun p g r a => by simp at a, fun p q g a => by simp at a, Nat.le_refl _⟩
theorem FM.same {wx : World} {H gU k : Nat} {R : List TR} {F F' : Nat → Nat → Bool} (h : FM wx H gU R F k) (e : F = F') : FM wx H gU R F' k := by subst e; exact h
end Go.Proofs.Ytooegndajfopkaa
