/- A map from determinants to bool that the call makes. No statement of the seat is proved here. -/
import Derived.Test.YtcljdkjlfciacaaDetC
import Derived.Maps.Own
import Derived.Maps.OwnOps
import Derived.Maps.Views
namespace Go.Proofs.Ytcljdkjlfciacaa
open Go.RowKit Go.Maps
set_option linter.unusedVariables false

theorem wf_of {k : Int} (h : InI64 k) : (Lit.int .i64 k).wf = true := WalkArith.wf_i64 (by unfold InI64 at h; omega)
theorem zeroB (w : World) : (zeroValue 4).run Try.prog w = .ok (.bool false) w := by kernel_rfl

set_option maxRecDepth 100000 in
theorem bool_inv {v : Value} {z : DataW Unit × List MemPlace} (h : plainElem Try.prog 4 v = some z) : ∃ x, v = .bool x ∧ z = (.lit (.bool x), []) := by
  unfold plainElem at h
  rw [Try.underlying4] at h
  split at h
  · injection h with h; exact ⟨_, rfl, h.symm⟩
  all_goals simp_all
theorem laidOutP : laidOutB Try.prog = true := by kernel_rfl
theorem detKey : Keyed Try.prog 72 := Keyed.of_law (deep_law_laid laidOutP (m := 5) (by omega) (of_decide_eq_true (by kernel_rfl)) (by kernel_rfl) (by kernel_rfl))
theorem keyTypeDet : Try.prog.keyType 72 = true := by kernel_rfl
theorem cellsDet : Try.prog.cellsOf 72 = 9 := by kernel_rfl
theorem cellsEv : Try.prog.cellsOf 61 = 7 := by kernel_rfl
theorem cellsLabel : Try.prog.cellsOf 59 = 2 := by kernel_rfl
theorem cellsInt : Try.prog.cellsOf 3 = 1 := by kernel_rfl
theorem keyOf_d {d : Dt} (h : d.ok) : ∃ l, keyOf Try.prog 72 d.val = some l := by
  obtain ⟨h0, h1, h2, h3, h4, h5, h6, h7, h8⟩ := h
  have w0 := wf_of h0
  have w1 := wf_of h1
  have w2 := wf_of h2
  have w3 := wf_of h3
  have w4 := wf_of h4
  have w5 := wf_of h5
  have w6 := wf_of h6
  have w7 := wf_of h7
  have w8 := wf_of h8
  obtain ⟨m, hm⟩ : ∃ m, Try.prog.types.size + 1 = m + 4 := ⟨Try.prog.types.size - 3, by have : 3 ≤ Try.prog.types.size := of_decide_eq_true (by kernel_rfl); omega⟩
  have hf : d.val.formed Try.prog 72 = true := by simp [Value.formed, Try.underlying72, cellsDet]
  unfold keyOf
  rw [Try.underlying72]
  simp only [keyTypeDet, hf, hm]
  simp [Program.keyLits, Try.underlying72, Try.underlying61, Try.underlying59, Try.underlying3, cellsDet, cellsEv, cellsLabel, cellsInt, Value.cells, w0, w1, w2, w3, w4, w5, w6, w7, w8]
  rw [if_pos (by decide), if_pos (by decide)]
  exact ⟨_, rfl⟩
theorem val_inj {a b : Dt} (h : a.val = b.val) : a = b := by
  obtain ⟨a0, a1, a2, a3, a4, a5, a6, a7, a8⟩ := a
  obtain ⟨b0, b1, b2, b3, b4, b5, b6, b7, b8⟩ := b
  simp at h
  simp [h]

/-- block b is a map of at most n entries that answers as f does -/
def DMap (w : World) (b n : Nat) (f : Dt → Bool) : Prop :=
  ∃ D : DataW Unit, w.ownsMap Try.prog 72 (plainElem Try.prog 4) b n D ∧ IsMap D ∧ ∀ d l, keyOf Try.prog 72 (Dt.val d) = some l → D.atKey l (.lit (.bool false)) = .lit (.bool (f d))

theorem DMap.made (w : World) : DMap (w.alloc (.map #[] 0)) w.heap.size 0 (fun _ => false) :=
  ⟨.map [], World.ownsMap_made w _ _ _, isMap_empty, fun _ _ _ => rfl⟩
theorem DMap.kept {w w' : World} {b n : Nat} {f : Dt → Bool} {row : Option Nat} (h : DMap w b n f) (hg : w.grownBy w' row) (hne : some b ≠ row) : DMap w' b n f := by
  obtain ⟨D, h1, h2, h3⟩ := h
  exact ⟨D, h1.kept hg hne, h2, h3⟩
theorem DMap.ext {w w' : World} {b n : Nat} {f : Dt → Bool} (h : DMap w b n f) (hg : Ext w w') : DMap w' b n f := h.kept (row := none) (grownBy_ext hg) (by simp)
theorem DMap.lt {w : World} {b n : Nat} {f : Dt → Bool} (h : DMap w b n f) : b < w.heap.size := by
  obtain ⟨D, h1, _⟩ := h
  exact h1.lt
theorem DMap.look {w : World} {b n : Nat} {f : Dt → Bool} (h : DMap w b n f) {d : Dt} (hk : d.ok) :
    (Instr.lookup 78 (.map (some b)) d.val false).run Try.prog w = .ok (.bool (f d)) w := by
  obtain ⟨D, h1, h2, h3⟩ := h
  obtain ⟨l, hl⟩ := keyOf_d hk
  obtain ⟨v, ps, hrun, hv⟩ := h1.lookup detKey Try.underlying78 (zeroB w) (plainElem_bool Try.underlying4 false) hl
  rw [h3 d l hl] at hv
  obtain ⟨x, rfl, hx⟩ := bool_inv hv
  simp at hx
  rw [hrun, hx.1]
set_option maxRecDepth 100000 in
open Classical in
theorem DMap.put {w : World} {b n : Nat} {f : Dt → Bool} (h : DMap w b n f) {d : Dt} (hk : d.ok) (x : Bool) (hn : n < maxLen) :
    ∃ w', (Instr.mapUpdate 78 (.map (some b)) d.val (.bool x)).run Try.prog w = .ok () w' ∧ DMap w' b (n + 1) (fun j => if j = d then x else f j) ∧ w.grownBy w' (some b) := by
  obtain ⟨D, h1, h2, h3⟩ := h
  obtain ⟨l, hl⟩ := keyOf_d hk
  obtain ⟨w', hrun, ho, hg⟩ := h1.update detKey Try.underlying78 hn hl (plainElem_bool Try.underlying4 x)
  refine ⟨w', hrun, ⟨_, ho, h2.put _ _, fun j l' hl' => ?_⟩, hg⟩
  show _ = DataW.lit (Lit.bool (if j = d then x else f j))
  by_cases e : j = d
  · subst e
    rw [hl] at hl'
    injection hl' with hl'
    subst hl'
    rw [atKey_put_same h2 (detKey.key hl), if_pos rfl]
  · have hne : l' ≠ l := fun h => e (val_inj (detKey.inj (by rw [← h]; exact hl') hl))
    rw [atKey_put_other hne, if_neg e, h3 j l' hl']
end Go.Proofs.Ytcljdkjlfciacaa
