/- A map from int to bool that the call makes. No statement of the seat is proved here. -/
import Derived.Test.YtooegndajfopkaaCodesN
import Derived.Maps.Own
import Derived.Maps.OwnOps
import Derived.Maps.Views
namespace Go.Proofs.Ytooegndajfopkaa
open Go.RowKit Go.Maps
set_option linter.unusedVariables false

theorem wf_of {k : Int} (h : InI64 k) : (Lit.int .i64 k).wf = true := WalkArith.wf_i64 (by unfold InI64 at h; omega)
theorem intKey : Keyed Try.prog 3 := int_keyed Try.underlying3
theorem keyOf_i {k : Int} (h : InI64 k) : keyOf Try.prog 3 (.int .i64 k) = some (.int .i64 k) := keyOf_int_mk Try.underlying3 (wf_of h)
theorem zeroB (w : World) : (zeroValue 4).run Try.prog w = .ok (.bool false) w := by kernel_rfl

/-- block b is a map of at most n entries that answers as f does -/
def BMap (w : World) (b n : Nat) (f : Int → Bool) : Prop :=
  ∃ D : DataW Unit, w.ownsMap Try.prog 3 (plainElem Try.prog 4) b n D ∧ IsMap D ∧ ∀ k, InI64 k → D.atKey (.int .i64 k) (.lit (.bool false)) = .lit (.bool (f k))

theorem BMap.made (w : World) : BMap (w.alloc (.map #[] 0)) w.heap.size 0 (fun _ => false) :=
  ⟨.map [], World.ownsMap_made w _ _ _, isMap_empty, fun _ _ => rfl⟩
theorem BMap.kept {w w' : World} {b n : Nat} {f : Int → Bool} {row : Option Nat} (h : BMap w b n f) (hg : w.grownBy w' row) (hne : some b ≠ row) : BMap w' b n f := by
  obtain ⟨D, h1, h2, h3⟩ := h
  exact ⟨D, h1.kept hg hne, h2, h3⟩
theorem BMap.ext {w w' : World} {b n : Nat} {f : Int → Bool} (h : BMap w b n f) (hg : Ext w w') : BMap w' b n f := h.kept (row := none) (grownBy_ext hg) (by simp)
theorem BMap.lt {w : World} {b n : Nat} {f : Int → Bool} (h : BMap w b n f) : b < w.heap.size := by
  obtain ⟨D, h1, _⟩ := h
  exact h1.lt
theorem bool_inv {v : Value} {z : DataW Unit × List MemPlace} (h : plainElem Try.prog 4 v = some z) : ∃ x, v = .bool x ∧ z = (.lit (.bool x), []) := by
  unfold plainElem at h
  rw [Try.underlying4] at h
  split at h
  · injection h with h; exact ⟨_, rfl, h.symm⟩
  all_goals simp_all
theorem BMap.look {w : World} {b n : Nat} {f : Int → Bool} (h : BMap w b n f) {k : Int} (hk : InI64 k) :
    (Instr.lookup 36 (.map (some b)) (.int .i64 k) false).run Try.prog w = .ok (.bool (f k)) w := by
  obtain ⟨D, h1, h2, h3⟩ := h
  obtain ⟨v, ps, hrun, hv⟩ := h1.lookup intKey Try.underlying36 (zeroB w) (plainElem_bool Try.underlying4 false) (keyOf_i hk)
  rw [h3 k hk] at hv
  obtain ⟨x, rfl, hx⟩ := bool_inv hv
  simp at hx
  rw [hrun, hx.1]
theorem BMap.put {w : World} {b n : Nat} {f : Int → Bool} (h : BMap w b n f) {k : Int} (hk : InI64 k) (x : Bool) (hn : n < maxLen) :
    ∃ w', (Instr.mapUpdate 36 (.map (some b)) (.int .i64 k) (.bool x)).run Try.prog w = .ok () w' ∧ BMap w' b (n + 1) (fun j => if j = k then x else f j) ∧ w.grownBy w' (some b) := by
  obtain ⟨D, h1, h2, h3⟩ := h
  obtain ⟨w', hrun, ho, hg⟩ := h1.update intKey Try.underlying36 hn (keyOf_i hk) (plainElem_bool Try.underlying4 x)
  refine ⟨w', hrun, ⟨_, ho, h2.put _ _, fun j hj => ?_⟩, hg⟩
  show _ = DataW.lit (Lit.bool (if j = k then x else f j))
  by_cases e : j = k
  · subst e
    rw [atKey_put_same h2 (by first | exact ⟨_, _, rfl⟩ | trivial | simp [WideAt.IsKeyLit]), if_pos rfl]
  · rw [atKey_put_other (by intro h; injection h; contradiction), if_neg e, h3 j hj]
end Go.Proofs.Ytooegndajfopkaa
