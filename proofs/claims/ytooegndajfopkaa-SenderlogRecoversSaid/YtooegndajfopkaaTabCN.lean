/- Blocks that hold a table of structs. No statement of the seat is proved here. -/
import Derived.Test.YtooegndajfopkaaBase3
import Derived.Test.YtooegndajfopkaaCodesN
import Derived.Deep.MidRow
import Derived.Deep.Upon
namespace Go.Proofs.Ytooegndajfopkaa
open Go.RowKit
set_option linter.unusedVariables false

theorem Blk.set1 {w : World} {g o : Nat} {t : TypeId} {cs : Array Value} (h : Blk w g t cs) (v : Value) : Blk (w.setCell ⟨g, o, none⟩ v) g t (cs.setIfInBounds o v) := by
  unfold Blk at *
  rw [setCell_eq_setRow w g o cs t (0, 0) v h]
  exact setRow_heap w g cs _ t _ h
theorem Blk.sets {w : World} {g : Nat} {t : TypeId} : ∀ (vs : List Value) (o : Nat) (w : World) (cs : List Value), Blk w g t cs.toArray → Blk (w.setCells g o vs) g t (setAll cs o vs).toArray
  | [], _, _, _, h => h
  | v :: vs, o, w, cs, h => by
    rw [World.setCells, setAll]
    refine Blk.sets (w := w) vs (o + 1) _ (cs.set o v) ?_
    have := Blk.set1 h (o := o) v
    simpa using this
theorem Blk.setAt {α : Type} {f : α → List Value} {s : Nat} {w : World} {g : Nat} {t : TypeId} {l : List α} (h : Blk w g t (l.flatMap f).toArray) (hs : 0 < s) (hf : ∀ a, (f a).length = s) {j : Nat} (hj : j < l.length) (x : α) :
    Blk (w.setCells g (j * s) (f x)) g t ((l.set j x).flatMap f).toArray := by
  have := Blk.sets (w := w) (f x) (j * s) w (l.flatMap f) h
  rwa [setAll_flat f s hs hf l j x hj] at this
theorem Blk.setOther {w : World} {g g' : Nat} {t : TypeId} {cs : Array Value} (h : Blk w g t cs) (o : Nat) (vs : List Value) (hne : g ≠ g') : Blk (w.setCells g' o vs) g t cs := (World.heap_setCells_other w g' o vs h.lt hne).trans h
theorem Blk.thereAt {w : World} {g : Nat} {t : TypeId} {cs : Array Value} (h : Blk w g t cs) {o n : Nat} (hn : o + n ≤ cs.size) : w.there g o n := fun j hj => by
  rw [h.cell, h.frozen]
  exact ⟨by rw [Array.getElem?_eq_getElem (by omega)]; rfl, rfl⟩
theorem Blk.tabAt {α : Type} {f : α → List Value} {s : Nat} {w : World} {g : Nat} {t : TypeId} {l : List α} (h : Blk w g t (l.flatMap f).toArray) (hf : ∀ a, (f a).length = s) {i : Nat} {a : α} (hi : l[i]? = some a) {j : Nat} (hj : j < s) {u : Value} (hu : (f a)[j]? = some u) :
    w.cell? ⟨g, i * s + j, none⟩ = some u := by
  rw [h.cell, List.getElem?_toArray, flat_get f s hf l i j a hi hj, hu]
theorem setCells_size (g : Nat) : ∀ (vs : List Value) (o : Nat) (w : World), (w.setCells g o vs).heap.size = w.heap.size
  | [], _, _ => rfl
  | v :: r, o, w => by rw [World.setCells, setCells_size g r]; simp
theorem Ext.setCells {w : World} {g : Nat} (hg : w.heap.size ≤ g) : ∀ (vs : List Value) (o : Nat) (W : World), Ext w W → Ext w (W.setCells g o vs)
  | [], _, _, h => h
  | v :: r, o, W, h => by rw [World.setCells]; exact Ext.setCells hg r (o + 1) _ (Below.setCell h (p := ⟨g, o, none⟩) hg v)
theorem made_flat {α : Type} (f : α → List Value) (s : Nat) (hs : 0 < s) (hf : ∀ a, (f a).length = s) (z : α) (zc : Array Value) (hz : zc = (f z).toArray) (n : Nat) : madeCells zc (n * s) = ((List.replicate n z).flatMap f).toArray := by
  subst hz
  apply Array.ext_getElem?
  intro q
  have e0 : ((List.replicate n z).flatMap f).toArray[q]? = ((List.replicate n z).flatMap f)[q]? := by simp
  rw [e0]
  by_cases hq : q < n * s
  · have hd : q / s < n := Nat.div_lt_of_lt_mul (by rw [Nat.mul_comm]; exact hq)
    have hm := Nat.mod_lt q hs
    have e : q / s * s + q % s = q := by rw [Nat.mul_comm]; exact Nat.div_add_mod q s
    have := flat_get f s hf (List.replicate n z) (q / s) (q % s) z (by simp [hd]) hm
    rw [e] at this
    rw [this]
    simp [madeCells, hq, hf, List.getElem?_eq_getElem (show q % s < (f z).length by rw [hf]; exact hm)]
  · rw [Array.getElem?_eq_none (by rw [size_madeCells]; omega), List.getElem?_eq_none (by rw [flat_len f s hf]; simp; omega)]
end Go.Proofs.Ytooegndajfopkaa
