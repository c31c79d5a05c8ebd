/- Arguments of chapter 27: lists of ints and of determinants, a determinant. No statement of the seat is proved here. -/
import Derived.Test.YthadaahemhamdaaDet
import Derived.Lib.SmallJoins
namespace Go.Proofs.Ythadaahemhamdaa
open Go.RowKit
set_option linter.unusedVariables false

theorem open_intsl {H : Type} {enc : TypeId × Value → H} {w : World} {base : Nat} {spare : Nat → Bool} {held : Bool} {a : Option Addr} {len cap : Nat} {d : DataW H} {p : List MemPlace} (h : DataW.Trod enc Try.prog w base spare held 23 (.slice a len cap) d p) :
    ∃ l : List Int, len = l.length ∧ IntSeg w a l ∧ len ≤ cap ∧ cap ≤ maxLen ∧ ∀ c ∈ l, InI64 c := by
  obtain ⟨fuel, hf⟩ := h
  obtain ⟨css, hl, hs, h1, h2, hc⟩ := open_seg 1 Try.underlying23 (by kernel_rfl) (by omega) (show DataW.trod enc Try.prog w base spare held fuel 23 [.slice a len cap] = some (d, p) from hf)
  obtain ⟨l, rfl, hb⟩ := lift_all' Iv InI64 css (fun cs hcs => by
    obtain ⟨_, n, y, hy⟩ := hc cs hcs
    obtain ⟨z, rfl, _, hz⟩ := DataW.trod_int Try.underlying3 hy
    exact ⟨z, rfl, inI_of hz⟩)
  rw [List.length_map] at hl
  subst hl
  refine ⟨l, rfl, ?_, h1, h2, hb⟩
  show Seg w 1 a l.length (l.flatMap Iv)
  rw [List.flatMap_def]
  exact hs

theorem det_of {H : Type} {enc : TypeId × Value → H} {w : World} {base : Nat} {spare : Nat → Bool} {held : Bool} {n : Nat} {cs : List Value} {y : DataW H × List MemPlace} (hl : cs.length = 9) (hy : DataW.trod enc Try.prog w base spare held n 39 cs = some y) :
    ∃ d : Dt, cs = d.cells ∧ d.ok := by
  obtain ⟨z0, e0, g0⟩ := leaf_int (n := 4) (j := 0) Try.underlying3 hy (by kernel_rfl)
  obtain ⟨z1, e1, g1⟩ := leaf_int (n := 4) (j := 1) Try.underlying3 hy (by kernel_rfl)
  obtain ⟨z2, e2, g2⟩ := leaf_int (n := 4) (j := 2) Try.underlying3 hy (by kernel_rfl)
  obtain ⟨z3, e3, g3⟩ := leaf_int (n := 4) (j := 3) Try.underlying3 hy (by kernel_rfl)
  obtain ⟨z4, e4, g4⟩ := leaf_int (n := 4) (j := 4) Try.underlying3 hy (by kernel_rfl)
  obtain ⟨z5, e5, g5⟩ := leaf_int (n := 4) (j := 5) Try.underlying3 hy (by kernel_rfl)
  obtain ⟨z6, e6, g6⟩ := leaf_int (n := 4) (j := 6) Try.underlying3 hy (by kernel_rfl)
  obtain ⟨z7, e7, g7⟩ := leaf_int (n := 4) (j := 7) Try.underlying3 hy (by kernel_rfl)
  obtain ⟨z8, e8, g8⟩ := leaf_int (n := 4) (j := 8) Try.underlying3 hy (by kernel_rfl)
  refine ⟨⟨z0, z1, ⟨z2, z3, z4, z5, z6, z7, z8⟩⟩, List.ext_getElem? fun j => ?_, inI_of g0, inI_of g1, inI_of g2, inI_of g3, inI_of g4, inI_of g5, inI_of g6, inI_of g7, inI_of g8⟩
  rcases j with _ | _ | _ | _ | _ | _ | _ | _ | _ | j
  · exact e0
  · exact e1
  · exact e2
  · exact e3
  · exact e4
  · exact e5
  · exact e6
  · exact e7
  · exact e8
  · rw [List.getElem?_eq_none (by omega), List.getElem?_eq_none (by simp [Dt.cells])]

theorem open_dets {H : Type} {enc : TypeId × Value → H} {w : World} {base : Nat} {spare : Nat → Bool} {held : Bool} {a : Option Addr} {len cap : Nat} {d : DataW H} {p : List MemPlace} (h : DataW.Trod enc Try.prog w base spare held 24 (.slice a len cap) d p) :
    ∃ l : List Dt, len = l.length ∧ DtSeg w a l ∧ len ≤ cap ∧ cap ≤ maxLen ∧ ∀ d ∈ l, d.ok := by
  obtain ⟨fuel, hf⟩ := h
  obtain ⟨css, hl, hs, h1, h2, hc⟩ := open_seg 9 Try.underlying24 (by kernel_rfl) (by omega) (show DataW.trod enc Try.prog w base spare held fuel 24 [.slice a len cap] = some (d, p) from hf)
  obtain ⟨l, rfl, hb⟩ := lift_all' Dt.cells Dt.ok css (fun cs hcs => by
    obtain ⟨hl9, n, y, hy⟩ := hc cs hcs
    exact det_of hl9 hy)
  rw [List.length_map] at hl
  subst hl
  refine ⟨l, rfl, ?_, h1, h2, hb⟩
  show Seg w 9 a l.length (l.flatMap Dt.cells)
  rw [List.flatMap_def]
  exact hs

open Go.ChangeShapes Go.WideShapes in
theorem open_det {H : Type} {enc : TypeId × Value → H} {w : World} {base : Nat} {spare : Nat → Bool} {held : Bool} {r : Reach} {b0 : Nat} {v : Value} {d : DataW H} {p : List MemPlace}
    (hv : Value.okWide Try.prog w r b0 39 v) (h : DataW.Trod enc Try.prog w base spare held 39 v d p) : ∃ x : Dt, v = x.val ∧ x.ok := by
  obtain ⟨cs, rfl, hsz⟩ := okWide_struct Try.underlying39 hv
  have h9 : Try.prog.cellsOf 39 = 9 := by kernel_rfl
  obtain ⟨l⟩ := cs
  obtain ⟨fuel, hf⟩ := h
  obtain ⟨x, hx, hok⟩ := det_of (cs := l) (by have := hsz.trans h9; simpa using this) hf
  subst hx
  exact ⟨x, rfl, hok⟩
end Go.Proofs.Ythadaahemhamdaa
