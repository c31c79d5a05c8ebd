/- What arguments of chapter 38 read as. No statement of the seat is proved here. -/
import Derived.Test.YtddcgholnhhcoaaFrac2
namespace Go.Proofs.Ytddcgholnhhcoaa
open Go.RowKit
set_option linter.unusedVariables false

theorem inI_of {z : Int} (h : (Lit.int .i64 z).wf = true) : InI64 z := by
  have := Go.bounds_i64 h
  exact ⟨by omega, by omega⟩

theorem frac_of {H : Type} {enc : TypeId × Value → H} {w : World} {base : Nat} {spare : Nat → Bool} {held : Bool} {n : Nat} {cs : List Value} {y : DataW H × List MemPlace} (hl : cs.length = 2) (hy : DataW.trod enc Try.prog w base spare held n 27 cs = some y) :
    ∃ d : Fr, cs = [.int .i64 d.num, .int .i64 d.den] ∧ d.ok := by
  obtain ⟨z0, e0, g0⟩ := leaf_int (n := 4) (j := 0) Try.underlying2 hy (by kernel_rfl)
  obtain ⟨z1, e1, g1⟩ := leaf_int (n := 4) (j := 1) Try.underlying2 hy (by kernel_rfl)
  refine ⟨⟨z0, z1⟩, List.ext_getElem? fun j => ?_, inI_of g0, inI_of g1⟩
  rcases j with _ | _ | j
  · exact e0
  · exact e1
  · rw [List.getElem?_eq_none (by omega), List.getElem?_eq_none (by simp)]
open Go.ChangeShapes Go.WideShapes in
theorem open_frac {H : Type} {enc : TypeId × Value → H} {w : World} {base : Nat} {spare : Nat → Bool} {held : Bool} {r : Reach} {b0 : Nat} {v : Value} {d : DataW H} {p : List MemPlace}
    (hv : Value.okWide Try.prog w r b0 27 v) (h : DataW.Trod enc Try.prog w base spare held 27 v d p) : ∃ x : Fr, v = .agg #[.int .i64 x.num, .int .i64 x.den] ∧ x.ok := by
  obtain ⟨cs, rfl, hsz⟩ := okWide_struct Try.underlying27 hv
  have h9 : Try.prog.cellsOf 27 = 2 := by kernel_rfl
  obtain ⟨l⟩ := cs
  obtain ⟨fuel, hf⟩ := h
  obtain ⟨x, hx, hok⟩ := frac_of (cs := l) (by have := hsz.trans h9; simpa using this) hf
  subst hx
  exact ⟨x, rfl, hok⟩
theorem task_of {H : Type} {enc : TypeId × Value → H} {w : World} {base : Nat} {spare : Nat → Bool} {held : Bool} {n : Nat} {cs : List Value} {y : DataW H × List MemPlace} (hl : cs.length = 2) (hy : DataW.trod enc Try.prog w base spare held n 46 cs = some y) :
    ∃ d : Tk, cs = d.cells := by
  obtain ⟨z0, e0, g0⟩ := leaf_int (n := 4) (j := 0) Try.underlying3 hy (by kernel_rfl)
  obtain ⟨z1, e1, g1⟩ := leaf_int (n := 4) (j := 1) Try.underlying3 hy (by kernel_rfl)
  refine ⟨⟨z0, z1⟩, List.ext_getElem? fun j => ?_⟩
  rcases j with _ | _ | j
  · exact e0
  · exact e1
  · rw [List.getElem?_eq_none (by omega), List.getElem?_eq_none (by simp [Tk.cells])]
theorem open_tasks {H : Type} {enc : TypeId × Value → H} {w : World} {base : Nat} {spare : Nat → Bool} {held : Bool} {a : Option Addr} {len cap : Nat} {d : DataW H} {p : List MemPlace} (h : DataW.Trod enc Try.prog w base spare held 32 (.slice a len cap) d p) :
    ∃ l : List Tk, len = l.length ∧ TkSeg w a l ∧ len ≤ cap ∧ cap ≤ maxLen := by
  obtain ⟨fuel, hf⟩ := h
  obtain ⟨css, hl, hs, h1, h2, hc⟩ := open_seg 2 Try.underlying32 (by kernel_rfl) (by omega) (show DataW.trod enc Try.prog w base spare held fuel 32 [.slice a len cap] = some (d, p) from hf)
  obtain ⟨l, rfl⟩ := lift_all Tk.cells css (fun cs hcs => by
    obtain ⟨hl9, n, y, hy⟩ := hc cs hcs
    exact task_of hl9 hy)
  rw [List.length_map] at hl
  subst hl
  refine ⟨l, rfl, ?_, h1, h2⟩
  show Seg w 2 a l.length (l.flatMap Tk.cells)
  rw [List.flatMap_def]
  exact hs
theorem open_intsl {H : Type} {enc : TypeId × Value → H} {w : World} {base : Nat} {spare : Nat → Bool} {held : Bool} {a : Option Addr} {len cap : Nat} {d : DataW H} {p : List MemPlace} (h : DataW.Trod enc Try.prog w base spare held 33 (.slice a len cap) d p) :
    ∃ l : List Int, len = l.length ∧ IntSeg w a l ∧ len ≤ cap ∧ cap ≤ maxLen ∧ ∀ c ∈ l, InI64 c := by
  obtain ⟨fuel, hf⟩ := h
  obtain ⟨css, hl, hs, h1, h2, hc⟩ := open_seg 1 Try.underlying33 (by kernel_rfl) (by omega) (show DataW.trod enc Try.prog w base spare held fuel 33 [.slice a len cap] = some (d, p) from hf)
  obtain ⟨l, rfl, hb⟩ := lift_all' Iv InI64 css (fun cs hcs => by
    obtain ⟨_, n, y, hy⟩ := hc cs hcs
    obtain ⟨z, rfl, _, hz⟩ := DataW.trod_int Try.underlying3 hy
    exact ⟨z, rfl, inI_of hz⟩)
  rw [List.length_map] at hl
  subst hl
  refine ⟨l, rfl, ?_, h1, h2, hb⟩
  show Seg w 1 a l.length (l.flatMap Iv)
  rw [List.flatMap_def]
  exact hs

end Go.Proofs.Ytddcgholnhhcoaa
