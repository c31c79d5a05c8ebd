/- Arguments: lists of lineages. No statement of the seat is proved here. -/
import Derived.Test.YtcljdkjlfciacaaLin
namespace Go.Proofs.Ytcljdkjlfciacaa
open Go.RowKit
set_option linter.unusedVariables false

theorem open_lineages {H : Type} {enc : TypeId × Value → H} {w : World} {base : Nat} {spare : Nat → Bool} {held : Bool} {a : Option Addr} {len cap : Nat} {d : DataW H} {p : List MemPlace} (h : DataW.Trod enc Try.prog w base spare held 22 (.slice a len cap) d p) :
    ∃ R : List Rw, len = R.length ∧ LinSeg w a R ∧ len ≤ cap ∧ cap ≤ maxLen ∧ ∀ r ∈ R, ∀ e ∈ r.es, e.ok := by
  obtain ⟨fuel, hf⟩ := h
  obtain ⟨css, hl, hs, h1, h2, hc⟩ := open_seg 1 Try.underlying22 (by kernel_rfl) (by omega) (show DataW.trod enc Try.prog w base spare held fuel 22 [.slice a len cap] = some (d, p) from hf)
  obtain ⟨R, rfl, hok⟩ := lift_all' Rw.cells (fun r => r.fine w ∧ ∀ e ∈ r.es, e.ok) css (fun cs hcs => by
    obtain ⟨hl1, n, y, hy⟩ := hc cs hcs
    have hsl : ∃ A m c, cs = [.slice A m c] := by
      rcases Go.Deep.open_slice Try.underlying55 hy with ⟨hcs, _⟩ | ⟨a', len', cap', m, n, D, Pl, hcs, _⟩
      · exact ⟨_, _, _, hcs⟩
      · exact ⟨_, _, _, hcs⟩
    obtain ⟨A, m, c, rfl⟩ := hsl
    obtain ⟨es, rfl, he, hc1, hc2, ho⟩ := open_evs (d := y.1) (p := y.2) ⟨n, hy⟩
    exact ⟨⟨A, c, es⟩, rfl, ⟨he, hc1, hc2⟩, ho⟩)
  rw [List.length_map] at hl
  subst hl
  refine ⟨R, rfl, ⟨?_, fun r hr => (hok r hr).1⟩, h1, h2, fun r hr => (hok r hr).2⟩
  show Seg w 1 a R.length (R.flatMap Rw.cells)
  rw [List.flatMap_def]
  exact hs
end Go.Proofs.Ytcljdkjlfciacaa
