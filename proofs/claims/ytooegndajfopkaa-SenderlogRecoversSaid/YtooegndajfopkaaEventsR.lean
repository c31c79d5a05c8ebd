/- Events out of a list of choices. No statement of the seat is proved here. -/
import Derived.Test.YtooegndajfopkaaCodesN
import Derived.Deep.LoopGhost
import Derived.OwnWalk
namespace Go.Proofs.Ytooegndajfopkaa
open Go.RowKit
set_option linter.unusedVariables false
/-- An event's seven numbers. -/
structure Ev where
  kind : Int
  inc : Int
  frm : Int
  sinc : Int
  sidx : Int
  ord : Int
  val : Int
def Ev.cells (e : Ev) : List Value := [.int .i64 e.kind, .int .i64 e.inc, .int .i64 e.frm, .int .i64 e.sinc, .int .i64 e.sidx, .int .i64 e.ord, .int .i64 e.val]
abbrev EvSeg (w : World) (A : Option Addr) (es : List Ev) : Prop := Seg w 7 A es.length (es.flatMap Ev.cells)
theorem Ev.len (e : Ev) : e.cells.length = 7 := rfl
/-- each number is one of 64 bits -/
def Ev.ok (e : Ev) : Prop := InI64 e.kind ∧ InI64 e.inc ∧ InI64 e.frm ∧ InI64 e.sinc ∧ InI64 e.sidx ∧ InI64 e.ord ∧ InI64 e.val
/-- what a made event fulfils -/
def Ev.made (e : Ev) : Prop := (1 ≤ e.kind ∧ e.kind ≤ 3) ∧ e.ok
theorem inI (r : Int) (h0 : 0 ≤ r) (h1 : r < 1000) : InI64 r := ⟨by omega, by omega⟩

theorem blk7 {w : World} {g : Nat} {t : TypeId} {v0 v1 v2 v3 v4 v5 v6 : Value} (h : Blk w g t #[v0, v1, v2, v3, v4, v5, v6]) :
    (w.cell? ⟨g, 0, none⟩ = some v0 ∧ w.cell? ⟨g, 1, none⟩ = some v1 ∧ w.cell? ⟨g, 2, none⟩ = some v2 ∧ w.cell? ⟨g, 3, none⟩ = some v3 ∧ w.cell? ⟨g, 4, none⟩ = some v4 ∧ w.cell? ⟨g, 5, none⟩ = some v5 ∧ w.cell? ⟨g, 6, none⟩ = some v6) ∧
    (w.frozen? ⟨g, 0, none⟩ = false ∧ w.frozen? ⟨g, 1, none⟩ = false ∧ w.frozen? ⟨g, 2, none⟩ = false ∧ w.frozen? ⟨g, 3, none⟩ = false ∧ w.frozen? ⟨g, 4, none⟩ = false ∧ w.frozen? ⟨g, 5, none⟩ = false ∧ w.frozen? ⟨g, 6, none⟩ = false) := by
  simp [h.cell, h.frozen]

theorem Ev.one (e : Ev) : ∀ u ∈ e.cells, u.oneCell' = true := by simp [Ev.cells, Value.oneCell']

theorem inI_of {z : Int} (h : (Lit.int .i64 z).wf = true) : InI64 z := by
  have := Go.bounds_i64 h
  exact ⟨by omega, by omega⟩
end Go.Proofs.Ytooegndajfopkaa
