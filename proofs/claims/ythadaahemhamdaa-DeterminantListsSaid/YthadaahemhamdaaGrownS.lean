/- Determinants that are read in a region whose order is drawn. No statement of the seat is proved here. -/
import Derived.Test.YthadaahemhamdaaCompareD
import Derived.Lib.QuietBelow
namespace Go.Proofs.Ythadaahemhamdaa
open Go.RowKit Go.Sort
set_option linter.unusedVariables false

theorem Dt.cellsS {W : World} {b off : Nat} {L : List Dt} (h : DtSeg W (some ⟨b, off, none⟩) L) {k : Nat} (hk : k < L.length) {x : Dt} (hx : L[k] = x) : W.cell? ⟨b, off + k * 9, none⟩ = some (.int .i64 x.proc) ∧ W.cell? ⟨b, off + k * 9 + 1, none⟩ = some (.int .i64 x.index) ∧ W.cell? ⟨b, off + k * 9 + 2, none⟩ = some (.int .i64 x.ev.kind) ∧ W.cell? ⟨b, off + k * 9 + 3, none⟩ = some (.int .i64 x.ev.inc) ∧ W.cell? ⟨b, off + k * 9 + 4, none⟩ = some (.int .i64 x.ev.frm) ∧ W.cell? ⟨b, off + k * 9 + 5, none⟩ = some (.int .i64 x.ev.sinc) ∧ W.cell? ⟨b, off + k * 9 + 6, none⟩ = some (.int .i64 x.ev.sidx) ∧ W.cell? ⟨b, off + k * 9 + 7, none⟩ = some (.int .i64 x.ev.ord) ∧ W.cell? ⟨b, off + k * 9 + 8, none⟩ = some (.int .i64 x.ev.val) := by
  obtain ⟨b', off', hA, _, hc⟩ := Seg.at_ h Dt.len hk
  injection hA with hA
  injection hA with h1 h2
  subst h1 h2 hx
  exact ⟨hc 0 _ rfl, hc 1 _ rfl, hc 2 _ rfl, hc 3 _ rfl, hc 4 _ rfl, hc 5 _ rfl, hc 6 _ rfl, hc 7 _ rfl, hc 8 _ rfl⟩
theorem call_grownS {f : FuncId} {args : Array Value} {W : World} {d : Nat} {os : Array Obj} {v : Value} (h : ∀ X, Calls Try.prog f args X (ExtPost X v)) :
    Calls Try.prog f args (grow (redrawn W d) os) fun e w'' => e = .returned v ∧ ∃ p : Regrown, w'' = grow (redrawn W p.d) p.os := Calls.regrown_of (h _)
theorem grownS {W : World} {g : Nat} {L : List Dt} (h : DtSeg W (some ⟨g, 0, none⟩) L) {i : Nat} (hi : i < L.length) {x : Dt} (hx : L[i] = x) (d : Nat) (os : Array Obj) :
    (grow (redrawn W d) os).cell? ⟨g, i * 9, none⟩ = some (.int .i64 x.proc) ∧ (grow (redrawn W d) os).cell? ⟨g, i * 9 + 1, none⟩ = some (.int .i64 x.index) ∧ (grow (redrawn W d) os).cell? ⟨g, i * 9 + 2, none⟩ = some (.int .i64 x.ev.kind) ∧ (grow (redrawn W d) os).cell? ⟨g, i * 9 + 3, none⟩ = some (.int .i64 x.ev.inc) ∧ (grow (redrawn W d) os).cell? ⟨g, i * 9 + 4, none⟩ = some (.int .i64 x.ev.frm) ∧ (grow (redrawn W d) os).cell? ⟨g, i * 9 + 5, none⟩ = some (.int .i64 x.ev.sinc) ∧ (grow (redrawn W d) os).cell? ⟨g, i * 9 + 6, none⟩ = some (.int .i64 x.ev.sidx) ∧ (grow (redrawn W d) os).cell? ⟨g, i * 9 + 7, none⟩ = some (.int .i64 x.ev.ord) ∧ (grow (redrawn W d) os).cell? ⟨g, i * 9 + 8, none⟩ = some (.int .i64 x.ev.val) := by
  have := Dt.cellsS (h.ext (below_regrown W d os)) hi hx
  simpa only [Nat.zero_add] using this
theorem grownT {W : World} {b off : Nat} {L : List Dt} (h : DtSeg W (some ⟨b, off, none⟩) L) {i : Nat} (hi : i < L.length) {x : Dt} (hx : L[i] = x) (d : Nat) (os : Array Obj) :
    (grow (redrawn W d) os).cell? ⟨b, off + i * 9, none⟩ = some (.int .i64 x.proc) ∧ (grow (redrawn W d) os).cell? ⟨b, off + i * 9 + 1, none⟩ = some (.int .i64 x.index) ∧ (grow (redrawn W d) os).cell? ⟨b, off + i * 9 + 2, none⟩ = some (.int .i64 x.ev.kind) ∧ (grow (redrawn W d) os).cell? ⟨b, off + i * 9 + 3, none⟩ = some (.int .i64 x.ev.inc) ∧ (grow (redrawn W d) os).cell? ⟨b, off + i * 9 + 4, none⟩ = some (.int .i64 x.ev.frm) ∧ (grow (redrawn W d) os).cell? ⟨b, off + i * 9 + 5, none⟩ = some (.int .i64 x.ev.sinc) ∧ (grow (redrawn W d) os).cell? ⟨b, off + i * 9 + 6, none⟩ = some (.int .i64 x.ev.sidx) ∧ (grow (redrawn W d) os).cell? ⟨b, off + i * 9 + 7, none⟩ = some (.int .i64 x.ev.ord) ∧ (grow (redrawn W d) os).cell? ⟨b, off + i * 9 + 8, none⟩ = some (.int .i64 x.ev.val) :=
  Dt.cellsS (h.ext (below_regrown W d os)) hi hx
theorem grownB {W : World} {g : Nat} {t : TypeId} {x : Dt} (h : Blk W g t x.cells.toArray) (d : Nat) (os : Array Obj) :
    (grow (redrawn W d) os).cell? ⟨g, 0, none⟩ = some (.int .i64 x.proc) ∧ (grow (redrawn W d) os).cell? ⟨g, 1, none⟩ = some (.int .i64 x.index) ∧ (grow (redrawn W d) os).cell? ⟨g, 2, none⟩ = some (.int .i64 x.ev.kind) ∧ (grow (redrawn W d) os).cell? ⟨g, 3, none⟩ = some (.int .i64 x.ev.inc) ∧ (grow (redrawn W d) os).cell? ⟨g, 4, none⟩ = some (.int .i64 x.ev.frm) ∧ (grow (redrawn W d) os).cell? ⟨g, 5, none⟩ = some (.int .i64 x.ev.sinc) ∧ (grow (redrawn W d) os).cell? ⟨g, 6, none⟩ = some (.int .i64 x.ev.sidx) ∧ (grow (redrawn W d) os).cell? ⟨g, 7, none⟩ = some (.int .i64 x.ev.ord) ∧ (grow (redrawn W d) os).cell? ⟨g, 8, none⟩ = some (.int .i64 x.ev.val) :=
  blk9 (h.ext (below_regrown W d os))
end Go.Proofs.Ythadaahemhamdaa
