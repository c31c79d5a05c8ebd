/- Events out of a list of choices. No statement of the seat is proved here. -/
import Derived.Test.YtfnnoncdocghjaaCodesC
import Derived.Deep.LoopGhost
import Derived.OwnWalk
namespace Go.Proofs.Ytfnnoncdocghjaa
open Go.RowKit
set_option linter.unusedVariables false
/-- An event's seven numbers. -/
structure Ev where
  kind : Int
  inc : Int
  frm : Int
  sinc : Int
  sidx : Int
  ord : Int
  val : Int
def Ev.cells (e : Ev) : List Value := [.int .i64 e.kind, .int .i64 e.inc, .int .i64 e.frm, .int .i64 e.sinc, .int .i64 e.sidx, .int .i64 e.ord, .int .i64 e.val]
abbrev EvSeg (w : World) (A : Option Addr) (es : List Ev) : Prop := Seg w 7 A es.length (es.flatMap Ev.cells)
theorem Ev.len (e : Ev) : e.cells.length = 7 := rfl
/-- each number is one of 64 bits -/
def Ev.ok (e : Ev) : Prop := InI64 e.kind ∧ InI64 e.inc ∧ InI64 e.frm ∧ InI64 e.sinc ∧ InI64 e.sidx ∧ InI64 e.ord ∧ InI64 e.val
/-- what a made event fulfils -/
def Ev.made (e : Ev) : Prop := (1 ≤ e.kind ∧ e.kind ≤ 3) ∧ e.ok
theorem inI (r : Int) (h0 : 0 ≤ r) (h1 : r < 1000) : InI64 r := ⟨by omega, by omega⟩

def SomeEv (R : World → Prop) (e : Ending) (w' : World) : Prop :=
  ∃ ev : Ev, e = .returned (.agg #[.int .i64 ev.kind, .int .i64 ev.inc, .int .i64 ev.frm, .int .i64 ev.sinc, .int .i64 ev.sidx, .int .i64 ev.ord, .int .i64 ev.val]) ∧ ev.made ∧ R w'

theorem blk7 {w : World} {g : Nat} {t : TypeId} {v0 v1 v2 v3 v4 v5 v6 : Value} (h : Blk w g t #[v0, v1, v2, v3, v4, v5, v6]) :
    (w.cell? ⟨g, 0, none⟩ = some v0 ∧ w.cell? ⟨g, 1, none⟩ = some v1 ∧ w.cell? ⟨g, 2, none⟩ = some v2 ∧ w.cell? ⟨g, 3, none⟩ = some v3 ∧ w.cell? ⟨g, 4, none⟩ = some v4 ∧ w.cell? ⟨g, 5, none⟩ = some v5 ∧ w.cell? ⟨g, 6, none⟩ = some v6) ∧
    (w.frozen? ⟨g, 0, none⟩ = false ∧ w.frozen? ⟨g, 1, none⟩ = false ∧ w.frozen? ⟨g, 2, none⟩ = false ∧ w.frozen? ⟨g, 3, none⟩ = false ∧ w.frozen? ⟨g, 4, none⟩ = false ∧ w.frozen? ⟨g, 5, none⟩ = false ∧ w.frozen? ⟨g, 6, none⟩ = false) := by
  simp [h.cell, h.frozen]

theorem Ev.one (e : Ev) : ∀ u ∈ e.cells, u.oneCell' = true := by simp [Ev.cells, Value.oneCell']

theorem inI_of {z : Int} (h : (Lit.int .i64 z).wf = true) : InI64 z := by
  have := Go.bounds_i64 h
  exact ⟨by omega, by omega⟩
theorem open_evs {H : Type} {enc : TypeId × Value → H} {w : World} {base : Nat} {spare : Nat → Bool} {held : Bool} {a : Option Addr} {len cap : Nat} {d : DataW H} {p : List MemPlace} (h : DataW.Trod enc Try.prog w base spare held 65 (.slice a len cap) d p) :
    ∃ es : List Ev, len = es.length ∧ EvSeg w a es ∧ len ≤ cap ∧ cap ≤ maxLen ∧ ∀ e ∈ es, e.ok := by
  obtain ⟨fuel, hf⟩ := h
  obtain ⟨css, hl, hs, h1, h2, hc⟩ := open_seg 7 Try.underlying65 (by kernel_rfl) (by omega) (show DataW.trod enc Try.prog w base spare held fuel 65 [.slice a len cap] = some (d, p) from hf)
  obtain ⟨es, rfl, hok⟩ := lift_all' Ev.cells Ev.ok css (fun cs hcs => by
    obtain ⟨hl7, n, y, hy⟩ := hc cs hcs
    obtain ⟨z0, e0, g0⟩ := leaf_int (n := 3) (j := 0) Try.underlying3 hy (by kernel_rfl)
    obtain ⟨z1, e1, g1⟩ := leaf_int (n := 3) (j := 1) Try.underlying3 hy (by kernel_rfl)
    obtain ⟨z2, e2, g2⟩ := leaf_int (n := 3) (j := 2) Try.underlying3 hy (by kernel_rfl)
    obtain ⟨z3, e3, g3⟩ := leaf_int (n := 3) (j := 3) Try.underlying3 hy (by kernel_rfl)
    obtain ⟨z4, e4, g4⟩ := leaf_int (n := 3) (j := 4) Try.underlying3 hy (by kernel_rfl)
    obtain ⟨z5, e5, g5⟩ := leaf_int (n := 3) (j := 5) Try.underlying3 hy (by kernel_rfl)
    obtain ⟨z6, e6, g6⟩ := leaf_int (n := 3) (j := 6) Try.underlying3 hy (by kernel_rfl)
    refine ⟨⟨z0, z1, z2, z3, z4, z5, z6⟩, List.ext_getElem? fun j => ?_, inI_of g0, inI_of g1, inI_of g2, inI_of g3, inI_of g4, inI_of g5, inI_of g6⟩
    rcases j with _ | _ | _ | _ | _ | _ | _ | j
    · exact e0
    · exact e1
    · exact e2
    · exact e3
    · exact e4
    · exact e5
    · exact e6
    · rw [List.getElem?_eq_none (by omega), List.getElem?_eq_none (by simp [Ev.cells])])
  rw [List.length_map] at hl
  subst hl
  refine ⟨es, rfl, ?_, h1, h2, hok⟩
  show Seg w 7 a es.length (es.flatMap Ev.cells)
  rw [List.flatMap_def]
  exact hs

theorem open_events {H : Type} {enc : TypeId × Value → H} {w : World} {base : Nat} {spare : Nat → Bool} {held : Bool} {a : Option Addr} {len cap : Nat} {d : DataW H} {p : List MemPlace} (h : DataW.Trod enc Try.prog w base spare held 65 (.slice a len cap) d p) :
    ∃ es : List Ev, len = es.length ∧ EvSeg w a es ∧ len ≤ cap ∧ cap ≤ maxLen := by
  obtain ⟨fuel, hf⟩ := h
  obtain ⟨css, hl, hs, h1, h2, hc⟩ := open_seg 7 Try.underlying65 (by kernel_rfl) (by omega) (show DataW.trod enc Try.prog w base spare held fuel 65 [.slice a len cap] = some (d, p) from hf)
  obtain ⟨es, rfl⟩ := lift_all Ev.cells css (fun cs hcs => by
    obtain ⟨hl7, n, y, hy⟩ := hc cs hcs
    obtain ⟨z0, e0, _⟩ := leaf_int (n := 3) (j := 0) Try.underlying3 hy (by kernel_rfl)
    obtain ⟨z1, e1, _⟩ := leaf_int (n := 3) (j := 1) Try.underlying3 hy (by kernel_rfl)
    obtain ⟨z2, e2, _⟩ := leaf_int (n := 3) (j := 2) Try.underlying3 hy (by kernel_rfl)
    obtain ⟨z3, e3, _⟩ := leaf_int (n := 3) (j := 3) Try.underlying3 hy (by kernel_rfl)
    obtain ⟨z4, e4, _⟩ := leaf_int (n := 3) (j := 4) Try.underlying3 hy (by kernel_rfl)
    obtain ⟨z5, e5, _⟩ := leaf_int (n := 3) (j := 5) Try.underlying3 hy (by kernel_rfl)
    obtain ⟨z6, e6, _⟩ := leaf_int (n := 3) (j := 6) Try.underlying3 hy (by kernel_rfl)
    refine ⟨⟨z0, z1, z2, z3, z4, z5, z6⟩, List.ext_getElem? fun j => ?_⟩
    rcases j with _ | _ | _ | _ | _ | _ | _ | j
    · exact e0
    · exact e1
    · exact e2
    · exact e3
    · exact e4
    · exact e5
    · exact e6
    · rw [List.getElem?_eq_none (by omega), List.getElem?_eq_none (by simp [Ev.cells])])
  rw [List.length_map] at hl
  subst hl
  refine ⟨es, rfl, ?_, h1, h2⟩
  show Seg w 7 a es.length (es.flatMap Ev.cells)
  rw [List.flatMap_def]
  exact hs
end Go.Proofs.Ytfnnoncdocghjaa
