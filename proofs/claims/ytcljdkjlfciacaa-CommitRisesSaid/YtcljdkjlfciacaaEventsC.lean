/- Events out of a list of choices. No statement of the seat is proved here. -/
import Derived.Test.YtcljdkjlfciacaaCodesC
import Derived.Deep.LoopGhost
import Derived.OwnWalk
namespace Go.Proofs.Ytcljdkjlfciacaa
open Go.RowKit
set_option linter.unusedVariables false
/-- An event's seven numbers. -/
structure Ev where
  kind : Int
  inc : Int
  frm : Int
  sinc : Int
  sidx : Int
  ord : Int
  val : Int
def Ev.cells (e : Ev) : List Value := [.int .i64 e.kind, .int .i64 e.inc, .int .i64 e.frm, .int .i64 e.sinc, .int .i64 e.sidx, .int .i64 e.ord, .int .i64 e.val]
abbrev EvSeg (w : World) (A : Option Addr) (es : List Ev) : Prop := Seg w 7 A es.length (es.flatMap Ev.cells)
theorem Ev.len (e : Ev) : e.cells.length = 7 := rfl
/-- each number is one of 64 bits -/
def Ev.ok (e : Ev) : Prop := InI64 e.kind ∧ InI64 e.inc ∧ InI64 e.frm ∧ InI64 e.sinc ∧ InI64 e.sidx ∧ InI64 e.ord ∧ InI64 e.val
/-- what a made event fulfils -/
def Ev.made (e : Ev) : Prop := (1 ≤ e.kind ∧ e.kind ≤ 3) ∧ e.ok
theorem inI (r : Int) (h0 : 0 ≤ r) (h1 : r < 1000) : InI64 r := ⟨by omega, by omega⟩

def SomeEv (R : World → Prop) (e : Ending) (w' : World) : Prop :=
  ∃ ev : Ev, e = .returned (.agg #[.int .i64 ev.kind, .int .i64 ev.inc, .int .i64 ev.frm, .int .i64 ev.sinc, .int .i64 ev.sidx, .int .i64 ev.ord, .int .i64 ev.val]) ∧ ev.made ∧ R w'

theorem blk7 {w : World} {g : Nat} {t : TypeId} {v0 v1 v2 v3 v4 v5 v6 : Value} (h : Blk w g t #[v0, v1, v2, v3, v4, v5, v6]) :
    (w.cell? ⟨g, 0, none⟩ = some v0 ∧ w.cell? ⟨g, 1, none⟩ = some v1 ∧ w.cell? ⟨g, 2, none⟩ = some v2 ∧ w.cell? ⟨g, 3, none⟩ = some v3 ∧ w.cell? ⟨g, 4, none⟩ = some v4 ∧ w.cell? ⟨g, 5, none⟩ = some v5 ∧ w.cell? ⟨g, 6, none⟩ = some v6) ∧
    (w.frozen? ⟨g, 0, none⟩ = false ∧ w.frozen? ⟨g, 1, none⟩ = false ∧ w.frozen? ⟨g, 2, none⟩ = false ∧ w.frozen? ⟨g, 3, none⟩ = false ∧ w.frozen? ⟨g, 4, none⟩ = false ∧ w.frozen? ⟨g, 5, none⟩ = false ∧ w.frozen? ⟨g, 6, none⟩ = false) := by
  simp [h.cell, h.frozen]

set_option maxHeartbeats 1600000 in
theorem event_any (c : Nat) (bs : List Int) (k : Nat) (w : World) (h : Codes w c bs k) :
    Calls Try.prog 52 #[.pointer (some ⟨c, 0, none⟩)] w (SomeEv (Drew c bs k w)) := by
  have hcl := h.lt
  go_enter Try.func52, Try.ntmps52
  go_wp2_with fail
  refine (next_any' c bs k _ (h.ext ((Ext.refl w).allocs _)) 3 (by omega) (by omega)).mono ?_
  rintro e w1 ⟨r1, rfl, ⟨hr10, hr11⟩, hD0⟩
  have hg := hD0.1
  have hD1 := hD0.pre ((Ext.refl w).allocs _)
  have hB1 := (Blk.new w _ _).grown hg hcl
  clear hg hD0
  go_wp2_with fail
  refine (next_on hD1 (Ext.refl _) 3 (by omega) (by omega)).mono ?_
  rintro e w2 ⟨r2, rfl, ⟨hr20, hr21⟩, hD2, hg2⟩
  have hB2 := hB1.grown hg2 hcl
  clear hg2 hD1 hB1
  go_wp2_with fail
  refine (int_on hD2 (Ext.refl _)).mono ?_
  rintro e w3 ⟨r3, rfl, hr3, hD3, hg3⟩
  have hB3 := hB2.grown hg3 hcl
  have hz3 := hB3.lt
  clear hg3 hD2 hB2
  by_cases h0 : r1 = 0
  · subst h0
    go_wp2_with fail
    refine (next_on hD3 ((Ext.refl _).allocs _) 3 (by omega) (by omega)).mono ?_
    rintro e w4 ⟨r4, rfl, ⟨hr40, hr41⟩, hD4, hg4⟩
    have hE4 := (Blk.new w3 _ _).grown hg4 (by omega)
    have hB4 := (hB3.ext ((Ext.refl w3).allocs _)).grown hg4 hcl
    clear hg4 hB3 hD3
    go_wp2_with fail
    refine (next_on hD4 (Ext.refl _) 2 (by omega) (by omega)).mono ?_
    rintro e w5 ⟨r5, rfl, ⟨hr50, hr51⟩, hD5, hg5⟩
    have hE5 := hE4.grown hg5 (by omega)
    have hB5 := hB4.grown hg5 hcl
    clear hg5 hE4 hB4 hD4
    go_wp2_with fail
    refine (next_on hD5 (Ext.refl _) 5 (by omega) (by omega)).mono ?_
    rintro e w6 ⟨r6, rfl, ⟨hr60, hr61⟩, hD6, hg6⟩
    have hE6 := hE5.grown hg6 (by omega)
    have hB6 := hB5.grown hg6 hcl
    clear hg6 hE5 hB5 hD5
    go_wp2_with fail
    refine (next_on hD6 (Ext.refl _) 3 (by omega) (by omega)).mono ?_
    rintro e w7 ⟨r7, rfl, ⟨hr70, hr71⟩, hD7, hg7⟩
    have hE7 := hE6.grown hg7 (by omega)
    have hB7 := hB6.grown hg7 hcl
    clear hg7 hE6 hB6 hD6
    obtain ⟨⟨e0, e1, e2, e3, e4, e5, e6⟩, f0, f1, f2, f3, f4, f5, f6⟩ := blk7 hE7
    obtain ⟨⟨b0, b1, b2, b3, b4, b5, b6⟩, g0, g1, g2, g3, g4, g5, g6⟩ := blk7 hB7
    go_wp2_with fail
    refine bodyPost_ret (v := .agg #[.int .i64 1, .int .i64 r2, .int .i64 r4, .int .i64 r5, .int .i64 r6, .int .i64 r7, .int .i64 r3]) (by simp [results, Try.results52, go_sem, *]) rfl ?_
    exact ⟨⟨1, r2, r4, r5, r6, r7, r3⟩, rfl, ⟨⟨Int.le_refl 1, by show (1 : Int) ≤ 3; omega⟩, inI 1 (by omega) (by omega), inI r2 (by omega) (by omega), inI r4 (by omega) (by omega), inI r5 (by omega) (by omega), inI r6 (by omega) (by omega), inI r7 (by omega) (by omega), hr3⟩, by repeat (first | with_reducible exact hD7 | with_reducible refine Drew.set ?_ (by omega) hcl _)⟩
  · have h0' : (1 + r1 == 1) = false := by simp; omega
    clear h0
    obtain ⟨⟨b0, b1, b2, b3, b4, b5, b6⟩, g0, g1, g2, g3, g4, g5, g6⟩ := blk7 hB3
    go_wp2_with fail
    refine bodyPost_ret (v := .agg #[.int .i64 (1 + r1), .int .i64 r2, .int .i64 0, .int .i64 0, .int .i64 0, .int .i64 0, .int .i64 r3]) (by simp [results, Try.results52, go_sem, *]) rfl ?_
    exact ⟨⟨1 + r1, r2, 0, 0, 0, 0, r3⟩, rfl, ⟨⟨by show 1 ≤ 1 + r1; omega, by show 1 + r1 ≤ 3; omega⟩, inI (1 + r1) (by omega) (by omega), inI r2 (by omega) (by omega), inI 0 (by omega) (by omega), inI 0 (by omega) (by omega), inI 0 (by omega) (by omega), inI 0 (by omega) (by omega), hr3⟩, by repeat (first | with_reducible exact hD3 | with_reducible refine Drew.set ?_ (by omega) hcl _ | with_reducible refine Drew.alloc ?_ _)⟩

theorem event_on {c : Nat} {bs : List Int} {k : Nat} {w w1 w1' : World} (h : Drew c bs k w w1) (he : Ext w1 w1') :
    Calls Try.prog 52 #[.pointer (some ⟨c, 0, none⟩)] w1' (SomeEv (fun w2 => Drew c bs k w w2 ∧ w1'.grownBy w2 (some c))) := by
  obtain ⟨hg, k1, hC, hk, hl⟩ := h.post he
  refine (event_any c bs k1 w1' hC).mono ?_
  rintro e w2 ⟨ev, rfl, hr, hD⟩
  exact ⟨ev, rfl, hr, Drew.trans hg hk hl hD, hD.1⟩
theorem Ev.one (e : Ev) : ∀ u ∈ e.cells, u.oneCell' = true := by simp [Ev.cells, Value.oneCell']

theorem inI_of {z : Int} (h : (Lit.int .i64 z).wf = true) : InI64 z := by
  have := Go.bounds_i64 h
  exact ⟨by omega, by omega⟩
theorem open_evs {H : Type} {enc : TypeId × Value → H} {w : World} {base : Nat} {spare : Nat → Bool} {held : Bool} {a : Option Addr} {len cap : Nat} {d : DataW H} {p : List MemPlace} (h : DataW.Trod enc Try.prog w base spare held 55 (.slice a len cap) d p) :
    ∃ es : List Ev, len = es.length ∧ EvSeg w a es ∧ len ≤ cap ∧ cap ≤ maxLen ∧ ∀ e ∈ es, e.ok := by
  obtain ⟨fuel, hf⟩ := h
  obtain ⟨css, hl, hs, h1, h2, hc⟩ := open_seg 7 Try.underlying55 (by kernel_rfl) (by omega) (show DataW.trod enc Try.prog w base spare held fuel 55 [.slice a len cap] = some (d, p) from hf)
  obtain ⟨es, rfl, hok⟩ := lift_all' Ev.cells Ev.ok css (fun cs hcs => by
    obtain ⟨hl7, n, y, hy⟩ := hc cs hcs
    obtain ⟨z0, e0, g0⟩ := leaf_int (n := 3) (j := 0) Try.underlying3 hy (by kernel_rfl)
    obtain ⟨z1, e1, g1⟩ := leaf_int (n := 3) (j := 1) Try.underlying3 hy (by kernel_rfl)
    obtain ⟨z2, e2, g2⟩ := leaf_int (n := 3) (j := 2) Try.underlying3 hy (by kernel_rfl)
    obtain ⟨z3, e3, g3⟩ := leaf_int (n := 3) (j := 3) Try.underlying3 hy (by kernel_rfl)
    obtain ⟨z4, e4, g4⟩ := leaf_int (n := 3) (j := 4) Try.underlying3 hy (by kernel_rfl)
    obtain ⟨z5, e5, g5⟩ := leaf_int (n := 3) (j := 5) Try.underlying3 hy (by kernel_rfl)
    obtain ⟨z6, e6, g6⟩ := leaf_int (n := 3) (j := 6) Try.underlying3 hy (by kernel_rfl)
    refine ⟨⟨z0, z1, z2, z3, z4, z5, z6⟩, List.ext_getElem? fun j => ?_, inI_of g0, inI_of g1, inI_of g2, inI_of g3, inI_of g4, inI_of g5, inI_of g6⟩
    rcases j with _ | _ | _ | _ | _ | _ | _ | j
    · exact e0
    · exact e1
    · exact e2
    · exact e3
    · exact e4
    · exact e5
    · exact e6
    · rw [List.getElem?_eq_none (by omega), List.getElem?_eq_none (by simp [Ev.cells])])
  rw [List.length_map] at hl
  subst hl
  refine ⟨es, rfl, ?_, h1, h2, hok⟩
  show Seg w 7 a es.length (es.flatMap Ev.cells)
  rw [List.flatMap_def]
  exact hs

theorem open_events {H : Type} {enc : TypeId × Value → H} {w : World} {base : Nat} {spare : Nat → Bool} {held : Bool} {a : Option Addr} {len cap : Nat} {d : DataW H} {p : List MemPlace} (h : DataW.Trod enc Try.prog w base spare held 55 (.slice a len cap) d p) :
    ∃ es : List Ev, len = es.length ∧ EvSeg w a es ∧ len ≤ cap ∧ cap ≤ maxLen := by
  obtain ⟨fuel, hf⟩ := h
  obtain ⟨css, hl, hs, h1, h2, hc⟩ := open_seg 7 Try.underlying55 (by kernel_rfl) (by omega) (show DataW.trod enc Try.prog w base spare held fuel 55 [.slice a len cap] = some (d, p) from hf)
  obtain ⟨es, rfl⟩ := lift_all Ev.cells css (fun cs hcs => by
    obtain ⟨hl7, n, y, hy⟩ := hc cs hcs
    obtain ⟨z0, e0, _⟩ := leaf_int (n := 3) (j := 0) Try.underlying3 hy (by kernel_rfl)
    obtain ⟨z1, e1, _⟩ := leaf_int (n := 3) (j := 1) Try.underlying3 hy (by kernel_rfl)
    obtain ⟨z2, e2, _⟩ := leaf_int (n := 3) (j := 2) Try.underlying3 hy (by kernel_rfl)
    obtain ⟨z3, e3, _⟩ := leaf_int (n := 3) (j := 3) Try.underlying3 hy (by kernel_rfl)
    obtain ⟨z4, e4, _⟩ := leaf_int (n := 3) (j := 4) Try.underlying3 hy (by kernel_rfl)
    obtain ⟨z5, e5, _⟩ := leaf_int (n := 3) (j := 5) Try.underlying3 hy (by kernel_rfl)
    obtain ⟨z6, e6, _⟩ := leaf_int (n := 3) (j := 6) Try.underlying3 hy (by kernel_rfl)
    refine ⟨⟨z0, z1, z2, z3, z4, z5, z6⟩, List.ext_getElem? fun j => ?_⟩
    rcases j with _ | _ | _ | _ | _ | _ | _ | j
    · exact e0
    · exact e1
    · exact e2
    · exact e3
    · exact e4
    · exact e5
    · exact e6
    · rw [List.getElem?_eq_none (by omega), List.getElem?_eq_none (by simp [Ev.cells])])
  rw [List.length_map] at hl
  subst hl
  refine ⟨es, rfl, ?_, h1, h2⟩
  show Seg w 7 a es.length (es.flatMap Ev.cells)
  rw [List.flatMap_def]
  exact hs
end Go.Proofs.Ytcljdkjlfciacaa
