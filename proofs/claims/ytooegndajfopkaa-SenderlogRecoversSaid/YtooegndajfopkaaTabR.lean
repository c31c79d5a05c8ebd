/- Tables of copies in memory, maps from int to int. No statement of the seat is proved here. -/
import Derived.Test.YtooegndajfopkaaCopiesR
import Derived.Test.YtooegndajfopkaaMapR
import Derived.Test.YtooegndajfopkaaRcCmp
namespace Go.Proofs.Ytooegndajfopkaa
open Go.RowKit Go.Maps
set_option linter.unusedVariables false

theorem Cp.at_ {w : World} {A : Option Addr} {l : List Cp} (h : CpSeg w A l) {j : Nat} (hj : j < l.length) :
    ∃ b off, A = some ⟨b, off, none⟩ ∧ w.cell? ⟨b, off + j * 4, none⟩ = some (.int .i64 l[j].to) ∧ w.cell? ⟨b, off + j * 4 + 1, none⟩ = some (.int .i64 l[j].ssn) ∧ w.cell? ⟨b, off + j * 4 + 2, none⟩ = some (.int .i64 l[j].val) ∧ w.cell? ⟨b, off + j * 4 + 3, none⟩ = some (.int .i64 l[j].rsn) := by
  obtain ⟨b, off, hA, _, hc⟩ := Seg.at_ h Cp.len hj
  exact ⟨b, off, hA, hc 0 _ rfl, hc 1 _ rfl, hc 2 _ rfl, hc 3 _ rfl⟩
def Cp.ok (c : Cp) : Prop := InI64 c.to ∧ InI64 c.ssn ∧ InI64 c.val ∧ InI64 c.rsn

/-! ### a table: rows of copies -/
structure TR where
  A : Option Addr
  c : Nat
  cs : List Cp
def TR.cells (r : TR) : List Value := [.slice r.A r.cs.length r.c]
theorem TR.len (r : TR) : r.cells.length = 1 := rfl
theorem TR.one (r : TR) : ∀ u ∈ r.cells, u.oneCell' = true := by simp [TR.cells, Value.oneCell']
def TR.fine (W : World) (r : TR) : Prop := CpSeg W r.A r.cs ∧ r.cs.length ≤ r.c ∧ r.c ≤ maxLen
def TabSeg (W : World) (A : Option Addr) (R : List TR) : Prop := Seg W 1 A R.length (R.flatMap TR.cells) ∧ ∀ r ∈ R, r.fine W
theorem TabSeg.ext {W W' : World} {A : Option Addr} {R : List TR} (h : TabSeg W A R) (hE : Ext W W') : TabSeg W' A R := ⟨h.1.ext hE, fun r hr => ⟨(h.2 r hr).1.ext hE, (h.2 r hr).2⟩⟩
theorem TabSeg.at_ {W : World} {A : Option Addr} {R : List TR} (h : TabSeg W A R) {q : Nat} (hq : q < R.length) : ∃ b off, A = some ⟨b, off, none⟩ ∧ W.cell? ⟨b, off + q, none⟩ = some (.slice R[q].A R[q].cs.length R[q].c) := by
  obtain ⟨b, off, hA, _, hc⟩ := Seg.at_ h.1 TR.len hq
  have := hc 0 _ rfl
  exact ⟨b, off, hA, by simpa using this⟩
theorem TabSeg.row {W : World} {A : Option Addr} {R : List TR} (h : TabSeg W A R) {q : Nat} (hq : q < R.length) : CpSeg W R[q].A R[q].cs ∧ R[q].cs.length ≤ R[q].c ∧ R[q].c ≤ maxLen := h.2 _ (List.getElem_mem hq)
theorem open_copies_ok {H : Type} {enc : TypeId × Value → H} {w : World} {base : Nat} {spare : Nat → Bool} {held : Bool} {a : Option Addr} {len cap : Nat} {d : DataW H} {p : List MemPlace} (h : DataW.Trod enc Try.prog w base spare held 40 (.slice a len cap) d p) :
    ∃ l : List Cp, len = l.length ∧ CpSeg w a l ∧ len ≤ cap ∧ cap ≤ maxLen ∧ ∀ c ∈ l, c.ok := by
  obtain ⟨fuel, hf⟩ := h
  obtain ⟨css, hl, hs, h1, h2, hc⟩ := open_seg 4 Try.underlying40 (by kernel_rfl) (by omega) (show DataW.trod enc Try.prog w base spare held fuel 40 [.slice a len cap] = some (d, p) from hf)
  obtain ⟨es, rfl, hok⟩ := lift_all' Cp.cells Cp.ok css (fun cs hcs => by
    obtain ⟨hl7, n, y, hy⟩ := hc cs hcs
    obtain ⟨z0, e0, k0⟩ := leaf_int (n := 3) (j := 0) Try.underlying3 hy (by kernel_rfl)
    obtain ⟨z1, e1, k1⟩ := leaf_int (n := 3) (j := 1) Try.underlying3 hy (by kernel_rfl)
    obtain ⟨z2, e2, k2⟩ := leaf_int (n := 3) (j := 2) Try.underlying3 hy (by kernel_rfl)
    obtain ⟨z3, e3, k3⟩ := leaf_int (n := 3) (j := 3) Try.underlying3 hy (by kernel_rfl)
    refine ⟨⟨z0, z1, z2, z3⟩, List.ext_getElem? fun j => ?_, inI_of k0, inI_of k1, inI_of k2, inI_of k3⟩
    rcases j with _ | _ | _ | _ | j
    · exact e0
    · exact e1
    · exact e2
    · exact e3
    · rw [List.getElem?_eq_none (by omega), List.getElem?_eq_none (by simp [Cp.cells])])
  rw [List.length_map] at hl
  subst hl
  refine ⟨es, rfl, ?_, h1, h2, hok⟩
  show Seg w 4 a es.length (es.flatMap Cp.cells)
  rw [List.flatMap_def]
  exact hs
theorem open_tables {H : Type} {enc : TypeId × Value → H} {w : World} {base : Nat} {spare : Nat → Bool} {held : Bool} {a : Option Addr} {len cap : Nat} {d : DataW H} {p : List MemPlace} (h : DataW.Trod enc Try.prog w base spare held 46 (.slice a len cap) d p) :
    ∃ R : List TR, len = R.length ∧ TabSeg w a R ∧ len ≤ cap ∧ cap ≤ maxLen ∧ ∀ r ∈ R, ∀ c ∈ r.cs, c.ok := by
  obtain ⟨fuel, hf⟩ := h
  obtain ⟨css, hl, hs, h1, h2, hc⟩ := open_seg 1 Try.underlying46 (by kernel_rfl) (by omega) (show DataW.trod enc Try.prog w base spare held fuel 46 [.slice a len cap] = some (d, p) from hf)
  obtain ⟨R, rfl, hok⟩ := lift_all' TR.cells (fun r => r.fine w ∧ ∀ c ∈ r.cs, c.ok) css (fun cs hcs => by
    obtain ⟨hl1, n, y, hy⟩ := hc cs hcs
    have hsl : ∃ A m c, cs = [.slice A m c] := by
      rcases Go.Deep.open_slice Try.underlying40 hy with ⟨hcs, _⟩ | ⟨a', len', cap', m, n, D, Pl, hcs, _⟩
      · exact ⟨_, _, _, hcs⟩
      · exact ⟨_, _, _, hcs⟩
    obtain ⟨A, m, c, rfl⟩ := hsl
    obtain ⟨es, rfl, he, hc1, hc2, ho⟩ := open_copies_ok (d := y.1) (p := y.2) ⟨n, hy⟩
    exact ⟨⟨A, c, es⟩, rfl, ⟨he, hc1, hc2⟩, ho⟩)
  rw [List.length_map] at hl
  subst hl
  refine ⟨R, rfl, ⟨?_, fun r hr => (hok r hr).1⟩, h1, h2, fun r hr => (hok r hr).2⟩
  show Seg w 1 a R.length (R.flatMap TR.cells)
  rw [List.flatMap_def]
  exact hs

/-! ### maps from int to int -/
theorem zeroI (w : World) : (zeroValue 3).run Try.prog w = .ok (.int .i64 0) w := Try.zeroValue3 w
/-- block b is a map of at most n entries that answers as f does -/
def IMap (w : World) (b n : Nat) (f : Int → Option Nat) : Prop :=
  ∃ D : DataW Unit, w.ownsMap Try.prog 3 (plainElem Try.prog 3) b n D ∧ IsMap D ∧ ∀ k, InI64 k → ∀ zd, D.atKey (.int .i64 k) zd = match f k with | none => zd | some v => .lit (.int .i64 v)
theorem IMap.made (w : World) : IMap (w.alloc (.map #[] 0)) w.heap.size 0 (fun _ => none) :=
  ⟨.map [], World.ownsMap_made w _ _ _, isMap_empty, fun _ _ _ => rfl⟩
theorem IMap.kept {w w' : World} {b n : Nat} {f : Int → Option Nat} {row : Option Nat} (h : IMap w b n f) (hg : w.grownBy w' row) (hne : some b ≠ row) : IMap w' b n f := by
  obtain ⟨D, h1, h2, h3⟩ := h
  exact ⟨D, h1.kept hg hne, h2, h3⟩
theorem IMap.ext {w w' : World} {b n : Nat} {f : Int → Option Nat} (h : IMap w b n f) (hg : Ext w w') : IMap w' b n f := h.kept (row := none) (grownBy_ext hg) (by simp)
theorem IMap.lt {w : World} {b n : Nat} {f : Int → Option Nat} (h : IMap w b n f) : b < w.heap.size := by
  obtain ⟨D, h1, _⟩ := h
  exact h1.lt
theorem IMap.mono {w : World} {b n m : Nat} {f : Int → Option Nat} (h : IMap w b n f) (hm : n ≤ m) : IMap w b m f := by
  obtain ⟨D, h1, h2, h3⟩ := h
  exact ⟨D, h1.mono hm, h2, h3⟩
theorem IMap.look {w : World} {b n : Nat} {f : Int → Option Nat} (h : IMap w b n f) {k : Int} (hk : InI64 k) :
    (Instr.lookup 60 (.map (some b)) (.int .i64 k) true).run Try.prog w = .ok (.tuple #[.int .i64 ((f k).getD 0 : Nat), .bool (f k).isSome]) w := by
  obtain ⟨D, ⟨es, clock, hb, F, _, rfl⟩, h2, h3⟩ := h
  rcases Maps.fit_look true intKey Try.underlying60 (zeroI w) hb F (keyOf_i hk) with ⟨hrun, _, hat⟩ | ⟨e0, y, _, _, hrun, hRv, hat, _⟩
  · have hn : f k = none := by
      cases hf : f k with
      | none => rfl
      | some v =>
        have e1 := (hat (.lit (.bool true))).symm.trans (h3 k hk (.lit (.bool true)))
        rw [hf] at e1
        cases e1
    rw [hrun, hn]
    rfl
  · obtain ⟨v, hv, hy, _⟩ := plainElem_int_inv Try.underlying3 hRv
    cases hf : f k with
    | none =>
      have e1 := (hat (.lit (.bool true))).symm.trans (h3 k hk (.lit (.bool true)))
      have e2 := (hat (.lit (.bool false))).symm.trans (h3 k hk (.lit (.bool false)))
      rw [hf] at e1 e2
      simp only at e1 e2
      rw [e1] at e2
      cases e2
    | some u =>
      have e1 := (hat (.lit (.bool true))).symm.trans (h3 k hk (.lit (.bool true)))
      rw [hf, hy] at e1
      simp only at e1
      injection e1 with e1
      injection e1 with _ e1
      rw [hrun, hv, e1]
      rfl
theorem IMap.put {w : World} {b n : Nat} {f : Int → Option Nat} (h : IMap w b n f) {k : Int} (hk : InI64 k) (x : Nat) (hx : x ≤ 1000000) (hn : n < maxLen) :
    ∃ w', (Instr.mapUpdate 60 (.map (some b)) (.int .i64 k) (.int .i64 x)).run Try.prog w = .ok () w' ∧ IMap w' b (n + 1) (fun j => if j = k then some x else f j) ∧ w.grownBy w' (some b) := by
  obtain ⟨D, h1, h2, h3⟩ := h
  obtain ⟨w', hrun, ho, hg⟩ := h1.update intKey Try.underlying60 hn (keyOf_i hk) (plainElem_int Try.underlying3 (wf_of (k := (x : Int)) ⟨by omega, by omega⟩))
  refine ⟨w', hrun, ⟨_, ho, h2.put _ _, fun j hj zd => ?_⟩, hg⟩
  by_cases e : j = k
  · subst e
    rw [atKey_put_same h2 (by first | exact ⟨_, _, rfl⟩ | trivial | simp [WideAt.IsKeyLit])]
    simp
  · rw [atKey_put_other (by intro h; injection h; contradiction), h3 j hj]
    simp only [e, if_false]
end Go.Proofs.Ytooegndajfopkaa
