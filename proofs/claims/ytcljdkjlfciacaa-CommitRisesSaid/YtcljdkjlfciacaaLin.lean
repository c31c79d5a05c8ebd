/- Lineages and lists of ints in memory. No statement of the seat is proved here. -/
import Derived.Test.YtcljdkjlfciacaaPastPlain
import Derived.Test.YtcljdkjlfciacaaTabC
import Derived.Test.YtcljdkjlfciacaaBase3
namespace Go.Proofs.Ytcljdkjlfciacaa
open Go.RowKit
set_option linter.unusedVariables false

/-- a lineage as it lies in a list of lineages -/
structure Rw where
  A : Option Addr
  c : Nat
  es : List Ev
def Rw.cells (r : Rw) : List Value := [.slice r.A r.es.length r.c]
theorem Rw.len (r : Rw) : r.cells.length = 1 := rfl
theorem Rw.one (r : Rw) : ∀ u ∈ r.cells, u.oneCell' = true := by simp [Rw.cells, Value.oneCell']
/-- the slice is sound -/
def Rw.fine (W : World) (r : Rw) : Prop := EvSeg W r.A r.es ∧ r.es.length ≤ r.c ∧ r.c ≤ maxLen
def LinSeg (W : World) (A : Option Addr) (R : List Rw) : Prop := Seg W 1 A R.length (R.flatMap Rw.cells) ∧ ∀ r ∈ R, r.fine W
def evsL (R : List Rw) : Lin := R.map Rw.es
theorem evsL_len (R : List Rw) : (evsL R).length = R.length := by simp [evsL]
theorem evsL_row {R : List Rw} {q : Nat} (hq : q < R.length) : rowL (evsL R) q = R[q].es := by
  unfold rowL evsL
  rw [List.getD_eq_getElem?_getD, List.getElem?_map, List.getElem?_eq_getElem hq]
  rfl
theorem LinSeg.ext {W W' : World} {A : Option Addr} {R : List Rw} (h : LinSeg W A R) (hE : Ext W W') : LinSeg W' A R := ⟨h.1.ext hE, fun r hr => ⟨(h.2 r hr).1.ext hE, (h.2 r hr).2⟩⟩
theorem LinSeg.at_ {W : World} {A : Option Addr} {R : List Rw} (h : LinSeg W A R) {q : Nat} (hq : q < R.length) : ∃ b off, A = some ⟨b, off, none⟩ ∧ W.cell? ⟨b, off + q, none⟩ = some (.slice R[q].A R[q].es.length R[q].c) := by
  obtain ⟨b, off, hA, _, hc⟩ := Seg.at_ h.1 Rw.len hq
  have := hc 0 _ rfl
  exact ⟨b, off, hA, by simpa using this⟩
theorem LinSeg.row {W : World} {A : Option Addr} {R : List Rw} (h : LinSeg W A R) {q : Nat} (hq : q < R.length) : EvSeg W R[q].A R[q].es ∧ R[q].es.length ≤ R[q].c ∧ R[q].c ≤ maxLen := h.2 _ (List.getElem_mem hq)
theorem Ev.at_ {w : World} {A : Option Addr} {l : List Ev} (h : EvSeg w A l) {j : Nat} (hj : j < l.length) :
    ∃ b off, A = some ⟨b, off, none⟩ ∧ w.cell? ⟨b, off + j * 7, none⟩ = some (.int .i64 l[j].kind) ∧ w.cell? ⟨b, off + j * 7 + 1, none⟩ = some (.int .i64 l[j].inc) ∧ w.cell? ⟨b, off + j * 7 + 2, none⟩ = some (.int .i64 l[j].frm) ∧ w.cell? ⟨b, off + j * 7 + 3, none⟩ = some (.int .i64 l[j].sinc) ∧ w.cell? ⟨b, off + j * 7 + 4, none⟩ = some (.int .i64 l[j].sidx) ∧ w.cell? ⟨b, off + j * 7 + 5, none⟩ = some (.int .i64 l[j].ord) ∧ w.cell? ⟨b, off + j * 7 + 6, none⟩ = some (.int .i64 l[j].val) := by
  obtain ⟨b, off, hA, _, hc⟩ := Seg.at_ h Ev.len hj
  exact ⟨b, off, hA, hc 0 _ rfl, hc 1 _ rfl, hc 2 _ rfl, hc 3 _ rfl, hc 4 _ rfl, hc 5 _ rfl, hc 6 _ rfl⟩

/-- a list of ints in a block of its own -/
abbrev VecB (w : World) (g : Nat) (X : List Int) : Prop := Blk w g 3 (X.flatMap Iv).toArray
theorem vec_size (X : List Int) : (X.flatMap Iv).toArray.size = X.length := by rw [List.size_toArray, flat_len Iv 1 Iv.len]; omega
theorem VecB.at_ {w : World} {g : Nat} {X : List Int} (h : VecB w g X) {q : Nat} (hq : q < X.length) : w.cell? ⟨g, q, none⟩ = some (.int .i64 (elX X q)) := by
  have hi : X[q]? = some (elX X q) := by unfold elX; rw [List.getD_eq_getElem?_getD, List.getElem?_eq_getElem hq]; rfl
  have := Blk.tabAt h Iv.len hi (j := 0) (by omega) rfl
  simpa using this
theorem VecB.frz {w : World} {g : Nat} {X : List Int} (h : VecB w g X) (q : Nat) : w.frozen? ⟨g, q, none⟩ = false := h.frozen q
theorem VecB.set {w : World} {g : Nat} {X : List Int} (h : VecB w g X) {q : Nat} (hq : q < X.length) (v : Int) : VecB (w.setCell ⟨g, q, none⟩ (.int .i64 v)) g (X.set q v) := by
  have := Blk.setAt h (f := Iv) (s := 1) (by omega) Iv.len hq v
  simpa [World.setCells, Iv] using this
theorem VecB.other {w : World} {g g' o : Nat} {X : List Int} (h : VecB w g X) (v : Value) (hne : g ≠ g') : VecB (w.setCell ⟨g', o, none⟩ v) g X :=
  (Below.heap_setCell w ⟨g', o, none⟩ v g hne).trans h
theorem VecB.seg {w : World} {g : Nat} {X : List Int} (h : VecB w g X) : IntSeg w (some ⟨g, 0, none⟩) X := by
  refine ⟨flat_len Iv 1 Iv.len X, fun _ => ⟨g, 0, rfl, h.lt, fun j u hu => ?_⟩⟩
  rw [Nat.zero_add, h.cell, List.getElem?_toArray, hu]
theorem Seg.ofBlk {W : World} {g : Nat} {t : TypeId} {cs : List Value} {s n : Nat} (h : Blk W g t cs.toArray) (hl : cs.length = n * s) : Seg W s (some ⟨g, 0, none⟩) n cs :=
  ⟨hl, fun _ => ⟨g, 0, rfl, h.lt, fun j u hu => by rw [Nat.zero_add, h.cell, List.getElem?_toArray, hu]⟩⟩
theorem infoInt : (Try.prog.info? 3).map (fun i => (i.zero, i.size, i.bytes)) = some (some (.int .i64 0), 1, 8) := by kernel_rfl
theorem mk_ints (n : Nat) (hn : n ≤ 1000) (w : World) : (Instr.makeSlice 28 (.int .i64 (n : Int)) (.int .i64 (n : Int))).run Try.prog w =
    .ok (.slice (some ⟨w.heap.size, 0, none⟩) n n) (w.alloc (.cells ((List.replicate n (0 : Int)).flatMap Iv).toArray 3)) := by
  obtain ⟨i0, hi, hz0, hz1, hz2⟩ := info_parts infoInt
  rw [run_make w 28 3 i0 _ Try.underlying28 hi hz0 .i64 .i64 _ _ (by omega) (Int.le_refl _) (by rw [hz2]; omega) (by omega)]
  rw [hz1, show ((n : Int)).toNat = n by omega, made_flat Iv 1 (by omega) Iv.len 0 (Value.int .i64 0).cells rfl]

/-- what size gives -/
def szL : List Rw → Int → Int
  | [], n => n
  | r :: R, n => if n ≤ 60 then szL R (IntKind.i64.wrap (n + (r.es.length : Int))) else n
end Go.Proofs.Ytcljdkjlfciacaa
