/- MergeDd, RMergeDd, FrugalPlain, RAdd1, joined. No statement of the seat is proved here. -/
import Derived.Test.YtfnnoncdocghjaaK2
import Derived.Test.YtfnnoncdocghjaaSortLayD
import Derived.Test.YtfnnoncdocghjaaGrowLayD
import Derived.Test.YtfnnoncdocghjaaK4
import Derived.Test.YtfnnoncdocghjaaK1
import Derived.Lib.QuietBelow
import Derived.Lib.SliceRun
import Derived.Lib.RowBridge
import Derived.StillTailTactics
import Derived.Deep.CutRange
import Derived.Test.YtfnnoncdocghjaaK3
namespace Go.Proofs.Ytfnnoncdocghjaa.Dd
open Go.RowKit Go.Shelf Go.Lib Go.Sort
set_option linter.unusedVariables false
set_option maxRecDepth 100000

theorem Dt.cellsS {W : World} {b off : Nat} {L : List Dt} (h : DtSeg W (some ⟨b, off, none⟩) L) {k : Nat} (hk : k < L.length) {x : Dt} (hx : L[k] = x) : W.cell? ⟨b, off + k * 9, none⟩ = some (.int .i64 x.proc) ∧ W.cell? ⟨b, off + k * 9 + 1, none⟩ = some (.int .i64 x.index) ∧ W.cell? ⟨b, off + k * 9 + 2, none⟩ = some (.int .i64 x.ev.kind) ∧ W.cell? ⟨b, off + k * 9 + 3, none⟩ = some (.int .i64 x.ev.inc) ∧ W.cell? ⟨b, off + k * 9 + 4, none⟩ = some (.int .i64 x.ev.frm) ∧ W.cell? ⟨b, off + k * 9 + 5, none⟩ = some (.int .i64 x.ev.sinc) ∧ W.cell? ⟨b, off + k * 9 + 6, none⟩ = some (.int .i64 x.ev.sidx) ∧ W.cell? ⟨b, off + k * 9 + 7, none⟩ = some (.int .i64 x.ev.ord) ∧ W.cell? ⟨b, off + k * 9 + 8, none⟩ = some (.int .i64 x.ev.val) := by
  obtain ⟨b', off', hA, _, hc⟩ := Seg.at_ h Dt.len hk
  injection hA with hA
  injection hA with h1 h2
  subst h1 h2 hx
  exact ⟨hc 0 _ rfl, hc 1 _ rfl, hc 2 _ rfl, hc 3 _ rfl, hc 4 _ rfl, hc 5 _ rfl, hc 6 _ rfl, hc 7 _ rfl, hc 8 _ rfl⟩
theorem grownS {W : World} {g : Nat} {L : List Dt} (h : DtSeg W (some ⟨g, 0, none⟩) L) {i : Nat} (hi : i < L.length) {x : Dt} (hx : L[i] = x) (d : Nat) (os : Array Obj) :
    (grow (redrawn W d) os).cell? ⟨g, i * 9, none⟩ = some (.int .i64 x.proc) ∧ (grow (redrawn W d) os).cell? ⟨g, i * 9 + 1, none⟩ = some (.int .i64 x.index) ∧ (grow (redrawn W d) os).cell? ⟨g, i * 9 + 2, none⟩ = some (.int .i64 x.ev.kind) ∧ (grow (redrawn W d) os).cell? ⟨g, i * 9 + 3, none⟩ = some (.int .i64 x.ev.inc) ∧ (grow (redrawn W d) os).cell? ⟨g, i * 9 + 4, none⟩ = some (.int .i64 x.ev.frm) ∧ (grow (redrawn W d) os).cell? ⟨g, i * 9 + 5, none⟩ = some (.int .i64 x.ev.sinc) ∧ (grow (redrawn W d) os).cell? ⟨g, i * 9 + 6, none⟩ = some (.int .i64 x.ev.sidx) ∧ (grow (redrawn W d) os).cell? ⟨g, i * 9 + 7, none⟩ = some (.int .i64 x.ev.ord) ∧ (grow (redrawn W d) os).cell? ⟨g, i * 9 + 8, none⟩ = some (.int .i64 x.ev.val) := by
  have := Dt.cellsS (h.ext (below_regrown W d os)) hi hx
  simpa only [Nat.zero_add] using this
theorem grownT {W : World} {b off : Nat} {L : List Dt} (h : DtSeg W (some ⟨b, off, none⟩) L) {i : Nat} (hi : i < L.length) {x : Dt} (hx : L[i] = x) (d : Nat) (os : Array Obj) :
    (grow (redrawn W d) os).cell? ⟨b, off + i * 9, none⟩ = some (.int .i64 x.proc) ∧ (grow (redrawn W d) os).cell? ⟨b, off + i * 9 + 1, none⟩ = some (.int .i64 x.index) ∧ (grow (redrawn W d) os).cell? ⟨b, off + i * 9 + 2, none⟩ = some (.int .i64 x.ev.kind) ∧ (grow (redrawn W d) os).cell? ⟨b, off + i * 9 + 3, none⟩ = some (.int .i64 x.ev.inc) ∧ (grow (redrawn W d) os).cell? ⟨b, off + i * 9 + 4, none⟩ = some (.int .i64 x.ev.frm) ∧ (grow (redrawn W d) os).cell? ⟨b, off + i * 9 + 5, none⟩ = some (.int .i64 x.ev.sinc) ∧ (grow (redrawn W d) os).cell? ⟨b, off + i * 9 + 6, none⟩ = some (.int .i64 x.ev.sidx) ∧ (grow (redrawn W d) os).cell? ⟨b, off + i * 9 + 7, none⟩ = some (.int .i64 x.ev.ord) ∧ (grow (redrawn W d) os).cell? ⟨b, off + i * 9 + 8, none⟩ = some (.int .i64 x.ev.val) :=
  Dt.cellsS (h.ext (below_regrown W d os)) hi hx
theorem grownB {W : World} {g : Nat} {t : TypeId} {x : Dt} (h : Blk W g t x.cells.toArray) (d : Nat) (os : Array Obj) :
    (grow (redrawn W d) os).cell? ⟨g, 0, none⟩ = some (.int .i64 x.proc) ∧ (grow (redrawn W d) os).cell? ⟨g, 1, none⟩ = some (.int .i64 x.index) ∧ (grow (redrawn W d) os).cell? ⟨g, 2, none⟩ = some (.int .i64 x.ev.kind) ∧ (grow (redrawn W d) os).cell? ⟨g, 3, none⟩ = some (.int .i64 x.ev.inc) ∧ (grow (redrawn W d) os).cell? ⟨g, 4, none⟩ = some (.int .i64 x.ev.frm) ∧ (grow (redrawn W d) os).cell? ⟨g, 5, none⟩ = some (.int .i64 x.ev.sinc) ∧ (grow (redrawn W d) os).cell? ⟨g, 6, none⟩ = some (.int .i64 x.ev.sidx) ∧ (grow (redrawn W d) os).cell? ⟨g, 7, none⟩ = some (.int .i64 x.ev.ord) ∧ (grow (redrawn W d) os).cell? ⟨g, 8, none⟩ = some (.int .i64 x.ev.val) :=
  blk9 (h.ext (below_regrown W d os))

instance : Inhabited Dt := ⟨⟨0, 0, ⟨0, 0, 0, 0, 0, 0, 0⟩⟩⟩
theorem grown_of_extD {w w' : World} (h : ExtD w w') : ∃ q os', w' = grow (w.drewN q) os' := by
  obtain ⟨p, hp⟩ := regrown_of_below h.1
  refine ⟨w'.drawn - w.drawn, p.os, ?_⟩
  have e : w'.drawn = p.d := by rw [hp]; rfl
  have hd : redrawn w p.d = w.drewN (w'.drawn - w.drawn) := by
    have := h.2
    unfold redrawn World.drewN
    congr 1
    omega
  rw [hp]
  conv => lhs; rw [hd]
  rw [hp]
theorem swoD : SWO (ltOf cmpD) where
  irrefl x := by have := cmpD_anti x x; simp [ltOf]; omega
  trans x y z h1 h2 := by simp only [ltOf, decide_eq_true_eq] at *; exact cmpD_lt_trans h1 h2
  ntrans x y z h1 h2 := by
    simp only [ltOf, decide_eq_false_iff_not] at *
    have a1 := cmpD_anti x y
    have a2 := cmpD_anti y z
    have a3 := cmpD_anti x z
    have := cmpD_trans z y x (by omega) (by omega)
    omega
theorem cmpLaysD (blk off size : Nat) (w : World) : CmpLays Try.prog 63 #[] Dt.cells 9 cmpD blk off size w :=
  fun _ _ _ _ x y => (compare_d x y _).mono fun _ _ h => ⟨h.1, grown_of_extD h.2⟩
theorem isAggD (w : World) : (isAgg 32).run Try.prog w = .ok true w := by
  simp [isAgg, run_underlying, Try.underlying32]
theorem sizeD (w : World) : (Go.sizeOf 32).run Try.prog w = .ok 9 w := by
  obtain ⟨i0, hi, hz0, hz1, hz2⟩ := info_parts (show (Try.prog.info? 32).map (fun i => (i.zero, i.size, i.bytes)) = some (some (.agg #[.int .i64 0, .int .i64 0, .int .i64 0, .int .i64 0, .int .i64 0, .int .i64 0, .int .i64 0, .int .i64 0, .int .i64 0]), 9, 72) by kernel_rfl)
  simp [Go.sizeOf, typeInfo, hi, hz1]
theorem sort_any (blk cap : Nat) (l : List Dt) (w : World) (hH : HoldsK Dt.cells 9 w blk 0 l.toArray) (hblk : blk < w.heap.size) (hsz : l.length ≤ 1000) :
    Calls Try.prog 70 #[.slice (some ⟨blk, 0, none⟩) l.length cap, .func (.func 63) #[] #[]] w fun e w' => e = .returned (.tuple #[]) ∧ ∃ n os, w' = sortWorldK Dt.cells 9 w blk 0 n (sortD l).toArray os := by
  have eg : ∀ args w, (callFunc 63 args).run Try.prog w = .ok (.enter 63 args) w := enters_of Try.func63 (by kernel_rfl) rfl
  exact AnyQ.slices_SortFunc_total Try.sortDetD 9 isAggD sizeD Dt.cells Dt.len Dt.one cmpD swoD 63 #[] blk 0 cap l.toArray w eg (cmpLaysD blk 0 _ w) hH hblk (by simp; omega) (fun x y h1 h2 => by
    simp only [ltOf, decide_eq_false_iff_not] at h1 h2
    have := cmpD_anti x y
    exact (cmpD_zero x y).1 (by omega))

def CellRow (w : World) (g : Nat) (xs : List Value) : Prop := g < w.heap.size ∧ ∀ j u, xs[j]? = some u → w.cell? ⟨g, j, none⟩ = some u ∧ w.frozen? ⟨g, j, none⟩ = false
abbrev Row (w : World) (g : Nat) (l : List Dt) : Prop := CellRow w g (l.flatMap Dt.cells)
theorem size_setCells (g : Nat) : ∀ (vs : List Value) (o : Nat) (w : World), (w.setCells g o vs).heap.size = w.heap.size
  | [], _, _ => rfl
  | v :: r, o, w => by rw [World.setCells, size_setCells g r]; simp
theorem setAll_len : ∀ (vs : List Value) (xs : List Value) (o : Nat), (setAll xs o vs).length = xs.length
  | [], _, _ => rfl
  | v :: vs, xs, o => by rw [setAll, setAll_len vs]; simp
theorem CellRow.sets {w : World} {g : Nat} {xs : List Value} (h : CellRow w g xs) (vs : List Value) (o : Nat) (hl : o + vs.length ≤ xs.length) : CellRow (w.setCells g o vs) g (setAll xs o vs) := by
  refine ⟨by rw [size_setCells]; exact h.1, fun j u hu => ?_⟩
  have hj : j < xs.length := by
    have := (List.getElem?_eq_some_iff.1 hu).1
    rwa [setAll_len] at this
  refine ⟨?_, by rw [World.frozen?_setCells]; exact (h.2 j xs[j] (List.getElem?_eq_getElem hj)).2⟩
  rw [setAll_get] at hu
  by_cases hin : o ≤ j ∧ j < o + vs.length
  · rw [if_pos ⟨hin.1, hin.2, hj⟩] at hu
    have := World.cell?_setCells_in g vs o w (fun i hi => by rw [(h.2 (o + i) (xs[o + i]'(by omega)) (List.getElem?_eq_getElem (by omega))).1]; rfl) (j - o) (by omega)
    rw [show o + (j - o) = j by omega] at this
    rw [this, ← List.getElem?_eq_getElem]; exact hu
  · rw [if_neg (fun hh => hin ⟨hh.1, hh.2.1⟩)] at hu
    rw [World.cell?_setCells_out _ _ _ _ _ (fun _ _ => by show j < o ∨ o + vs.length ≤ j; omega)]
    exact (h.2 j u hu).1
theorem Row.put {w : World} {g : Nat} {l : List Dt} (h : Row w g l) {i : Nat} (hi : i < l.length) (d : Dt) : Row (w.setCells g (i * 9) d.cells) g (l.set i d) := by
  have := CellRow.sets h d.cells (i * 9) (by rw [flat_len Dt.cells 9 Dt.len, Dt.len]; omega)
  rwa [setAll_flat Dt.cells 9 (by omega) Dt.len l i d hi] at this
theorem CellRow.ext {w w' : World} {g : Nat} {xs : List Value} (h : CellRow w g xs) (hE : Ext w w') : CellRow w' g xs :=
  ⟨Nat.lt_of_lt_of_le h.1 hE.size, fun j u hu => ⟨(hE.cell (p := ⟨g, j, none⟩) h.1).trans (h.2 j u hu).1, (hE.frozen (p := ⟨g, j, none⟩) h.1).trans (h.2 j u hu).2⟩⟩
theorem take_flat (l : List Dt) (k : Nat) (hk : k ≤ l.length) : (l.take k).flatMap Dt.cells = (l.flatMap Dt.cells).take (k * 9) := by
  have e : l.flatMap Dt.cells = (l.take k).flatMap Dt.cells ++ (l.drop k).flatMap Dt.cells := by rw [← List.flatMap_append, List.take_append_drop]
  have hA : ((l.take k).flatMap Dt.cells).length = k * 9 := by rw [flat_len Dt.cells 9 Dt.len, List.length_take, Nat.min_eq_left hk]
  rw [e, ← hA]
  exact List.take_left.symm
theorem Row.pre {w : World} {g : Nat} {l : List Dt} (h : Row w g l) {k : Nat} (hk : k ≤ l.length) : Row w g (l.take k) :=
  ⟨h.1, fun j u hu => by
    rw [take_flat l k hk] at hu
    have hj := (List.getElem?_eq_some_iff.1 hu).1
    rw [List.getElem?_take_of_lt (by rw [List.length_take] at hj; omega)] at hu
    exact h.2 j u hu⟩
theorem Row.seg {w : World} {g : Nat} {l : List Dt} (h : Row w g l) : DtSeg w (some ⟨g, 0, none⟩) l :=
  ⟨flat_len Dt.cells 9 Dt.len l, fun _ => ⟨g, 0, rfl, h.1, fun j u hu => by rw [Nat.zero_add]; exact (h.2 j u hu).1⟩⟩
theorem Row.at_ {w : World} {g : Nat} {l : List Dt} (h : Row w g l) {i : Nat} (hi : i < l.length) :
    w.cell? ⟨g, i * 9, none⟩ = some (.int .i64 l[i].proc) ∧ w.cell? ⟨g, i * 9 + 1, none⟩ = some (.int .i64 l[i].index) ∧ w.cell? ⟨g, i * 9 + 2, none⟩ = some (.int .i64 l[i].ev.kind) ∧ w.cell? ⟨g, i * 9 + 3, none⟩ = some (.int .i64 l[i].ev.inc) ∧ w.cell? ⟨g, i * 9 + 4, none⟩ = some (.int .i64 l[i].ev.frm) ∧ w.cell? ⟨g, i * 9 + 5, none⟩ = some (.int .i64 l[i].ev.sinc) ∧ w.cell? ⟨g, i * 9 + 6, none⟩ = some (.int .i64 l[i].ev.sidx) ∧ w.cell? ⟨g, i * 9 + 7, none⟩ = some (.int .i64 l[i].ev.ord) ∧ w.cell? ⟨g, i * 9 + 8, none⟩ = some (.int .i64 l[i].ev.val) := by
  have k : ∀ j u, j < 9 → l[i].cells[j]? = some u → w.cell? ⟨g, i * 9 + j, none⟩ = some u := fun j u hj hu => (h.2 (i * 9 + j) u (by rw [flat_get Dt.cells 9 Dt.len l i j l[i] (List.getElem?_eq_getElem hi) hj]; exact hu)).1
  exact ⟨k 0 _ (by omega) rfl, k 1 _ (by omega) rfl, k 2 _ (by omega) rfl, k 3 _ (by omega) rfl, k 4 _ (by omega) rfl, k 5 _ (by omega) rfl, k 6 _ (by omega) rfl, k 7 _ (by omega) rfl, k 8 _ (by omega) rfl⟩
theorem Row.frz {w : World} {g : Nat} {l : List Dt} (h : Row w g l) {i : Nat} (hi : i < l.length) :
    w.frozen? ⟨g, i * 9, none⟩ = false ∧ w.frozen? ⟨g, i * 9 + 1, none⟩ = false ∧ w.frozen? ⟨g, i * 9 + 2, none⟩ = false ∧ w.frozen? ⟨g, i * 9 + 3, none⟩ = false ∧ w.frozen? ⟨g, i * 9 + 4, none⟩ = false ∧ w.frozen? ⟨g, i * 9 + 5, none⟩ = false ∧ w.frozen? ⟨g, i * 9 + 6, none⟩ = false ∧ w.frozen? ⟨g, i * 9 + 7, none⟩ = false ∧ w.frozen? ⟨g, i * 9 + 8, none⟩ = false := by
  have k : ∀ j u, j < 9 → l[i].cells[j]? = some u → w.frozen? ⟨g, i * 9 + j, none⟩ = false := fun j u hj hu => (h.2 (i * 9 + j) u (by rw [flat_get Dt.cells 9 Dt.len l i j l[i] (List.getElem?_eq_getElem hi) hj]; exact hu)).2
  exact ⟨k 0 _ (by omega) rfl, k 1 _ (by omega) rfl, k 2 _ (by omega) rfl, k 3 _ (by omega) rfl, k 4 _ (by omega) rfl, k 5 _ (by omega) rfl, k 6 _ (by omega) rfl, k 7 _ (by omega) rfl, k 8 _ (by omega) rfl⟩
theorem Ext.grownRow {w0 w w' : World} {g : Nat} (h : Ext w0 w) (hg : w0.heap.size ≤ g) (hw : w.grownBy w' (some g)) : Ext w0 w' :=
  ⟨hw.os.trans h.os, hw.tape.trans h.tape, hw.output.trans h.output, Nat.le_trans h.size hw.size, fun k hk => (hw.block k (Nat.lt_of_lt_of_le hk h.size) (fun e => by injection e; omega)).trans (h.block k hk)⟩
theorem os_set (w : World) (a : Addr) (v : Value) : (w.setCell a v).os = w.os ∧ (w.setCell a v).tape = w.tape ∧ (w.setCell a v).output = w.output := by
  unfold World.setCell
  split <;> exact ⟨rfl, rfl, rfl⟩
theorem grownRow_sets (w : World) (g o : Nat) (vs : List Value) : w.grownBy (w.setCells g o vs) (some g) := by
  have : ∀ (vs : List Value) (o : Nat) (w : World), (w.setCells g o vs).os = w.os ∧ (w.setCells g o vs).tape = w.tape ∧ (w.setCells g o vs).output = w.output := by
    intro vs
    induction vs with
    | nil => intro o w; exact ⟨rfl, rfl, rfl⟩
    | cons v r ih =>
      intro o w
      rw [World.setCells]
      obtain ⟨a, b, c⟩ := ih (o + 1) (w.setCell ⟨g, o, none⟩ v)
      have hk := os_set w ⟨g, o, none⟩ v
      exact ⟨a.trans hk.1, b.trans hk.2.1, c.trans hk.2.2⟩
  obtain ⟨h1, h2, h3⟩ := this vs o w
  exact ⟨h1, h2, h3, by rw [size_setCells]; omega, fun k hk hne => World.heap_setCells_other w g o vs hk (fun e => hne (by rw [e]))⟩
theorem heap_sets {g : Nat} {t : TypeId} : ∀ (vs : List Value) (o : Nat) (w : World) (cs : List Value), w.heap[g]? = some (.cells cs.toArray t (0, 0)) → (w.setCells g o vs).heap[g]? = some (.cells (setAll cs o vs).toArray t (0, 0))
  | [], _, _, _, h => h
  | v :: vs, o, w, cs, h => by
    rw [World.setCells, setAll]
    refine heap_sets vs (o + 1) _ (cs.set o v) ?_
    rw [setCell_eq_setRow w g o cs.toArray t (0, 0) v h]
    have := setRow_heap w g cs.toArray (cs.toArray.setIfInBounds o v) t (0, 0) h
    simpa using this
/-- a block of the heap is a row of so many cells -/
def Shp (w : World) (g N : Nat) : Prop := ∃ cur : Array Value, w.heap[g]? = some (.cells cur 32 (0, 0)) ∧ cur.size = N
theorem Shp.ext {w w' : World} {g N : Nat} (h : Shp w g N) (hE : Ext w w') : Shp w' g N := by
  obtain ⟨cur, hh, hs⟩ := h
  exact ⟨cur, (hE.block g (Array.getElem?_eq_some_iff.1 hh).1).trans hh, hs⟩
theorem Shp.sets {w : World} {g N : Nat} (h : Shp w g N) (o : Nat) (vs : List Value) : Shp (w.setCells g o vs) g N := by
  obtain ⟨cur, hh, hs⟩ := h
  exact ⟨_, heap_sets vs o w cur.toList hh, by simp only [List.size_toArray, setAll_len, Array.length_toList]; exact hs⟩
/-- a row changed, its block did not grow -/
def GrownS (w w' : World) (g : Nat) : Prop := w.grownBy w' (some g) ∧ ∀ N, Shp w g N → Shp w' g N
theorem gs_ext {w w' : World} (h : Ext w w') (g : Nat) : GrownS w w' g := ⟨⟨h.os, h.tape, h.output, h.size, fun k hk _ => h.block k hk⟩, fun _ s => s.ext h⟩
theorem gs_trans {a b c : World} {g : Nat} (h : GrownS a b g) (k : GrownS b c g) : GrownS a c g :=
  ⟨⟨k.1.os.trans h.1.os, k.1.tape.trans h.1.tape, k.1.output.trans h.1.output, Nat.le_trans h.1.size k.1.size, fun i hi hne => (k.1.block i (Nat.lt_of_lt_of_le hi h.1.size) hne).trans (h.1.block i hi hne)⟩, fun N s => k.2 N (h.2 N s)⟩
theorem gs_sets (w : World) (g o : Nat) (vs : List Value) : GrownS w (w.setCells g o vs) g := ⟨grownRow_sets w g o vs, fun _ s => s.sets o vs⟩
/-- a row whose block is known is the call's own -/
theorem own_of_row {w : World} {g cap base : Nat} {l : List Dt} (h : Row w g l) (s : Shp w g (cap * 9)) (hl : l.length ≤ cap) (hcm : cap ≤ maxLen) (hb : base ≤ g) : w.ownsRow base 32 9 (.slice (some ⟨g, 0, none⟩) l.length cap) l.length (l.flatMap Dt.cells) := by
  obtain ⟨cur, hh, hs⟩ := s
  have hfl := flat_len Dt.cells 9 Dt.len l
  refine ⟨hfl, .inr ⟨g, cap, cur, rfl, hb, hh, hl, hcm, hs, ?_⟩⟩
  apply List.ext_getElem?
  intro j
  by_cases hj : j < l.length * 9
  · rw [List.getElem?_take_of_lt hj]
    obtain ⟨u, hu⟩ : ∃ u, (l.flatMap Dt.cells)[j]? = some u := ⟨_, List.getElem?_eq_getElem (by rw [hfl]; exact hj)⟩
    rw [hu, ← (h.2 j u hu).1]
    simp [World.cell?, hh]
  · rw [List.getElem?_eq_none (by rw [List.length_take]; omega), List.getElem?_eq_none (by omega)]
theorem flatK_list (l : List Dt) : (flatK Dt.cells 9 l.toArray).toList = l.flatMap Dt.cells := by
  apply List.ext_getElem?
  intro q
  by_cases hq : q < l.length * 9
  · have hd : q / 9 < l.length := by omega
    have hm : q % 9 < 9 := Nat.mod_lt _ (by omega)
    have e : q / 9 * 9 + q % 9 = q := by omega
    have h1 := flat_get Dt.cells 9 Dt.len l (q / 9) (q % 9) l[q / 9] (List.getElem?_eq_getElem hd) hm
    rw [e] at h1
    rw [h1]
    have hs : q < (flatK Dt.cells 9 l.toArray).size := by rw [size_flatK]; simpa using hq
    have h2 := get_flatK Dt.cells 9 l.toArray q (by simpa using hq)
    rw [getElem!_pos _ q hs] at h2
    rw [Array.getElem?_toList, Array.getElem?_eq_getElem hs, h2, getElem!_pos l.toArray (q / 9) (by simpa using hd)]
    have hc : q % 9 < (l.toArray[q / 9]'(by simpa using hd)).cells.length := by rw [Dt.len]; exact hm
    rw [getElem!_pos (l.toArray[q / 9]'(by simpa using hd)).cells (q % 9) hc, ← List.getElem?_eq_getElem]
    simp
  · rw [List.getElem?_eq_none (by rw [Array.length_toList, size_flatK]; simp; omega), List.getElem?_eq_none (by rw [flat_len Dt.cells 9 Dt.len]; omega)]
theorem Row.holds {w : World} {g : Nat} {l : List Dt} (h : Row w g l) : HoldsK Dt.cells 9 w g 0 l.toArray := fun j hj => by
  have hs := hj
  rw [size_flatK] at hj
  have e : (l.flatMap Dt.cells)[j]? = some ((flatK Dt.cells 9 l.toArray)[j]!) := by
    rw [← flatK_list, Array.getElem?_toList, Array.getElem?_eq_getElem hs, getElem!_pos _ j hs]
  rw [Nat.zero_add]
  exact h.2 j _ e
theorem Row.of_holds {w : World} {g : Nat} {l : List Dt} (hg : g < w.heap.size) (h : HoldsK Dt.cells 9 w g 0 l.toArray) : Row w g l := ⟨hg, fun j u hu => by
  have hj : j < (flatK Dt.cells 9 l.toArray).size := by
    have := (List.getElem?_eq_some_iff.1 hu).1
    rw [size_flatK]
    rw [flat_len Dt.cells 9 Dt.len] at this
    simpa using this
  have := h j hj
  rw [Nat.zero_add] at this
  rw [← flatK_list, Array.getElem?_toList, Array.getElem?_eq_getElem hj] at hu
  injection hu with hu
  rw [getElem!_pos _ j hj, hu] at this
  exact this⟩
theorem sort_row (g cap : Nat) (l : List Dt) (w : World) (h : Row w g l) (hsz : l.length ≤ 1000) :
    Calls Try.prog 70 #[.slice (some ⟨g, 0, none⟩) l.length cap, .func (.func 63) #[] #[]] w fun e w' => e = .returned (.tuple #[]) ∧ GrownS w w' g ∧ Row w' g (sortD l) := by
  refine (sort_any g cap l w h.holds h.1 hsz).mono ?_
  rintro e w' ⟨rfl, n, os, rfl⟩
  have hlen : (sortD l).toArray.size = l.toArray.size := by simp [sortD_len]
  refine ⟨rfl, ?_, Row.of_holds (Nat.lt_of_lt_of_le h.1 (size_sortWorldK_c Dt.cells 9 w g 0 n _ os)) (holdsK_sortWorldK_c Dt.cells 9 w g 0 l.toArray _ n os h.holds h.1 hlen)⟩
  unfold sortWorldK putRowK
  have e := putRow_eq_setCells id w g 0 (flatK Dt.cells 9 l.toArray) (flatK Dt.cells 9 (sortD l).toArray).toList n h.holds (by rw [Array.length_toList, size_flatK, size_flatK, hlen])
  rw [Array.toArray_toList] at e
  rw [e]
  have k := gs_sets (w.drewN n) g 0 ((flatK Dt.cells 9 (sortD l).toArray).toList.map id)
  have hbl : ∀ i, i < w.heap.size → (grow ((w.drewN n).setCells g 0 ((flatK Dt.cells 9 (sortD l).toArray).toList.map id)) os).heap[i]? = ((w.drewN n).setCells g 0 ((flatK Dt.cells 9 (sortD l).toArray).toList.map id)).heap[i]? := fun i hi => by
    have h2 : i < ((w.drewN n).setCells g 0 ((flatK Dt.cells 9 (sortD l).toArray).toList.map id)).heap.size := by rw [size_setCells]; exact hi
    exact Array.getElem?_append_left h2
  refine ⟨⟨k.1.os, k.1.tape, k.1.output, by rw [size_grow]; exact Nat.le_trans k.1.size (Nat.le_add_right _ _), fun i hi hne => (hbl i hi).trans (k.1.block i hi hne)⟩, fun N hN => ?_⟩
  obtain ⟨cur, hh, hs⟩ := k.2 N hN
  exact ⟨cur, (hbl g h.1).trans hh, hs⟩
theorem zero_ones (n : Nat) : ∀ u ∈ (Builtin.zeroCells (Value.agg #[.int .i64 0, .int .i64 0, .int .i64 0, .int .i64 0, .int .i64 0, .int .i64 0, .int .i64 0, .int .i64 0, .int .i64 0]).cells n).toList, u.oneCell' = true := by
  intro u hu
  unfold Builtin.zeroCells at hu
  simp only [Array.toList_map, List.mem_map] at hu
  obtain ⟨i, _, rfl⟩ := hu
  generalize hq : i % (Value.agg #[.int .i64 0, .int .i64 0, .int .i64 0, .int .i64 0, .int .i64 0, .int .i64 0, .int .i64 0, .int .i64 0, .int .i64 0]).cells.size = q
  have hlt : q < 9 := by rw [← hq]; exact Nat.mod_lt _ (by decide)
  have : q = 0 ∨ q = 1 ∨ q = 2 ∨ q = 3 ∨ q = 4 ∨ q = 5 ∨ q = 6 ∨ q = 7 ∨ q = 8 := by omega
  rcases this with rfl | rfl | rfl | rfl | rfl | rfl | rfl | rfl | rfl <;> rfl
/-- clear of the rest of a row -/
theorem run_clear_row (w : World) (ty : TypeId) (g k n c : Nat) (l : List Dt) (h : Row w g l) (hk : k + n = l.length) (hn : 0 < n) :
    ∃ w', (Builtin.clear_ #[56] ty #[.slice (some ⟨g, k * 9, none⟩) n c]).run Try.prog w = .ok (.tuple #[]) w' ∧ GrownS w w' g ∧ Row w' g (l.take k) := by
  obtain ⟨i0, hi, hz0, hz1, hz2⟩ := info_parts (show (Try.prog.info? 32).map (fun i => (i.zero, i.size, i.bytes)) = some (some (.agg #[.int .i64 0, .int .i64 0, .int .i64 0, .int .i64 0, .int .i64 0, .int .i64 0, .int .i64 0, .int .i64 0, .int .i64 0]), 9, 72) by kernel_rfl)
  have hv : ∀ w, (zeroValue 32).run Try.prog w = .ok (.agg #[.int .i64 0, .int .i64 0, .int .i64 0, .int .i64 0, .int .i64 0, .int .i64 0, .int .i64 0, .int .i64 0, .int .i64 0]) w := fun w => by simp [zeroValue, typeInfo, hi, hz0]
  have ho := zero_ones n
  have hzl : (Builtin.zeroCells (Value.agg #[.int .i64 0, .int .i64 0, .int .i64 0, .int .i64 0, .int .i64 0, .int .i64 0, .int .i64 0, .int .i64 0, .int .i64 0]).cells n).toList.length = n * 9 := by
    simp [Builtin.zeroCells, Value.cells]
  generalize hzs : (Builtin.zeroCells (Value.agg #[.int .i64 0, .int .i64 0, .int .i64 0, .int .i64 0, .int .i64 0, .int .i64 0, .int .i64 0, .int .i64 0, .int .i64 0]).cells n).toList = zs at ho hzl
  have hfl := flat_len Dt.cells 9 Dt.len l
  have hst := run_storeCells_cells (P := Try.prog) g (k * 9) zs 0 w (fun j hj => by
      have hj' : k * 9 + j < (l.flatMap Dt.cells).length := by omega
      rw [Nat.add_zero, (h.2 (k * 9 + j) _ (List.getElem?_eq_getElem hj')).1]; rfl) (fun j hj => by
      have hj' : k * 9 + j < (l.flatMap Dt.cells).length := by omega
      rw [Nat.add_zero]; exact (h.2 (k * 9 + j) _ (List.getElem?_eq_getElem hj')).2) ho
  simp only [Nat.add_zero] at hst
  obtain ⟨q, rfl⟩ : ∃ q, n = q + 1 := ⟨n - 1, by omega⟩
  refine ⟨w.setCells g (k * 9) zs, by simp [Builtin.clear_, run_underlying Try.underlying56, hv, hzs, hst], gs_sets w g _ zs, ?_⟩
  refine ⟨by rw [size_setCells]; exact h.1, fun j u hu => ?_⟩
  have hj := (List.getElem?_eq_some_iff.1 hu).1
  rw [flat_len Dt.cells 9 Dt.len, List.length_take] at hj
  rw [World.frozen?_setCells, World.cell?_setCells_out _ _ _ _ _ (fun _ _ => .inl (by show j < k * 9; omega))]
  exact (h.pre (by omega)).2 j u hu

theorem cpt_two (x y : Dt) (l : List Dt) : cpt (x :: y :: l) = if x.same y then cpt (y :: l) else x :: cpt (y :: l) := by rw [cpt]
theorem cpt_one (x : Dt) : cpt [x] = [x] := by rw [cpt]
theorem cpt_snoc : ∀ (l : List Dt) (a b : Dt), cpt (l ++ [a, b]) = if a.same b then cpt (l ++ [a]) else cpt (l ++ [a]) ++ [b]
  | [], a, b => by
    rw [List.nil_append, List.nil_append, cpt_two, cpt_one, cpt_one]
    split
    · rename_i h
      rw [(Dt.same_iff a b).1 h]
    · rfl
  | [x], a, b => by
    have ih := cpt_snoc [] a b
    rw [List.nil_append, List.nil_append] at ih
    show cpt (x :: a :: [b]) = if a.same b then cpt (x :: a :: []) else cpt (x :: a :: []) ++ [b]
    rw [cpt_two x a [b], cpt_two x a [], ih]
    split <;> split <;> rfl
  | x :: y :: l, a, b => by
    have ih := cpt_snoc (y :: l) a b
    show cpt (x :: y :: (l ++ [a, b])) = if a.same b then cpt (x :: y :: (l ++ [a])) else cpt (x :: y :: (l ++ [a])) ++ [b]
    rw [cpt_two, cpt_two]
    rw [List.cons_append, List.cons_append] at ih
    rw [ih]
    split <;> split <;> rfl
theorem cpt_take (l : List Dt) (j : Nat) (hj : j + 1 < l.length) : cpt (l.take (j + 2)) = if l[j + 1].same (l[j]'(by omega)) then cpt (l.take (j + 1)) else cpt (l.take (j + 1)) ++ [l[j + 1]] := by
  rw [List.take_succ_eq_append_getElem (show j + 1 < l.length from hj), List.take_succ_eq_append_getElem (show j < l.length by omega), List.append_assoc]
  rw [show ([l[j]] ++ [l[j + 1]] : List Dt) = [l[j], l[j + 1]] from rfl, cpt_snoc]
  by_cases h : l[j].same l[j + 1] = true
  · rw [if_pos h, if_pos (by rw [Dt.same_iff] at h ⊢; exact h.symm)]
  · rw [if_neg h, if_neg (fun h' => h (by rw [Dt.same_iff] at h' ⊢; exact h'.symm))]
theorem cpt_short (l : List Dt) (h : l.length < 2) : cpt l = l := by
  cases l with
  | nil => rfl
  | cons x l =>
    cases l with
    | nil => rfl
    | cons y l => simp only [List.length_cons] at h; omega
theorem neq_det (w : World) (a b : Dt) : (binOp .neq 32 a.val b.val).run Try.prog w = .ok (.bool (!a.same b)) w := by
  have h := eql_det w a b
  simp only [binOp] at h ⊢
  revert h
  generalize (Op.equal 32 a.val b.val) = s
  intro h
  simp only [Sem.run_bind, Sem.run_pure] at h ⊢
  rcases hr : s.run Try.prog w with ⟨v, w'⟩ | ⟨x, w'⟩
  · rw [hr] at h
    simp only [Result.andThen_ok] at h ⊢
    injection h with h1 h2
    injection h1 with h1
    rw [h1, h2]
  · rw [hr] at h
    simp [Result.andThen] at h

theorem Row.atO {w : World} {g : Nat} {l : List Dt} (h : Row w g l) {i o : Nat} (hi : i < l.length) (ho : i * 9 = o) :
    w.cell? ⟨g, o, none⟩ = some (.int .i64 l[i].proc) ∧ w.cell? ⟨g, o + 1, none⟩ = some (.int .i64 l[i].index) ∧ w.cell? ⟨g, o + 2, none⟩ = some (.int .i64 l[i].ev.kind) ∧ w.cell? ⟨g, o + 3, none⟩ = some (.int .i64 l[i].ev.inc) ∧ w.cell? ⟨g, o + 4, none⟩ = some (.int .i64 l[i].ev.frm) ∧ w.cell? ⟨g, o + 5, none⟩ = some (.int .i64 l[i].ev.sinc) ∧ w.cell? ⟨g, o + 6, none⟩ = some (.int .i64 l[i].ev.sidx) ∧ w.cell? ⟨g, o + 7, none⟩ = some (.int .i64 l[i].ev.ord) ∧ w.cell? ⟨g, o + 8, none⟩ = some (.int .i64 l[i].ev.val) := by
  subst ho; exact h.at_ hi
def CPost (g cap : Nat) (l : List Dt) (w : World) (e : Ending) (w' : World) : Prop := e = .returned (.slice (some ⟨g, 0, none⟩) (cpt l).length cap) ∧ GrownS w w' g ∧ Row w' g (cpt l)
def C1 (w : World) (l : List Dt) (gh : Nat) (kv : Value) (wr : World) : Prop := ∃ q : Nat, q + 1 ≤ l.length ∧ kv = .int .i64 ((q : Int) + 1) ∧ gh = l.length - (q + 1) ∧ Ext w wr ∧ cpt (l.take (q + 1)) = l.take (q + 1)
/-- b: where the second list begins -/
def C2 (w : World) (g : Nat) (l : List Dt) (b : Nat) (gh : Nat) (kv k2v : Value) (wr : World) : Prop :=
  ∃ (m p : Nat) (X : List Dt), b + p + 1 ≤ l.length ∧ kv = .int .i64 (m : Int) ∧ k2v = .int .i64 ((p : Int) + 1) ∧ gh = l.length - (b + p + 1) ∧ X.length = l.length ∧ X.take m = cpt (l.take (b + p + 1)) ∧ m = (cpt (l.take (b + p + 1))).length ∧ m ≤ b + p ∧ (∀ x, b + p ≤ x → X[x]? = l[x]?) ∧ GrownS w wr g ∧ Row wr g X
theorem ext_grown {w w' : World} (h : Ext w w') (row : Option Nat) : w.grownBy w' row := ⟨h.os, h.tape, h.output, h.size, fun k hk _ => h.block k hk⟩
theorem grown_trans {a b c : World} {r : Option Nat} (h : a.grownBy b r) (k : b.grownBy c r) : a.grownBy c r := ⟨k.os.trans h.os, k.tape.trans h.tape, k.output.trans h.output, Nat.le_trans h.size k.size, fun i hi hne => (k.block i (Nat.lt_of_lt_of_le hi h.size) hne).trans (h.block i hi hne)⟩

set_option maxRecDepth 100000 in
set_option maxHeartbeats 3200000 in
theorem compact_row (g cap : Nat) (l : List Dt) (w : World) (h : Row w g l) (hc : l.length ≤ cap) (hcm : cap ≤ maxLen) (hn : l.length ≤ 1000) :
    Calls Try.prog 71 #[.slice (some ⟨g, 0, none⟩) l.length cap] w (CPost g cap l w) := by
  have hn' : (l.length : Int) ≤ 1000 := by omega
  have hcm' : (cap : Int) ≤ 9223372036854775807 := by unfold maxLen at hcm; omega
  have hc' : (l.length : Int) ≤ (cap : Int) := by omega
  by_cases h2 : l.length < 2
  · have HV := Lib.hid (cpt_short l h2)
    go_enter Try.func71, Try.ntmps71
    go_wp2_with fail
    go_ret
    exact ⟨by rw [HV.out]; rfl, gs_ext (Ext.refl w) _, by rw [HV.out]; exact h⟩
  go_enter Try.func71, Try.ntmps71
  go_wp2_with fail
  go_loopg [3] (l.length - 1) (fun gh kv wr => C1 w l gh kv wr)
  case atStart => exact ⟨0, by omega, rfl, rfl, Ext.refl _, cpt_short _ (by rw [List.length_take]; omega)⟩
  case round =>
    obtain ⟨q, hq, rfl, rfl, hE, hcp⟩ := hrel
    have HCP := Lib.hid hcp
    clear hcp
    by_cases hlt : q + 1 < l.length
    · have hR := h.ext hE
      obtain ⟨a0, a1, a2, a3, a4, a5, a6, a7, a8⟩ := Row.atO hR (i := q + 1) hlt rfl
      obtain ⟨b0, b1, b2, b3, b4, b5, b6, b7, b8⟩ := Row.atO hR (i := q) (by omega) rfl
      have HT := Lib.hid (cpt_take l q hlt)
      have heq := fun w => eql_det w l[q + 1] l[q]
      unfold Dt.val at heq
      have hq0 : (0 : Int) ≤ (q : Int) + 1 := by omega
      have hq1 : (q : Int) + 1 < (l.length : Int) := by omega
      have hq2 : (0 : Int) ≤ (q : Int) := by omega
      have hq3 : (q : Int) < (l.length : Int) := by omega
      rcases hsm : l[q + 1].same l[q] with _ | _
      · have HV : Hid (cpt (l.take (q + 2)) = l.take (q + 2)) := by
          show cpt (l.take (q + 2)) = _
          rw [HT.out, if_neg (by rw [hsm]; decide), HCP.out]
          exact (List.take_succ_eq_append_getElem hlt).symm
        rw [hsm] at heq
        clear HT hsm
        generalize l[q + 1] = x at *
        generalize l[q] = y at *
        go_wp2_with fail
        go_quiet (fail)
        go_wp2_with fail
        go_roundg (l.length - (q + 1 + 1))
        case measure => omega
        case rel => exact ⟨q + 1, by omega, by go_num, rfl, hE.drewN _, HV.out⟩
      · have HV : Hid (cpt (l.take (q + 2)) = l.take (q + 1)) := by
          show cpt (l.take (q + 2)) = _
          rw [HT.out, if_pos hsm, HCP.out]
        rw [hsm] at heq
        clear HT hsm
        generalize l[q + 1] = x at *
        generalize l[q] = y at *
        go_wp2_with fail
        go_quiet (fail)
        go_wp2_with fail
        clear a0 a1 a2 a3 a4 a5 a6 a7 a8 b0 b1 b2 b3 b4 b5 b6 b7 b8 heq hR
        go_loopg [3, 5] (l.length - (q + 1 + 1)) (fun gh kv k2v wr => C2 w g l (q + 1) gh kv k2v wr)
        case atStart => exact ⟨q + 1, 0, l, by omega, by go_num, rfl, rfl, rfl, HV.out.symm, by rw [show q + 1 + 0 + 1 = q + 2 by omega, HV.out, List.length_take]; omega, by omega, fun _ _ => rfl, gs_ext (Ext.drewN hE _) _, CellRow.ext h (Ext.drewN hE _)⟩
        case round =>
          clear HV HCP hE
          obtain ⟨m, p, X, hp, rfl, rfl, rfl, hXl, hXt, hm, hmp, hXr, hG, hR⟩ := hrel
          have HXT := Lib.hid hXt
          have HM := Lib.hid hm
          have HXR := Lib.hid hXr
          have HG := Lib.hid hG
          clear hXt hm hXr hG
          by_cases hlt2 : q + 1 + p + 1 < l.length
          · have hx1 : q + 1 + p + 1 < X.length := by omega
            have hx0 : q + 1 + p < X.length := by omega
            have e1 : X[q + 1 + p + 1] = l[q + 1 + p + 1] := by
              have := HXR.out (q + 1 + p + 1) (by omega)
              rw [List.getElem?_eq_getElem hx1, List.getElem?_eq_getElem hlt2] at this
              injection this
            have e0 : X[q + 1 + p] = l[q + 1 + p] := by
              have := HXR.out (q + 1 + p) (by omega)
              rw [List.getElem?_eq_getElem hx0, List.getElem?_eq_getElem (show q + 1 + p < l.length by omega)] at this
              injection this
            obtain ⟨a0, a1, a2, a3, a4, a5, a6, a7, a8⟩ := Row.atO hR (i := q + 1 + p + 1) (o := (q + 1) * 9 + (p + 1) * 9) hx1 (by omega)
            obtain ⟨b0, b1, b2, b3, b4, b5, b6, b7, b8⟩ := Row.atO hR (i := q + 1 + p) (o := (q + 1) * 9 + p * 9) hx0 (by omega)
            rw [e1] at a0 a1 a2 a3 a4 a5 a6 a7 a8
            rw [e0] at b0 b1 b2 b3 b4 b5 b6 b7 b8
            have HT := Lib.hid (cpt_take l (q + 1 + p) hlt2)
            have heq := fun w => neq_det w l[q + 1 + p + 1] l[q + 1 + p]
            unfold Dt.val at heq
            clear e0
            have HE1 := Lib.hid e1
            clear e1
            rcases hsm : l[q + 1 + p + 1].same l[q + 1 + p] with _ | _
            · have HV : Hid (cpt (l.take (q + 1 + p + 2)) = cpt (l.take (q + 1 + p + 1)) ++ [l[q + 1 + p + 1]]) := by
                show cpt (l.take (q + 1 + p + 2)) = _
                rw [HT.out, if_neg (by rw [hsm]; decide)]
              rw [hsm] at heq
              clear HT hsm HE1
              have hmx : m < X.length := by omega
              obtain ⟨c0, c1, c2, c3, c4, c5, c6, c7, c8⟩ := Row.at_ hR hmx
              obtain ⟨f0, f1, f2, f3, f4, f5, f6, f7, f8⟩ := Row.frz hR hmx
              generalize X[m] = z at c0 c1 c2 c3 c4 c5 c6 c7 c8
              generalize l[q + 1 + p + 1] = x at *
              generalize l[q + 1 + p] = y at *
              have HPUT := Lib.hid (fun w' (hE : Ext wr w') => Row.put (CellRow.ext hR hE) hmx x)
              have hm0 : (m : Int) < (l.length : Int) := by omega
              go_wp2_with fail
              go_quiet (fail)
              go_wp2_with fail
              go_roundg (l.length - (q + 1 + (p + 1) + 1))
              case measure => omega
              case rel =>
                refine ⟨m + 1, p + 1, X.set m x, by omega, by go_num, by go_num, rfl, by rw [List.length_set]; exact hXl, ?_, ?_, by omega, fun i hi => ?_, gs_trans HG.out (gs_trans (gs_ext (Ext.drewn _ _) _) (gs_sets _ g (m * 9) x.cells)), HPUT.out _ (Ext.drewn _ _)⟩
                · rw [show q + 1 + (p + 1) + 1 = q + 1 + p + 2 by omega, HV.out, ← HXT.out, List.take_succ_eq_append_getElem (by rw [List.length_set]; exact hmx), List.getElem_set_self, List.take_set_of_le (Nat.le_refl _)]
                · rw [show q + 1 + (p + 1) + 1 = q + 1 + p + 2 by omega, HV.out, List.length_append, ← HM.out]; rfl
                · rw [List.getElem?_set_ne (by omega)]
                  exact HXR.out i (by omega)
            · have HV : Hid (cpt (l.take (q + 1 + p + 2)) = cpt (l.take (q + 1 + p + 1))) := by
                show cpt (l.take (q + 1 + p + 2)) = _
                rw [HT.out, if_pos hsm]
              rw [hsm] at heq
              clear HT hsm HE1
              generalize l[q + 1 + p + 1] = x at *
              generalize l[q + 1 + p] = y at *
              go_wp2_with fail
              go_quiet (fail)
              go_wp2_with fail
              go_roundg (l.length - (q + 1 + (p + 1) + 1))
              case measure => omega
              case rel => exact ⟨m, p + 1, X, by omega, rfl, by go_num, rfl, hXl, by rw [show q + 1 + (p + 1) + 1 = q + 1 + p + 2 by omega, HV.out]; exact HXT.out, by rw [show q + 1 + (p + 1) + 1 = q + 1 + p + 2 by omega, HV.out]; exact HM.out, by omega, fun x hx => HXR.out x (by omega), gs_trans HG.out (gs_ext (Ext.drewn _ _) _), CellRow.ext hR (Ext.drewn _ _)⟩
          · have hpn : q + 1 + p + 1 = l.length := by omega
            have HV : Hid (X.take m = cpt l ∧ m = (cpt l).length) := by
              have h1 := HXT.out
              have h2 := HM.out
              rw [hpn, List.take_length] at h1 h2
              exact ⟨h1, h2⟩
            have hp' : (p : Int) + 1 = (l.length : Int) - ((q : Int) + 1) := by omega
            have hmn : m < l.length := by omega
            have hm0 : (m : Int) ≤ (l.length : Int) := by omega
            obtain ⟨w9, hclr, hG9, hR9⟩ := run_clear_row wr 0 g m (l.length - m) (cap - m) X hR (by omega) (by omega)
            clear HXT HM HXR hpn
            go_wp2_with fail
            go_ret
            refine ⟨?_, gs_trans HG.out hG9, by rw [← HV.out.1]; exact hR9⟩
            rw [← HV.out.2]
            rfl
    · have hql : q + 1 = l.length := by omega
      have HV : Hid (cpt l = l) := by
        have := HCP.out
        rw [hql, List.take_length] at this
        exact this
      have hql' : (q : Int) + 1 = (l.length : Int) := by omega
      clear hql
      go_wp2_with fail
      go_ret
      exact ⟨by rw [HV.out]; rfl, gs_ext hE _, by rw [HV.out]; exact h.ext hE⟩

theorem infoDet : (Try.prog.info? 32).map (fun i => (i.zero, i.size, i.bytes)) = some (some (.agg #[.int .i64 0, .int .i64 0, .int .i64 0, .int .i64 0, .int .i64 0, .int .i64 0, .int .i64 0, .int .i64 0, .int .i64 0]), 9, 72) := by kernel_rfl
/-- append of a slice that reads as determinants -/
theorem run_cat (base : Nat) (ty : TypeId) (v : Value) (a b : List Dt) (w : World) (hown : w.ownsRow base 32 9 v a.length (a.flatMap Dt.cells)) (B : Option Addr) (c : Nat) (hb : DtSeg w B b) (hl : a.length + b.length ≤ 2000) (hbase : base ≤ w.heap.size) :
    ∃ v' w', (Builtin.append_ #[56, 56] ty #[v, .slice B b.length c]).run Try.prog w = .ok v' w' ∧ w'.ownsRow base 32 9 v' (a ++ b).length ((a ++ b).flatMap Dt.cells) ∧ w.grownBy w' v.ownBlock := by
  obtain ⟨i0, hi, hz0, hz1, hz2⟩ := info_parts infoDet
  cases B with
  | none =>
    have hl0 : b = [] := by
      cases b with
      | nil => rfl
      | cons x b =>
        obtain ⟨_, _, h, _⟩ := hb.2 (by simp)
        cases h
    subst hl0
    obtain ⟨A, cA, rfl, _, hle, _⟩ := own_slice hown
    refine ⟨_, _, run_append_nothing w _ _ ty _ i0 Try.underlying56 hi A a.length cA hle _ (Src.ofNil w Try.underlying56 c), by rw [List.append_nil]; exact hown, ext_grown (Ext.refl w) _⟩
  | some ad =>
    have hnews : ∀ k u, (b.flatMap Dt.cells)[k]? = some u → w.cell? (ad.add k) = some u := by
      intro k u hu
      have hk := (List.getElem?_eq_some_iff.1 hu).1
      rw [flat_len Dt.cells 9 Dt.len] at hk
      obtain ⟨x, off, h, _, hc⟩ := hb.2 (by omega)
      injection h with h
      subst h
      have hadd : (⟨x, off, none⟩ : Addr).add k = ⟨x, off + k, none⟩ := by unfold Addr.add; split <;> simp_all
      rw [hadd]
      exact hc k u hu
    obtain ⟨v', w', hr, h2, h3, _, _⟩ := run_append_own_at (P := Try.prog) w base _ ty _ i0 _ 9 72 Try.underlying56 hi hz0 hz1 hz2 rfl (by omega) v a.length _ hown ad b.length c (b.flatMap Dt.cells) (flat_len Dt.cells 9 Dt.len b) hnews (Dt.ones b) (by unfold maxLen; omega) (by omega) hbase
    exact ⟨v', w', hr, by rw [List.length_append, List.flatMap_append]; exact h2, h3⟩
theorem wpList_cat {ops : Array Oper} {rest : List Oper} {o : Oper} {ac : Act} {Q : Exit → Act → World → Prop} (w : World) (hgd : o.guard = none) (s x : Operand) (ho : o.op = .call { callee := .builtin .append, args := #[s, x], argTypes := #[56, 56] })
    (base : Nat) (v : Value) (a b : List Dt) (hs : ac.eval s = v) (hown : w.ownsRow base 32 9 v a.length (a.flatMap Dt.cells)) (B : Option Addr) (c : Nat) (hx : ac.eval x = .slice B b.length c) (hb : DtSeg w B b) (hl : a.length + b.length ≤ 2000) (hbase : base ≤ w.heap.size)
    (h : ∀ v' w', w'.ownsRow base 32 9 v' (a ++ b).length ((a ++ b).flatMap Dt.cells) → w.grownBy w' v.ownBlock → wpList Try.prog ops Q rest (ac.put o.dst v') w') : wpList Try.prog ops Q (o :: rest) ac w := by
  refine wpList_plain hgd fun K hK => ?_
  obtain ⟨v', w', hr, h2, h3⟩ := run_cat base o.type v a b w hown B c hb hl hbase
  unfold Oper.wp execOp
  simp only [ho, resolve, invoke, builtin, Sem.run_bind, Sem.run_pure, Result.andThen_ok, List.map_toArray, List.map_cons, List.map_nil, hs, hx, hr]
  exact hK _ _ (h v' w' h2 h3)
def OwnPost (l : List Dt) (w : World) (e : Ending) (w' : World) : Prop := ∃ v, e = .returned v ∧ w'.ownsRow w.heap.size 32 9 v l.length (l.flatMap Dt.cells) ∧ Ext w w'
set_option maxRecDepth 100000 in
set_option maxHeartbeats 800000 in
theorem clone_any (A : Option Addr) (c : Nat) (l : List Dt) (w : World) (hs : DtSeg w A l) (hn : l.length ≤ 1000) :
    Calls Try.prog 69 #[.slice A l.length c] w (OwnPost l w) := by
  cases A with
  | none =>
    have hl0 : l = [] := by
      cases l with
      | nil => rfl
      | cons x b =>
        obtain ⟨_, _, h, _⟩ := hs.2 (by simp)
        cases h
    subst hl0
    have heq := fun w => Lib.run_eql_slice_nil (P := Try.prog) w 56 32 none 0 c 0 0 Try.underlying56
    go_enter Try.func69, Try.ntmps69
    go_wp2_with fail
    go_ret
    exact ⟨.slice none 0 0, rfl, World.ownsRow_nil _ _ _ _, Ext.refl w⟩
  | some ad =>
    have hm := World.ownsRow_made (base := w.heap.size) (e := 32) (size := 9) w #[] 0 (Nat.le_refl _) (by unfold maxLen; omega) rfl
    have HM := Lib.hid hm
    clear hm
    have heq := fun w => Lib.run_eql_slice_nil (P := Try.prog) w 56 32 (some ad) l.length c 0 0 Try.underlying56
    go_enter Try.func69, Try.ntmps69
    go_wp2_with (at_builtin; refine wpList_cat _ rfl _ _ rfl w.heap.size _ [] l rfl HM.out (some ad) c rfl (hs.alloc _) (by simp; omega) (by simp) ?_; intro v' w' hown' hg')
    have hE : Ext w w' := Ext.own ((Ext.refl w).allocs _) HM.out (Nat.le_refl _) hg'
    go_ret
    exact ⟨v', rfl, hown', hE⟩

theorem zero_size (n : Nat) : (Builtin.zeroCells (Value.agg #[.int .i64 0, .int .i64 0, .int .i64 0, .int .i64 0, .int .i64 0, .int .i64 0, .int .i64 0, .int .i64 0, .int .i64 0]).cells n).size = n * 9 := by
  simp [Builtin.zeroCells, Value.cells]
theorem grow_any (n : Nat) (hn : n ≤ 2000) (w : World) : Calls Try.prog 72 #[.slice none 0 0, .int .i64 n] w (OwnPost [] w) := by
  obtain ⟨i0, hi, hz0, hz1, hz2⟩ := info_parts infoDet
  by_cases h0 : n = 0
  · subst h0
    refine Calls.mono (Any8.slices_Grow_room Try.growDetD none 0 0 0 w (by omega) (by omega) (by omega) (by omega)) ?_
    rintro e w' ⟨rfl, rfl⟩
    exact ⟨_, rfl, World.ownsRow_nil _ _ _ _, Ext.refl _⟩
  · refine Calls.mono (Any8.slices_Grow_grow Try.growDetD i0 _ hi hz0 (by rw [hz1]; omega) none 0 0 n [] w (by omega) (by omega) (by rw [hz2]; omega) (by omega) (by simp) (fun _ => rfl) (fun a h => by cases h)) ?_
    rintro e w' ⟨rfl, rfl⟩
    have hge := grownCap_ge w (0 + n) 0 32
    have hcm := grownCap_le_maxLen w (0 + n) 0 32 (by unfold maxLen; omega)
    refine ⟨_, rfl, ?_, Ext.allocs (Below.drew (Ext.refl w)) _⟩
    refine World.ownsRow_made (base := w.heap.size) (e := 32) (size := 9) w.drew _ _ (Nat.le_refl _) hcm ?_
    rw [Array.size_append, Array.size_append, zero_size, zero_size]
    simp only [List.size_toArray, List.length_nil]
    show 0 + (0 + n - 0) * 9 + (grownCap w (0 + n) 0 32 - (0 + n)) * 9 = grownCap w (0 + n) 0 32 * 9
    omega
def CcRel (w : World) (a b : List Dt) (g : Nat) (sv iv : Value) (wr : World) : Prop := ∃ k : Nat, k ≤ 2 ∧ iv = .int .i64 k ∧ g = 2 - k ∧ wr = w ∧ sv = .int .i64 ((if k = 0 then 0 else if k = 1 then a.length else a.length + b.length : Nat) : Int)
def CdRel (w : World) (gS : Nat) (cs : Array Value) (a b : List Dt) (g : Nat) (v iv : Value) (wr : World) : Prop := ∃ k : Nat, k ≤ 2 ∧ iv = .int .i64 k ∧ g = 2 - k ∧ Ext w wr ∧ wr.ownsRow w.heap.size 32 9 v (if k = 0 then [] else if k = 1 then a else a ++ b).length ((if k = 0 then [] else if k = 1 then a else a ++ b).flatMap Dt.cells)
set_option maxRecDepth 100000 in
set_option maxHeartbeats 1600000 in
theorem concat_two (gS : Nat) (A B : Option Addr) (ca cb : Nat) (a b : List Dt) (w : World) (hS : Blk w gS 56 #[.slice A a.length ca, .slice B b.length cb]) (ha : DtSeg w A a) (hb : DtSeg w B b) (hla : a.length ≤ 700) (hlb : b.length ≤ 300) :
    Calls Try.prog 58 #[.slice (some ⟨gS, 0, none⟩) 2 2] w (OwnPost (a ++ b) w) := by
  have hla' : (a.length : Int) ≤ 700 := by omega
  have hlb' : (b.length : Int) ≤ 300 := by omega
  have s0 := hS.cell 0
  have s1 := hS.cell 1
  simp only [List.getElem?_toArray, List.getElem?_cons_zero, List.getElem?_cons_succ] at s0 s1
  go_enter Try.func58, Try.ntmps58
  go_wp2_with fail
  go_loopg [3, 11] 2 (fun g sv iv wr => CcRel w a b g sv iv wr)
  case atStart => exact ⟨0, by omega, rfl, rfl, rfl, rfl⟩
  case round =>
    obtain ⟨k, hk, rfl, rfl, rfl, rfl⟩ := hrel
    have hk3 : k = 0 ∨ k = 1 ∨ k = 2 := by omega
    rcases hk3 with rfl | rfl | rfl
    · simp only [if_true]
      go_wp2_with fail
      go_roundg (2 - (0 + 1))
      case measure => omega
      case rel => exact ⟨1, by omega, rfl, rfl, rfl, by simp⟩
    · simp only [if_true, if_neg (show ¬ (1 : Nat) = 0 by omega)]
      go_wp2_with fail
      go_roundg (2 - (1 + 1))
      case measure => omega
      case rel => exact ⟨2, by omega, rfl, rfl, rfl, by go_num⟩
    · simp only [if_neg (show ¬ (2 : Nat) = 0 by omega), if_neg (show ¬ (2 : Nat) = 1 by omega)]
      have hg := grow_any (a.length + b.length) (by omega) wr
      simp only [Int.natCast_add] at hg
      go_wp2_with fail
      refine hg.mono ?_
      rintro e w2 ⟨v, rfl, hown, hE2⟩
      have hsz := hE2.size
      have HS := Lib.hid hS
      clear hg s0 s1 hS
      obtain ⟨w0, hw0⟩ : ∃ w0, wr = w0 := ⟨_, rfl⟩
      rw [hw0] at hE2 hown hsz HS ha hb ⊢
      have HW0 := Lib.hid hw0
      clear hw0
      go_wp2_with fail
      go_loopg [6, 27] 2 (fun g v iv wr => CdRel w0 gS #[] a b g v iv wr)
      case atStart => exact ⟨0, by omega, rfl, rfl, hE2, hown⟩
      case round =>
        clear hown hE2
        obtain ⟨k, hk, rfl, rfl, hE, hown⟩ := hrel
        have hsz2 := hE.size
        have s0 := (HS.out.ext hE).cell 0
        have s1 := (HS.out.ext hE).cell 1
        simp only [List.getElem?_toArray, List.getElem?_cons_zero, List.getElem?_cons_succ] at s0 s1
        have hk3 : k = 0 ∨ k = 1 ∨ k = 2 := by omega
        rcases hk3 with rfl | rfl | rfl
        · simp only [if_true] at hown
          have HOWN := Lib.hid hown
          clear hown
          go_wp2_with (at_builtin; refine wpList_cat _ rfl _ _ rfl w0.heap.size _ [] a rfl HOWN.out A ca rfl (ha.ext hE) (by simp; omega) hsz2 ?_; intro v' w' hown' hg')
          have hE' : Ext w0 w' := Ext.own hE HOWN.out (Nat.le_refl _) hg'
          go_roundg (2 - (0 + 1))
          case measure => omega
          case rel => exact ⟨1, by omega, rfl, rfl, hE', by simpa using hown'⟩
        · simp only [if_true, if_neg (show ¬ (1 : Nat) = 0 by omega)] at hown
          have HOWN := Lib.hid hown
          clear hown
          go_wp2_with (at_builtin; refine wpList_cat _ rfl _ _ rfl w0.heap.size _ a b rfl HOWN.out B cb rfl (hb.ext hE) (by omega) hsz2 ?_; intro v' w' hown' hg')
          have hE' : Ext w0 w' := Ext.own hE HOWN.out (Nat.le_refl _) hg'
          go_roundg (2 - (1 + 1))
          case measure => omega
          case rel => exact ⟨2, by omega, rfl, rfl, hE', hown'⟩
        · simp only [if_neg (show ¬ (2 : Nat) = 0 by omega), if_neg (show ¬ (2 : Nat) = 1 by omega)] at hown
          go_wp2_with fail
          go_ret
          exact ⟨_, rfl, by rw [HW0.out]; exact hown, by rw [HW0.out]; exact hE⟩

/-- a slice that reads as determinants, in new blocks -/
def SegPost (l : List Dt) (w : World) (e : Ending) (w' : World) : Prop := ∃ A c, e = .returned (.slice A l.length c) ∧ DtSeg w' A l ∧ l.length ≤ c ∧ c ≤ maxLen ∧ Ext w w'
theorem row_of_own {w : World} {base g n c : Nat} {xs : List Value} (h : w.ownsRow base 32 9 (.slice (some ⟨g, 0, none⟩) n c) n xs) : CellRow w g xs ∧ base ≤ g := by
  rcases h.2 with ⟨hv, _⟩ | ⟨g', cap, cur, hv, hb, hh, _, _, hs, ht⟩
  · injection hv with hv; cases hv
  · injection hv with hv _ _
    injection hv with hv
    injection hv with hv _
    subst hv
    refine ⟨⟨(Array.getElem?_eq_some_iff.1 hh).1, fun j u hu => ?_⟩, hb⟩
    have hl := (List.getElem?_eq_some_iff.1 hu).1
    rw [← ht] at hu hl
    rw [List.length_take] at hl
    rw [List.getElem?_take_of_lt (by omega)] at hu
    refine ⟨?_, ?_⟩
    · simp only [World.cell?, hh]
      simpa using hu
    · simp [World.frozen?, hh]
theorem shp_of_own {w : World} {base g n c : Nat} {xs : List Value} (h : w.ownsRow base 32 9 (.slice (some ⟨g, 0, none⟩) n c) n xs) : Shp w g (c * 9) := by
  rcases h.2 with ⟨hv, _⟩ | ⟨g', cap, cur, hv, hb, hh, _, _, hs, ht⟩
  · injection hv with hv; cases hv
  · injection hv with hv _ hc
    injection hv with hv
    injection hv with hv _
    subst hv hc
    exact ⟨cur, hh, hs⟩
theorem asc_of_steps (l : List Dt) : (∀ i (h : i + 1 < l.length), cmpD (l[i]'(by omega)) l[i + 1] < 0) → AscD l := by
  intro h
  rw [AscD, List.pairwise_iff_getElem]
  intro i j hi hj hij
  obtain ⟨d, rfl⟩ : ∃ d, j = i + 1 + d := ⟨j - i - 1, by omega⟩
  induction d with
  | zero => exact h i hj
  | succ d ih => exact cmpD_lt_trans (ih (by omega) (by omega)) (h (i + 1 + d) (by omega))
def StRel (w0 : World) (l : List Dt) (g : Nat) (i : Value) (wr : World) : Prop := ∃ q : Nat, (q + 1 ≤ l.length ∨ q = 0) ∧ i = .int .i64 ((q : Int) + 1) ∧ g = l.length - (q + 1) ∧ Ext w0 wr ∧ ∀ i (h : i + 1 < l.length), i < q → cmpD (l[i]'(by omega)) l[i + 1] < 0

set_option maxRecDepth 100000 in
set_option maxHeartbeats 1600000 in
theorem stock_own (A : Option Addr) (c : Nat) (l : List Dt) (w : World) (hs : DtSeg w A l) (hn : l.length ≤ 1000) :
    Calls Try.prog 57 #[.slice A l.length c] w (OwnPost (stockV l) w) := by
  have hn' : (l.length : Int) ≤ 1000 := by omega
  go_enter Try.func57, Try.ntmps57
  go_wp2_with fail
  refine (clone_any A c l w hs hn).mono ?_
  rintro e w1 ⟨v, rfl, hown, hE1⟩
  clear hs
  obtain ⟨A1, c1, rfl, hs1, hc1, hc1m⟩ := own_slice hown
  have HOWN := Lib.hid hown
  clear hown
  go_wp2_with fail
  go_loopg [4] (l.length - 1) (fun g i wr => StRel w1 l g i wr)
  case atStart => exact ⟨0, .inr rfl, rfl, rfl, Ext.refl _, fun i _ h => by omega⟩
  case round =>
    obtain ⟨q, hq, rfl, rfl, hE, hasc⟩ := hrel
    have HASC := Lib.hid hasc
    clear hasc
    by_cases hlt : q + 1 < l.length
    · obtain ⟨g, rfl⟩ : ∃ g, A1 = some ⟨g, 0, none⟩ := by
        rcases HOWN.out.2 with ⟨_, h⟩ | ⟨g, _, _, hv, _⟩
        · omega
        · injection hv with hv _ _
          exact ⟨g, hv⟩
      obtain ⟨x, hx⟩ : ∃ x, l[q]'(by omega) = x := ⟨_, rfl⟩
      obtain ⟨y, hy⟩ : ∃ y, l[q + 1] = y := ⟨_, rfl⟩
      have hD := hs1.ext hE
      have fX := fun d os => grownS hD (by omega) hx d os
      have fY := fun d os => grownS hD hlt hy d os
      have CXY := Lib.hid (compare_sl x y)
      have hb1 := cmpD_bd x y
      have HXY : Hid (cmpD (l[q]'(by omega)) l[q + 1] = cmpD x y) := by show cmpD _ _ = _; rw [hx, hy]
      obtain ⟨v1, e1⟩ : ∃ v, cmpD x y = v := ⟨_, rfl⟩
      rw [e1] at CXY hb1 HXY
      have HD := Lib.hid hD
      have hq0 : (0 : Int) ≤ (q : Int) + 1 := by omega
      have hq1 : (q : Int) + 1 < (l.length : Int) := by omega
      have hq2 : (0 : Int) ≤ (q : Int) := by omega
      have hq3 : (q : Int) < (l.length : Int) := by omega
      clear hx hy e1 hD
      by_cases q1 : 0 ≤ v1
      · have d1 : decide (0 ≤ v1) = true := decide_eq_true q1
        go_upto_region 5 with fail
        refine wp_region_quiet_below (by kernel_rfl) (by kernel_rfl) ?_
        repeat (go_big_quiet_step (first | with_reducible exact call_grownS CXY.out))
        refine wpQuiet_nil ?_
        intro _ hw'
        obtain ⟨⟨dq, osq⟩, hw''⟩ := hw'
        subst hw''
        obtain ⟨hrow, hgb⟩ := row_of_own HOWN.out
        have hrow2 := hrow.ext (Ext.trans hE (below_regrown wr dq osq))
        have hX2 := Ext.trans hE1 (Ext.trans hE (below_regrown wr dq osq))
        have HS := Lib.hid (sort_row g c1 l _ hrow2 hn)
        clear fX fY hrow
        go_wp2_with fail
        refine HS.out.mono ?_
        rintro e w5 ⟨rfl, hG5, hR5⟩
        have hlen := sortD_len l
        have HC := compact_row g c1 (sortD l) w5 hR5 (by omega) hc1m (by omega)
        rw [hlen] at HC
        go_wp2_with fail
        refine HC.mono ?_
        rintro e w6 ⟨rfl, hG6, hR6⟩
        go_wp2_with fail
        go_ret
        have hcl := cpt_len (sortD l)
        have hG := gs_trans hG5 hG6
        have hsh := hG.2 _ ((shp_of_own HOWN.out).ext (Ext.trans hE (below_regrown wr dq osq)))
        exact ⟨_, rfl, own_of_row hR6 hsh (by omega) hc1m hgb, Ext.grownRow hX2 hgb hG.1⟩
      · have d1 : decide (0 ≤ v1) = false := decide_eq_false q1
        go_upto_region 5 with fail
        refine wp_region_quiet_below (by kernel_rfl) (by kernel_rfl) ?_
        repeat (go_big_quiet_step (first | with_reducible exact call_grownS CXY.out))
        refine wpQuiet_nil ?_
        intro _ hw'
        obtain ⟨⟨dq, osq⟩, hw''⟩ := hw'
        subst hw''
        go_wp2_with fail
        go_roundg (l.length - (q + 1 + 1))
        case measure => omega
        case rel =>
          refine ⟨q + 1, .inl (by omega), by go_num, rfl, Ext.trans hE (below_regrown wr dq osq), fun i h hi => ?_⟩
          by_cases e : i = q
          · subst e
            rw [HXY.out]; omega
          · exact HASC.out i h (by omega)
    · have HV : Hid (stockV l = l) := stock_same (asc_of_steps l (fun i h => HASC.out i h (by omega)))
      go_wp2_with fail
      go_ret
      refine ⟨_, rfl, ?_, Ext.trans hE1 hE⟩
      rw [HV.out]
      exact own_ext HOWN.out hE
theorem stock_any (A : Option Addr) (c : Nat) (l : List Dt) (w : World) (hs : DtSeg w A l) (hn : l.length ≤ 1000) :
    Calls Try.prog 57 #[.slice A l.length c] w (SegPost (stockV l) w) := by
  refine (stock_own A c l w hs hn).mono ?_
  rintro e w1 ⟨v, rfl, hown, hE⟩
  obtain ⟨A1, c1, rfl, hs1, hc1, hc1m⟩ := own_slice hown
  exact ⟨A1, c1, rfl, hs1, hc1, hc1m, hE⟩
set_option maxRecDepth 100000 in
set_option maxHeartbeats 800000 in
theorem merge_any (A B : Option Addr) (ca cb : Nat) (a b : List Dt) (w : World) (ha : DtSeg w A a) (hb : DtSeg w B b) (hla : a.length ≤ 700) (hlb : b.length ≤ 300) :
    Calls Try.prog 43 #[.slice A a.length ca, .slice B b.length cb] w (SegPost (stockV (a ++ b)) w) := by
  have hS := Blk.new w 56 #[.slice A a.length ca, .slice B b.length cb]
  have ha1 := Seg.alloc ha (.cells #[.slice A a.length ca, .slice B b.length cb] 56)
  have hb1 := Seg.alloc hb (.cells #[.slice A a.length ca, .slice B b.length cb] 56)
  have HC := Lib.hid (concat_two w.heap.size A B ca cb a b (w.alloc (.cells #[.slice A a.length ca, .slice B b.length cb] 56)) hS ha1 hb1 hla hlb)
  have hLl : (a ++ b).length ≤ 1000 := by rw [List.length_append]; omega
  generalize a ++ b = L at HC hLl ⊢
  clear ha1 hb1 hS
  go_enter Try.func43, Try.ntmps43
  go_wp2_with fail
  refine HC.out.mono ?_
  rintro e w1 ⟨v, rfl, hown, hE1⟩
  obtain ⟨A1, c1, rfl, hs1, hc1, hc1m⟩ := own_slice hown
  have hX := Ext.trans ((Ext.refl w).allocs (.cells #[.slice A a.length ca, .slice B b.length cb] 56)) hE1
  clear hown HC hE1
  go_wp2_with fail
  refine (stock_any A1 c1 L w1 hs1 hLl).mono ?_
  rintro e w2 ⟨A2, c2, rfl, hs2, hc2, hc2m, hE2⟩
  go_wp2_with fail
  go_ret
  exact ⟨A2, c2, rfl, hs2, hc2, hc2m, Ext.trans hX hE2⟩
end Go.Proofs.Ytfnnoncdocghjaa.Dd
namespace Go.Proofs.Ytfnnoncdocghjaa.Dd
open Go.RowKit Go.Shelf Go.Lib Go.Sort
set_option linter.unusedVariables false
set_option maxRecDepth 100000


theorem setAll_split (xs vs : List Value) (o : Nat) (h : o + vs.length ≤ xs.length) : setAll xs o vs = xs.take o ++ vs ++ xs.drop (o + vs.length) := by
  apply List.ext_getElem?
  intro q
  rw [setAll_get]
  by_cases h1 : q < o
  · rw [if_neg (by omega), List.append_assoc, List.getElem?_append_left (by rw [List.length_take]; omega), List.getElem?_take_of_lt h1]
  · by_cases h2 : q < o + vs.length
    · rw [if_pos ⟨by omega, h2, by omega⟩, List.append_assoc, List.getElem?_append_right (by rw [List.length_take]; omega), List.getElem?_append_left (by rw [List.length_take]; omega), List.length_take, Nat.min_eq_left (by omega)]
    · rw [if_neg (by omega), List.getElem?_append_right (by rw [List.length_append, List.length_take]; omega), List.getElem?_drop, List.length_append, List.length_take, Nat.min_eq_left (by omega)]
      congr 1
      omega
theorem drop_flat (l : List Dt) (k : Nat) (hk : k ≤ l.length) : (l.drop k).flatMap Dt.cells = (l.flatMap Dt.cells).drop (k * 9) := by
  have e : l.flatMap Dt.cells = (l.take k).flatMap Dt.cells ++ (l.drop k).flatMap Dt.cells := by rw [← List.flatMap_append, List.take_append_drop]
  have hA : ((l.take k).flatMap Dt.cells).length = k * 9 := by rw [flat_len Dt.cells 9 Dt.len, List.length_take, Nat.min_eq_left hk]
  rw [e, ← hA]
  exact List.drop_left.symm
theorem setAll_flats (X Y : List Dt) (r : Nat) (h : r + Y.length ≤ X.length) : setAll (X.flatMap Dt.cells) (r * 9) (Y.flatMap Dt.cells) = (X.take r ++ Y ++ X.drop (r + Y.length)).flatMap Dt.cells := by
  have hY := flat_len Dt.cells 9 Dt.len Y
  have hX := flat_len Dt.cells 9 Dt.len X
  rw [setAll_split _ _ _ (by omega), List.flatMap_append, List.flatMap_append, take_flat X r (by omega), drop_flat X (r + Y.length) h, hY]
  congr 2
  omega
/-- stores into a row that the call owns -/
theorem own_sets {w : World} {base g n cap : Nat} {xs vs : List Value} {o : Nat} (h : w.ownsRow base 32 9 (.slice (some ⟨g, 0, none⟩) n cap) n xs) (hl : o + vs.length ≤ xs.length) : (w.setCells g o vs).ownsRow base 32 9 (.slice (some ⟨g, 0, none⟩) n cap) n (setAll xs o vs) := by
  refine ⟨by rw [setAll_len]; exact h.1, .inr ?_⟩
  rcases h.2 with ⟨hv, _⟩ | ⟨g', cap', cur, hv, hb, hh, hc, hm, hs, ht⟩
  · injection hv with hv; cases hv
  · injection hv with hv _ hcap
    injection hv with hv
    injection hv with hv _
    subst hv hcap
    refine ⟨g, cap, (setAll cur.toList o vs).toArray, rfl, hb, heap_sets vs o w cur.toList hh, hc, hm, by simp only [List.size_toArray, setAll_len, Array.length_toList]; exact hs, ?_⟩
    have hxl : xs.length = n * 9 := h.1
    have hcl : n * 9 ≤ cur.toList.length := by
      have := congrArg List.length ht
      rw [List.length_take, hxl] at this
      omega
    show (setAll cur.toList o vs).take (n * 9) = setAll xs o vs
    apply List.ext_getElem?
    intro q
    by_cases hq : q < n * 9
    · rw [List.getElem?_take_of_lt hq, setAll_get, setAll_get]
      have hcx : cur.toList[q]? = xs[q]? := by rw [← ht, List.getElem?_take_of_lt hq]
      by_cases hin : o ≤ q ∧ q < o + vs.length
      · rw [if_pos ⟨hin.1, hin.2, by omega⟩, if_pos ⟨hin.1, hin.2, by omega⟩]
      · rw [if_neg (fun h => hin ⟨h.1, h.2.1⟩), if_neg (fun h => hin ⟨h.1, h.2.1⟩), hcx]
    · rw [List.getElem?_eq_none (by rw [List.length_take, setAll_len]; omega), List.getElem?_eq_none (by rw [setAll_len]; omega)]
theorem ins_list {out : List Dt} {r : Nat} (x : Dt) (hr : r < out.length) : (out.take (r + 1) ++ out.drop r).set r x = out.take r ++ x :: out.drop r := by
  rw [List.take_succ_eq_append_getElem hr, List.append_assoc, List.set_append_right _ _ (by rw [List.length_take]; omega), List.length_take, Nat.min_eq_left (by omega), Nat.sub_self]
  rfl
/-- copy within a row, by one place -/
theorem run_copy_det (w : World) (ty : TypeId) (g r n dc sc : Nat) (X : List Dt) (h : Row w g X) (hX : X.length = n + 1) (hr : r < n) :
    (Builtin.copy_ #[56, 56] ty #[.slice (some ⟨g, (r + 1) * 9, none⟩) (n - r) dc, .slice (some ⟨g, r * 9, none⟩) (n + 1 - r) sc]).run Try.prog w = .ok (goInt (n - r : Nat)) (w.setCells g ((r + 1) * 9) (((X.drop r).take (n - r)).flatMap Dt.cells)) := by
  obtain ⟨i0, hi, hz0, hz1, hz2⟩ := info_parts infoDet
  have hfl := flat_len Dt.cells 9 Dt.len X
  have hcl : (((X.drop r).take (n - r)).flatMap Dt.cells).length = (n - r) * 9 := by rw [flat_len Dt.cells 9 Dt.len, List.length_take, List.length_drop]; congr 1; omega
  have hsrc : ∀ j v, (((X.drop r).take (n - r)).flatMap Dt.cells)[j]? = some v → w.cell? ((⟨g, r * 9, none⟩ : Addr).add j) = some v := by
    intro j v hv
    have hj := (List.getElem?_eq_some_iff.1 hv).1
    rw [hcl] at hj
    rw [take_flat _ _ (by rw [List.length_drop]; omega), drop_flat X r (by omega), List.getElem?_take_of_lt hj, List.getElem?_drop] at hv
    have hadd : (⟨g, r * 9, none⟩ : Addr).add j = ⟨g, r * 9 + j, none⟩ := by unfold Addr.add; split <;> simp_all
    rw [hadd]
    exact (h.2 _ v hv).1
  have ho := Dt.ones ((X.drop r).take (n - r))
  generalize ((X.drop r).take (n - r)).flatMap Dt.cells = cs at *
  have hfc := run_firstCells_some (P := Try.prog) w 9 (n - r) ⟨g, r * 9, none⟩ (n + 1 - r) sc cs hcl hsrc
  have hst := run_storeCells_cells (P := Try.prog) g ((r + 1) * 9) cs 0 w (fun j hj => by
      have hj' : (r + 1) * 9 + j < (X.flatMap Dt.cells).length := by omega
      rw [Nat.add_zero, (h.2 _ _ (List.getElem?_eq_getElem hj')).1]; rfl) (fun j hj => by
      have hj' : (r + 1) * 9 + j < (X.flatMap Dt.cells).length := by omega
      rw [Nat.add_zero]; exact (h.2 _ _ (List.getElem?_eq_getElem hj')).2) ho
  simp only [Nat.add_zero] at hst
  have hmin : Nat.min (n + 1 - r) (n - r) = n - r := by
    show min (n + 1 - r) (n - r) = n - r
    omega
  simp [Builtin.copy_, run_underlying Try.underlying56, Builtin.lenOf, sizeOf, typeInfo, hi, hz1, hmin, hfc, hst]
theorem run_copy_none (w : World) (ty : TypeId) (d s : Option Addr) (dc sl sc : Nat) :
    (Builtin.copy_ #[56, 56] ty #[.slice d 0 dc, .slice s sl sc]).run Try.prog w = .ok (goInt 0) w := by
  obtain ⟨i0, hi, hz0, hz1, hz2⟩ := info_parts infoDet
  have hl : ∀ (x : Addr), (loadCells x 0).run Try.prog w = .ok #[] w := fun x => by simpa using run_loadCells_list (P := Try.prog) w x [] (by simp)
  cases d <;> cases s <;> simp [Builtin.copy_, run_underlying Try.underlying56, Builtin.lenOf, Builtin.firstCells, sizeOf, typeInfo, hi, storeCells, hl]
theorem insV_len (out : List Dt) (d : Dt) : (insV out d).length ≤ out.length + 1 := by
  unfold insV
  split
  · omega
  · rw [List.length_append, List.length_cons, List.length_take, List.length_drop]; omega
theorem insAll_len (l : List Dt) : ∀ i, (insAll l i).length ≤ i
  | 0 => Nat.le_refl _
  | i + 1 => by
    have := insV_len (insAll l i) (l.getD i ⟨0, 0, ⟨0, 0, 0, 0, 0, 0, 0⟩⟩)
    have := insAll_len l i
    rw [insAll]
    omega

abbrev zDt : Dt := ⟨0, 0, ⟨0, 0, 0, 0, 0, 0, 0⟩⟩
def MgRel (w : World) (L : List Dt) (g : Nat) (v iv : Value) (wr : World) : Prop := ∃ i : Nat, i ≤ L.length ∧ iv = .int .i64 i ∧ g = L.length - i ∧ Ext w wr ∧ wr.ownsRow w.heap.size 32 9 v (insAll L i).length ((insAll L i).flatMap Dt.cells)
def BxRel (w : World) (v : Value) (out : List Dt) (x : Dt) (s7 : Value) (wx : World) : Prop := ∃ gB, s7 = .pointer (some ⟨gB, 0, none⟩) ∧ Blk wx gB 32 x.cells.toArray ∧ Ext w wx ∧ wx.ownsRow w.heap.size 32 9 v out.length (out.flatMap Dt.cells) ∧ ∀ q, v.ownBlock = some q → q < gB
def KkRel (wc : World) (out : List Dt) (x : Dt) (g : Nat) (kv : Value) (wr : World) : Prop := ∃ k : Nat, k ≤ out.length ∧ kv = .int .i64 k ∧ k = g ∧ Ext wc wr ∧ insK out x out.length = insK out x k
theorem own_lt {w : World} {base : Nat} {e : TypeId} {s n : Nat} {v : Value} {xs : List Value} (h : w.ownsRow base e s v n xs) : ∀ q, v.ownBlock = some q → q < w.heap.size := fun q hq => (h.lt q hq).2
theorem own_extD {w w' : World} {base : Nat} {e : TypeId} {s n : Nat} {v : Value} {xs : List Value} (h : w.ownsRow base e s v n xs) (hE : Ext w w') : w'.ownsRow base e s v n xs := h.kept (ext_grown hE none) (by cases hq : v.ownBlock <;> simp)
theorem getD_lt {l : List Dt} {i : Nat} (d : Dt) (h : i < l.length) : l.getD i d = l[i] := by rw [List.getD_eq_getElem?_getD, List.getElem?_eq_getElem h]; rfl

theorem run_from (w : World) (g n cap l : Nat) (li : Int) (hli : li = l) (hl : l ≤ n) : (Instr.slice 56 (.slice (some ⟨g, 0, none⟩) n cap) (some (.int .i64 li)) none none).run Try.prog w = .ok (.slice (some (if cap = l then ⟨g, 0, none⟩ else ⟨g, l * 9, none⟩)) (n - l) (cap - l)) w := by
  subst hli
  obtain ⟨i0, hi, hz0, hz1, hz2⟩ := info_parts infoDet
  have h1 : (0 : Int) ≤ (l : Int) := by omega
  have h2 : (l : Int) ≤ (n : Int) := by omega
  by_cases hc : cap = l
  · simp [Instr.slice, Instr.sliceBounds, run_underlying Try.underlying56, go_sem, sizeOf, typeInfo, hi, hz1, h1, h2, hc]
  · simp [Instr.slice, Instr.sliceBounds, run_underlying Try.underlying56, go_sem, sizeOf, typeInfo, hi, hz1, h1, h2, hc]
theorem wpList_pushD {ops : Array Oper} {rest : List Oper} {o : Oper} {ac : Act} {Q : Exit → Act → World → Prop} (W : World) (hgd : o.guard = none) (so xo : Operand) (ho : o.op = .call { callee := .builtin .append, args := #[so, xo], argTypes := #[56, 56] })
    (base : Nat) (v : Value) (out : List Dt) (hso : ac.eval so = v) (hown : W.ownsRow base 32 9 v out.length (out.flatMap Dt.cells)) (hxo : ac.eval xo = .slice (some ⟨W.heap.size, 0, none⟩) 1 1) (hl : out.length ≤ 2000) (hbase : base ≤ W.heap.size)
    (h : ∀ g cap w', w'.ownsRow base 32 9 (.slice (some ⟨g, 0, none⟩) (out.length + 1) cap) (out.length + 1) ((out ++ [zDt]).flatMap Dt.cells) → out.length + 1 ≤ cap → cap ≤ maxLen → W.grownBy w' v.ownBlock → (v.ownBlock = some g ∨ W.heap.size < g) → wpList Try.prog ops Q rest (ac.put o.dst (.slice (some ⟨g, 0, none⟩) (out.length + 1) cap)) w') :
    wpList Try.prog ops Q (o :: rest) ac (W.alloc (.cells zDt.cells.toArray 32)) := by
  obtain ⟨i0, hi, hz0, hz1, hz2⟩ := info_parts infoDet
  have hO := own_extD hown ((Ext.refl W).allocs (.cells zDt.cells.toArray 32))
  have hB := Blk.new W 32 zDt.cells.toArray
  refine wpList_append_own_at (P := Try.prog) _ hgd so xo _ ho base _ i0 _ 9 72 Try.underlying56 hi hz0 hz1 hz2 rfl (by omega) v out.length _ hso hO ⟨W.heap.size, 0, none⟩ 1 1 zDt.cells hxo rfl (fun j u hu => ?_) (Dt.one zDt) (by unfold maxLen; omega) (by omega) (by simp; omega) ?_
  · have hadd : (⟨W.heap.size, 0, none⟩ : Addr).add j = ⟨W.heap.size, j, none⟩ := by unfold Addr.add; split <;> simp_all
    rw [hadd, hB.cell]
    simpa using hu
  · intro v' w' hown' hg' _ hblk
    obtain ⟨A', c', rfl, _, hc, hcm⟩ := own_slice hown'
    obtain ⟨g, rfl⟩ : ∃ g, A' = some ⟨g, 0, none⟩ := by
      rcases hown'.2 with ⟨_, h0⟩ | ⟨g, _, _, hv, _⟩
      · omega
      · injection hv with hv _ _
        exact ⟨g, hv⟩
    refine h g c' w' (by rw [List.flatMap_append]; simpa using hown') hc hcm (grown_trans (ext_grown ((Ext.refl W).allocs _) _) hg') ?_
    rcases hblk with hq | hq
    · exact .inl hq.symm
    · right
      simp only [Value.ownBlock, Option.some.injEq] at hq
      rw [hq]
      simp

set_option maxRecDepth 100000 in
set_option maxHeartbeats 3200000 in
theorem rmerge_any (A B : Option Addr) (ca cb : Nat) (a b : List Dt) (w : World) (ha : DtSeg w A a) (hb : DtSeg w B b) (hla : a.length ≤ 700) (hlb : b.length ≤ 300) :
    Calls Try.prog 68 #[.slice A a.length ca, .slice B b.length cb] w (OwnPost (stockV (a ++ b)) w) := by
  have hla' : (a.length : Int) ≤ 700 := by omega
  have hlb' : (b.length : Int) ≤ 300 := by omega
  obtain ⟨L, hL⟩ : ∃ L, a ++ b = L := ⟨_, rfl⟩
  have hLl : L.length = a.length + b.length := by rw [← hL, List.length_append]
  have HL := Lib.hid hL
  rw [hL]
  clear hL
  go_enter Try.func68, Try.ntmps68
  go_wp2_with fail
  go_loopg [5, 6] L.length (fun g v iv wr => MgRel w L g v iv wr)
  case atStart => exact ⟨0, Nat.zero_le _, rfl, rfl, Ext.refl _, World.ownsRow_nil _ _ _ _⟩
  case round =>
    obtain ⟨i, hi, rfl, rfl, hE, hown⟩ := hrel
    by_cases hil : i < L.length
    · have HINS : Hid (insAll L (i + 1) = insV (insAll L i) (L.getD i zDt)) := rfl
      have hol := insAll_len L i
      obtain ⟨out, hout⟩ : ∃ out, insAll L i = out := ⟨_, rfl⟩
      rw [hout] at hown HINS hol
      obtain ⟨x, hx⟩ : ∃ x, L.getD i zDt = x := ⟨_, rfl⟩
      rw [hx] at HINS
      have HX := Lib.hid hx
      have HOWN := Lib.hid hown
      clear hout hx hown
      have hiI : (i : Int) < (a.length : Int) + (b.length : Int) := by omega
      go_upto_if 22 with fail
      go_cut [7] from 9 to 76 (fun s7 wx => BxRel w u5 out x s7 wx)
      case first =>
        by_cases hia : i < a.length
        · have hax : a[i] = x := by
            have := HX.out
            rw [← HL.out, getD_lt zDt (by rw [List.length_append]; omega), List.getElem_append_left hia] at this
            exact this
          obtain ⟨tb, toff, rfl, p0, p1, p2, p3, p4, p5, p6, p7, p8⟩ := Dt.at_ (Seg.alloc (ha.ext hE) (.cells #[.int .i64 0, .int .i64 0, .int .i64 0, .int .i64 0, .int .i64 0, .int .i64 0, .int .i64 0, .int .i64 0, .int .i64 0] 32)) hia
          rw [hax] at p0 p1 p2 p3 p4 p5 p6 p7 p8
          go_wp2_with fail
          go_meet
          exact ⟨wr.heap.size, rfl, Blk.new wr 32 x.cells.toArray, hE.allocs _, own_extD HOWN.out ((Ext.refl wr).allocs _), own_lt HOWN.out⟩
        · have hbx : b[i - a.length]'(by omega) = x := by
            have := HX.out
            rw [← HL.out, getD_lt zDt (by rw [List.length_append]; omega), List.getElem_append_right (by omega)] at this
            exact this
          obtain ⟨j, hj⟩ : ∃ j, i = a.length + j := ⟨i - a.length, by omega⟩
          subst hj
          have hjb : j < b.length := by omega
          obtain ⟨tb, toff, rfl, p0, p1, p2, p3, p4, p5, p6, p7, p8⟩ := Dt.at_ (Seg.alloc (hb.ext hE) (.cells #[.int .i64 0, .int .i64 0, .int .i64 0, .int .i64 0, .int .i64 0, .int .i64 0, .int .i64 0, .int .i64 0, .int .i64 0] 32)) hjb
          have hbx' : b[j] = x := by rw [← hbx]; congr 1; omega
          rw [hbx'] at p0 p1 p2 p3 p4 p5 p6 p7 p8
          go_wp2_with fail
          go_meet
          exact ⟨wr.heap.size, rfl, Blk.new wr 32 x.cells.toArray, hE.allocs _, own_extD HOWN.out ((Ext.refl wr).allocs _), own_lt HOWN.out⟩
      case rest =>
        obtain ⟨gB, rfl, hBx, hEc, hownc, hvq⟩ := hcut
        have HOWC := Lib.hid hownc
        have HVQ := Lib.hid hvq
        clear hownc hvq HOWN hE
        obtain ⟨Av, cv, rfl, hsv, hcv, hcvm⟩ := own_slice HOWC.out
        have hol' : (out.length : Int) ≤ 1000 := by omega
        go_wp2_with fail
        go_loopg [8] out.length (fun g kv wr => KkRel wc out x g kv wr)
        case atStart => exact ⟨out.length, Nat.le_refl _, rfl, rfl, Ext.refl _, rfl⟩
        case round =>
          obtain ⟨k, hk, rfl, rfl, hE2, hins⟩ := hrel
          have HI := Lib.hid hins
          clear hins
          have hB2 := hBx.ext hE2
          obtain ⟨b0, b1, b2, b3, b4, b5, b6, b7, b8⟩ := blk9 hB2
          by_cases hk0 : k = 0
          · have HR : Hid (insK out x out.length = k) := by show insK out x out.length = k; rw [HI.out, hk0]; rfl
            have dk : decide (0 < (k : Int)) = false := decide_eq_false (by omega)
            have dkN : decide (0 < k) = false := decide_eq_false (by omega)
            have dkM : ¬ 0 < k := by omega
            have HNS : Hid (insV out x = out.take k ++ x :: out.drop k) := by
              show insV out x = _
              unfold insV
              rw [HR.out, if_neg (by omega)]
            have HK0 := Lib.hid hk0
            clear hk0
            go_upto_region 10 with fail
            go_quiet (fail)
            go_upto_region 12 with fail
            go_quiet (fail)
            go_upto_region 13 with fail
            clear b0 b1 b2 b3 b4 b5 b6 b7 b8
            go_wp2_with (at_builtin; refine wpList_pushD _ rfl _ _ rfl w.heap.size _ out rfl (own_extD HOWC.out (Ext.drewN hE2 _)) rfl (by omega) (Below.size (Ext.trans hEc (Ext.drewN hE2 _))) ?_; intro g6 cap6 w6 hown6 hc6 hc6m hg6 hblk6)
            have hE6 : Ext w w6 := Ext.own (Ext.trans hEc (Ext.drewN hE2 _)) (own_extD HOWC.out (Ext.drewN hE2 _)) (Nat.le_refl _) hg6
            have hB6 : Blk w6 gB 32 x.cells.toArray := (hg6.block gB (Blk.lt (hBx.ext (Ext.drewN hE2 _))) (fun e => absurd (HVQ.out gB e.symm) (Nat.lt_irrefl _))).trans (hBx.ext (Ext.drewN hE2 _))
            have hne6 : g6 ≠ gB := by
              intro e
              rcases hblk6 with h | h
              · have := HVQ.out g6 h; omega
              · exact absurd (Nat.lt_trans (Blk.lt (hBx.ext hE2)) h) (by rw [e]; exact Nat.lt_irrefl _)
            have hRow6 := (row_of_own hown6).1
            have hgw6 := (row_of_own hown6).2
            obtain ⟨X, hX⟩ : ∃ X, out ++ [zDt] = X := ⟨_, rfl⟩
            have hXl : X.length = out.length + 1 := by rw [← hX, List.length_append]; rfl
            rw [hX] at hown6 hRow6
            have HXE := Lib.hid hX
            clear hX hg6 hblk6
            have hkI : (k : Int) ≤ (out.length : Int) := by omega
            have hkI1 : (k : Int) < (out.length : Int) + 1 := by omega
            have hkI0 : (0 : Int) ≤ (k : Int) := by omega
            have hwk : IntKind.i64.wrap ((k : Int) + 1) = (k : Int) + 1 := IntWalk.i64_in _ (by omega)
            have hkJ : (0 : Int) ≤ (k : Int) + 1 := by omega
            have hkJ1 : (k : Int) + 1 ≤ (out.length : Int) + 1 := by omega
            go_upto_region 14 with fail
            have hR7 : Row w6.drew g6 X := hRow6
            have hB7 : Blk w6.drew gB 32 x.cells.toArray := hB6
            have hE7 : Ext w w6.drew := Below.drew hE6
            have hown7 : w6.drew.ownsRow w.heap.size 32 9 (.slice (some ⟨g6, 0, none⟩) (out.length + 1) cap6) (out.length + 1) (X.flatMap Dt.cells) := hown6
            by_cases hkn : k = out.length
            · have HK : Hid (X.set k x = out.take k ++ x :: out.drop k) := by
                show X.set k x = _
                rw [← HXE.out, hkn, List.take_length, List.drop_length, List.set_append_right _ _ (Nat.le_refl _), Nat.sub_self]
                rfl
              have hsl1 := fun w => run_from w g6 (out.length + 1) cap6 (k + 1) ((k : Int) + 1) (by omega) (by omega)
              have hsl2 := fun w => run_from w g6 (out.length + 1) cap6 k (k : Int) rfl (by omega)
              rw [show out.length + 1 - (k + 1) = 0 by omega] at hsl1
              generalize (if cap6 = k + 1 then (⟨g6, 0, none⟩ : Addr) else ⟨g6, (k + 1) * 9, none⟩) = D1 at hsl1
              generalize (if cap6 = k then (⟨g6, 0, none⟩ : Addr) else ⟨g6, k * 9, none⟩) = S1 at hsl2
              have hcp := fun w d s dc sl sc => run_copy_none w 3 d s dc sl sc
              have HKN := Lib.hid hkn
              clear hkn
              go_still_tail 7, (by kernel_rfl)
              change wpList _ _ _ _ _ w6.drew
              have hkX : k < X.length := by omega
              have HO8 : Hid ((w6.drew.setCells g6 (k * 9) x.cells).ownsRow w.heap.size 32 9 (.slice (some ⟨g6, 0, none⟩) (out.length + 1) cap6) (out.length + 1) ((X.set k x).flatMap Dt.cells)) := by
                have := own_sets hown7 (o := k * 9) (vs := x.cells) (by rw [flat_len Dt.cells 9 Dt.len, Dt.len]; omega)
                rw [setAll_flat Dt.cells 9 (by omega) Dt.len X k x hkX] at this
                exact this
              have HE8 : Hid (Ext w (w6.drew.setCells g6 (k * 9) x.cells)) := Ext.grownRow hE7 hgw6 (grownRow_sets _ _ _ _)
              obtain ⟨c0, c1, c2, c3, c4, c5, c6, c7, c8⟩ := Row.at_ hR7 hkX
              obtain ⟨f0, f1, f2, f3, f4, f5, f6, f7, f8⟩ := Row.frz hR7 hkX
              obtain ⟨t0, t1, t2, t3, t4, t5, t6, t7, t8⟩ := blk9 hB7
              generalize X[k] = zz at c0 c1 c2 c3 c4 c5 c6 c7 c8
              clear hR7 hB7 hE7 hown7 hown6 hRow6 hB6 hE6
              generalize w6.drew = w7 at *
              go_wp2_with fail
              go_roundg (L.length - (i + 1))
              case measure => omega
              case rel => exact ⟨i + 1, by omega, by go_num, rfl, HE8.out, by rw [HINS.out, HNS.out, ← HK.out, List.length_set, hXl]; exact HO8.out⟩
            · have hkn' : k < out.length := by omega
              have HK : Hid ((X.take (k + 1) ++ (X.drop k).take (out.length - k)).set k x = out.take k ++ x :: out.drop k) := by
                show (X.take (k + 1) ++ (X.drop k).take (out.length - k)).set k x = _
                have e1 : (out ++ [zDt]).take (k + 1) = out.take (k + 1) := List.take_append_of_le_length (by omega)
                have e2 : ((out ++ [zDt]).drop k).take (out.length - k) = out.drop k := by rw [List.drop_append_of_le_length (by omega), List.take_append_of_le_length (by rw [List.length_drop]; omega), List.take_of_length_le (by rw [List.length_drop]; omega)]
                rw [← HXE.out, e1, e2]
                exact ins_list x hkn'
              have hsl1 := fun w => run_from w g6 (out.length + 1) cap6 (k + 1) ((k : Int) + 1) (by omega) (by omega)
              have hsl2 := fun w => run_from w g6 (out.length + 1) cap6 k (k : Int) rfl (by omega)
              rw [show out.length + 1 - (k + 1) = out.length - k by omega, if_neg (show ¬ cap6 = k + 1 by omega)] at hsl1
              rw [if_neg (show ¬ cap6 = k by omega)] at hsl2
              have hcp := run_copy_det w6.drew 3 g6 k out.length (cap6 - (k + 1)) (cap6 - k) X hR7 hXl hkn'
              have hYl : ((X.drop k).take (out.length - k)).length = out.length - k := by rw [List.length_take, List.length_drop]; omega
              have hO8 : (w6.drew.setCells g6 ((k + 1) * 9) (((X.drop k).take (out.length - k)).flatMap Dt.cells)).ownsRow w.heap.size 32 9 (.slice (some ⟨g6, 0, none⟩) (out.length + 1) cap6) (out.length + 1) ((X.take (k + 1) ++ (X.drop k).take (out.length - k)).flatMap Dt.cells) := by
                have := own_sets hown7 (o := (k + 1) * 9) (vs := ((X.drop k).take (out.length - k)).flatMap Dt.cells) (by rw [flat_len Dt.cells 9 Dt.len, flat_len Dt.cells 9 Dt.len, hYl]; omega)
                rw [setAll_flats X ((X.drop k).take (out.length - k)) (k + 1) (by rw [hYl]; omega), hYl, show X.drop (k + 1 + (out.length - k)) = [] from List.drop_eq_nil_of_le (by omega), List.append_nil] at this
                exact this
              have hE8 : Ext w (w6.drew.setCells g6 ((k + 1) * 9) (((X.drop k).take (out.length - k)).flatMap Dt.cells)) := Ext.grownRow hE7 hgw6 (grownRow_sets _ _ _ _)
              have hB8 : Blk (w6.drew.setCells g6 ((k + 1) * 9) (((X.drop k).take (out.length - k)).flatMap Dt.cells)) gB 32 x.cells.toArray := (World.heap_setCells_other _ g6 _ _ hB7.lt (fun e => hne6 e.symm)).trans hB7
              obtain ⟨Y, hY⟩ : ∃ Y, X.take (k + 1) ++ (X.drop k).take (out.length - k) = Y := ⟨_, rfl⟩
              have hYY : Y.length = out.length + 1 := by rw [← hY, List.length_append, hYl, List.length_take]; omega
              rw [hY] at HK hO8
              have HKN := Lib.hid hkn
              clear hkn hY hYl
              go_still_tail 7, (by kernel_rfl)
              change wpList _ _ _ _ _ w6.drew
              obtain ⟨w8, hw8⟩ : ∃ w8, w6.drew.setCells g6 ((k + 1) * 9) (((X.drop k).take (out.length - k)).flatMap Dt.cells) = w8 := ⟨_, rfl⟩
              rw [hw8] at hcp hO8 hE8 hB8
              clear hw8
              have hkX : k < Y.length := by omega
              have hR8 := (row_of_own hO8).1
              have HO9 : Hid ((w8.setCells g6 (k * 9) x.cells).ownsRow w.heap.size 32 9 (.slice (some ⟨g6, 0, none⟩) (out.length + 1) cap6) (out.length + 1) ((Y.set k x).flatMap Dt.cells)) := by
                have := own_sets hO8 (o := k * 9) (vs := x.cells) (by rw [flat_len Dt.cells 9 Dt.len, Dt.len]; omega)
                rw [setAll_flat Dt.cells 9 (by omega) Dt.len Y k x hkX] at this
                exact this
              have HE9 : Hid (Ext w (w8.setCells g6 (k * 9) x.cells)) := Ext.grownRow hE8 hgw6 (grownRow_sets _ _ _ _)
              obtain ⟨c0, c1, c2, c3, c4, c5, c6, c7, c8⟩ := Row.at_ hR8 hkX
              obtain ⟨f0, f1, f2, f3, f4, f5, f6, f7, f8⟩ := Row.frz hR8 hkX
              obtain ⟨t0, t1, t2, t3, t4, t5, t6, t7, t8⟩ := blk9 hB8
              generalize Y[k] = zz at c0 c1 c2 c3 c4 c5 c6 c7 c8
              clear hR7 hB7 hE7 hown7 hown6 hRow6 hB6 hE6 hO8 hE8 hB8 hR8
              generalize w6.drew = w7 at *
              go_wp2_with fail
              go_roundg (L.length - (i + 1))
              case measure => omega
              case rel => exact ⟨i + 1, by omega, by go_num, rfl, HE9.out, by rw [HINS.out, HNS.out, ← HK.out, List.length_set, hYY]; exact HO9.out⟩
          · obtain ⟨j, hj⟩ : ∃ j, k = j + 1 := ⟨k - 1, by omega⟩
            subst hj
            obtain ⟨g, rfl⟩ : ∃ g, Av = some ⟨g, 0, none⟩ := by
              rcases HOWC.out.2 with ⟨_, h⟩ | ⟨g, _, _, hv, _⟩
              · omega
              · injection hv with hv _ _
                exact ⟨g, hv⟩
            have hjl : j < out.length := by omega
            obtain ⟨y, hy⟩ : ∃ y, out[j] = y := ⟨_, rfl⟩
            have HSTEP : Hid (insK out x (j + 1) = if 0 < cmpD y x then insK out x j else j + 1) := by
              show insK out x (j + 1) = _
              rw [insK, getD_lt x hjl, hy]
            have hD := hsv.ext hE2
            have fX := fun d os => grownS hD hjl hy d os
            have fB := fun d os => blk9 (hB2.ext (below_regrown wr d os))
            have CXY := Lib.hid (compare_ref y x)
            have hb1 := cmpD_bd y x
            obtain ⟨v1, e1⟩ : ∃ v, cmpD y x = v := ⟨_, rfl⟩
            rw [e1] at CXY hb1 HSTEP
            have HD := Lib.hid hD
            have HB2 := Lib.hid hB2
            have HY := Lib.hid hy
            have hj0 : (0 : Int) ≤ (j : Int) := by omega
            have hj1 : (j : Int) < (out.length : Int) := by omega
            have dk : decide (0 < (j : Int) + 1) = true := decide_eq_true (by omega)
            clear hy hD hB2 b0 b1 b2 b3 b4 b5 b6 b7 b8
            by_cases q1 : 0 < v1
            · have d1 : decide (0 < v1) = true := decide_eq_true q1
              go_upto_region 10 with fail
              refine wp_region_quiet_below (by kernel_rfl) (by kernel_rfl) ?_
              repeat (go_big_quiet_step (first | with_reducible exact call_grownS CXY.out))
              refine wpQuiet_nil ?_
              intro _ hw'
              obtain ⟨⟨dq, osq⟩, hw''⟩ := hw'
              subst hw''
              go_wp2_with fail
              go_roundg j
              case measure => omega
              case rel => exact ⟨j, by omega, by go_num, rfl, Ext.trans hE2 (below_regrown wr dq osq), by rw [HI.out, HSTEP.out, if_pos q1]⟩
            · have d1 : decide (0 < v1) = false := decide_eq_false q1
              have HR : Hid (insK out x out.length = j + 1) := by show insK out x out.length = j + 1; rw [HI.out, HSTEP.out, if_neg q1]
              go_upto_region 10 with fail
              refine wp_region_quiet_below (by kernel_rfl) (by kernel_rfl) ?_
              repeat (go_big_quiet_step (first | with_reducible exact call_grownS CXY.out))
              refine wpQuiet_nil ?_
              intro _ hw'
              obtain ⟨⟨dq, osq⟩, hw''⟩ := hw'
              have hE3 : Ext wr _ := below_regrown wr dq osq
              rw [← hw''] at hE3
              clear hw'' fX fB
              rename World => w3
              have hE23 : Ext wc w3 := Ext.trans hE2 hE3
              obtain ⟨a0, a1, a2, a3, a4, a5, a6, a7, a8⟩ := Dt.cellsS (HD.out.ext hE3) hjl HY.out
              simp only [Nat.zero_add] at a0 a1 a2 a3 a4 a5 a6 a7 a8
              obtain ⟨b0, b1, b2, b3, b4, b5, b6, b7, b8⟩ := blk9 (HB2.out.ext hE3)
              have heq := fun w => eql_det w y x
              unfold Dt.val at heq
              have hgd : out.getD j x = y := by rw [getD_lt x hjl]; exact HY.out
              rcases hsm : y.same x with _ | _
              · have HNS0 : Hid (insV out x = out.take (j + 1) ++ x :: out.drop (j + 1)) := by
                  show insV out x = _
                  unfold insV
                  rw [HR.out, if_neg (fun h => by rw [Nat.add_sub_cancel, hgd, hsm] at h; cases h.2)]
                rw [hsm] at heq
                clear hsm hgd
                go_upto_region 12 with fail
                go_quiet (fail)
                go_upto_region 13 with fail
                clear a0 a1 a2 a3 a4 a5 a6 a7 a8 b0 b1 b2 b3 b4 b5 b6 b7 b8 heq
                obtain ⟨k, hkj⟩ : ∃ k, j + 1 = k := ⟨_, rfl⟩
                try rw [hkj]
                try rw [show ((j : Int) + 1) = (k : Int) by omega]
                rw [hkj] at hk
                have HNS : Hid (insV out x = out.take k ++ x :: out.drop k) := by rw [← hkj]; exact HNS0
                clear HNS0 HR HI HSTEP dk hkj
                go_wp2_with (at_builtin; refine wpList_pushD _ rfl _ _ rfl w.heap.size _ out rfl (own_extD HOWC.out (Ext.drewN hE23 _)) rfl (by omega) (Below.size (Ext.trans hEc (Ext.drewN hE23 _))) ?_; intro g6 cap6 w6 hown6 hc6 hc6m hg6 hblk6)
                have hE6 : Ext w w6 := Ext.own (Ext.trans hEc (Ext.drewN hE23 _)) (own_extD HOWC.out (Ext.drewN hE23 _)) (Nat.le_refl _) hg6
                have hB6 : Blk w6 gB 32 x.cells.toArray := (hg6.block gB (Blk.lt (hBx.ext (Ext.drewN hE23 _))) (fun e => absurd (HVQ.out gB e.symm) (Nat.lt_irrefl _))).trans (hBx.ext (Ext.drewN hE23 _))
                have hne6 : g6 ≠ gB := by
                  intro e
                  rcases hblk6 with h | h
                  · have := HVQ.out g6 h; omega
                  · exact absurd (Nat.lt_trans (Blk.lt (hBx.ext hE23)) h) (by rw [e]; exact Nat.lt_irrefl _)
                have hRow6 := (row_of_own hown6).1
                have hgw6 := (row_of_own hown6).2
                obtain ⟨X, hX⟩ : ∃ X, out ++ [zDt] = X := ⟨_, rfl⟩
                have hXl : X.length = out.length + 1 := by rw [← hX, List.length_append]; rfl
                rw [hX] at hown6 hRow6
                have HXE := Lib.hid hX
                clear hX hg6 hblk6
                have hkI : (k : Int) ≤ (out.length : Int) := by omega
                have hkI1 : (k : Int) < (out.length : Int) + 1 := by omega
                have hkI0 : (0 : Int) ≤ (k : Int) := by omega
                have hwk : IntKind.i64.wrap ((k : Int) + 1) = (k : Int) + 1 := IntWalk.i64_in _ (by omega)
                have hkJ : (0 : Int) ≤ (k : Int) + 1 := by omega
                have hkJ1 : (k : Int) + 1 ≤ (out.length : Int) + 1 := by omega
                go_upto_region 14 with fail
                have hR7 : Row w6.drew g6 X := hRow6
                have hB7 : Blk w6.drew gB 32 x.cells.toArray := hB6
                have hE7 : Ext w w6.drew := Below.drew hE6
                have hown7 : w6.drew.ownsRow w.heap.size 32 9 (.slice (some ⟨g6, 0, none⟩) (out.length + 1) cap6) (out.length + 1) (X.flatMap Dt.cells) := hown6
                by_cases hkn : k = out.length
                · have HK : Hid (X.set k x = out.take k ++ x :: out.drop k) := by
                    show X.set k x = _
                    rw [← HXE.out, hkn, List.take_length, List.drop_length, List.set_append_right _ _ (Nat.le_refl _), Nat.sub_self]
                    rfl
                  have hsl1 := fun w => run_from w g6 (out.length + 1) cap6 (k + 1) ((k : Int) + 1) (by omega) (by omega)
                  have hsl2 := fun w => run_from w g6 (out.length + 1) cap6 k (k : Int) rfl (by omega)
                  rw [show out.length + 1 - (k + 1) = 0 by omega] at hsl1
                  generalize (if cap6 = k + 1 then (⟨g6, 0, none⟩ : Addr) else ⟨g6, (k + 1) * 9, none⟩) = D1 at hsl1
                  generalize (if cap6 = k then (⟨g6, 0, none⟩ : Addr) else ⟨g6, k * 9, none⟩) = S1 at hsl2
                  have hcp := fun w d s dc sl sc => run_copy_none w 3 d s dc sl sc
                  have HKN := Lib.hid hkn
                  clear hkn
                  go_still_tail 7, (by kernel_rfl)
                  change wpList _ _ _ _ _ w6.drew
                  have hkX : k < X.length := by omega
                  have HO8 : Hid ((w6.drew.setCells g6 (k * 9) x.cells).ownsRow w.heap.size 32 9 (.slice (some ⟨g6, 0, none⟩) (out.length + 1) cap6) (out.length + 1) ((X.set k x).flatMap Dt.cells)) := by
                    have := own_sets hown7 (o := k * 9) (vs := x.cells) (by rw [flat_len Dt.cells 9 Dt.len, Dt.len]; omega)
                    rw [setAll_flat Dt.cells 9 (by omega) Dt.len X k x hkX] at this
                    exact this
                  have HE8 : Hid (Ext w (w6.drew.setCells g6 (k * 9) x.cells)) := Ext.grownRow hE7 hgw6 (grownRow_sets _ _ _ _)
                  obtain ⟨c0, c1, c2, c3, c4, c5, c6, c7, c8⟩ := Row.at_ hR7 hkX
                  obtain ⟨f0, f1, f2, f3, f4, f5, f6, f7, f8⟩ := Row.frz hR7 hkX
                  obtain ⟨t0, t1, t2, t3, t4, t5, t6, t7, t8⟩ := blk9 hB7
                  generalize X[k] = zz at c0 c1 c2 c3 c4 c5 c6 c7 c8
                  clear hR7 hB7 hE7 hown7 hown6 hRow6 hB6 hE6
                  generalize w6.drew = w7 at *
                  go_wp2_with fail
                  go_roundg (L.length - (i + 1))
                  case measure => omega
                  case rel => exact ⟨i + 1, by omega, by go_num, rfl, HE8.out, by rw [HINS.out, HNS.out, ← HK.out, List.length_set, hXl]; exact HO8.out⟩
                · have hkn' : k < out.length := by omega
                  have HK : Hid ((X.take (k + 1) ++ (X.drop k).take (out.length - k)).set k x = out.take k ++ x :: out.drop k) := by
                    show (X.take (k + 1) ++ (X.drop k).take (out.length - k)).set k x = _
                    have e1 : (out ++ [zDt]).take (k + 1) = out.take (k + 1) := List.take_append_of_le_length (by omega)
                    have e2 : ((out ++ [zDt]).drop k).take (out.length - k) = out.drop k := by rw [List.drop_append_of_le_length (by omega), List.take_append_of_le_length (by rw [List.length_drop]; omega), List.take_of_length_le (by rw [List.length_drop]; omega)]
                    rw [← HXE.out, e1, e2]
                    exact ins_list x hkn'
                  have hsl1 := fun w => run_from w g6 (out.length + 1) cap6 (k + 1) ((k : Int) + 1) (by omega) (by omega)
                  have hsl2 := fun w => run_from w g6 (out.length + 1) cap6 k (k : Int) rfl (by omega)
                  rw [show out.length + 1 - (k + 1) = out.length - k by omega, if_neg (show ¬ cap6 = k + 1 by omega)] at hsl1
                  rw [if_neg (show ¬ cap6 = k by omega)] at hsl2
                  have hcp := run_copy_det w6.drew 3 g6 k out.length (cap6 - (k + 1)) (cap6 - k) X hR7 hXl hkn'
                  have hYl : ((X.drop k).take (out.length - k)).length = out.length - k := by rw [List.length_take, List.length_drop]; omega
                  have hO8 : (w6.drew.setCells g6 ((k + 1) * 9) (((X.drop k).take (out.length - k)).flatMap Dt.cells)).ownsRow w.heap.size 32 9 (.slice (some ⟨g6, 0, none⟩) (out.length + 1) cap6) (out.length + 1) ((X.take (k + 1) ++ (X.drop k).take (out.length - k)).flatMap Dt.cells) := by
                    have := own_sets hown7 (o := (k + 1) * 9) (vs := ((X.drop k).take (out.length - k)).flatMap Dt.cells) (by rw [flat_len Dt.cells 9 Dt.len, flat_len Dt.cells 9 Dt.len, hYl]; omega)
                    rw [setAll_flats X ((X.drop k).take (out.length - k)) (k + 1) (by rw [hYl]; omega), hYl, show X.drop (k + 1 + (out.length - k)) = [] from List.drop_eq_nil_of_le (by omega), List.append_nil] at this
                    exact this
                  have hE8 : Ext w (w6.drew.setCells g6 ((k + 1) * 9) (((X.drop k).take (out.length - k)).flatMap Dt.cells)) := Ext.grownRow hE7 hgw6 (grownRow_sets _ _ _ _)
                  have hB8 : Blk (w6.drew.setCells g6 ((k + 1) * 9) (((X.drop k).take (out.length - k)).flatMap Dt.cells)) gB 32 x.cells.toArray := (World.heap_setCells_other _ g6 _ _ hB7.lt (fun e => hne6 e.symm)).trans hB7
                  obtain ⟨Y, hY⟩ : ∃ Y, X.take (k + 1) ++ (X.drop k).take (out.length - k) = Y := ⟨_, rfl⟩
                  have hYY : Y.length = out.length + 1 := by rw [← hY, List.length_append, hYl, List.length_take]; omega
                  rw [hY] at HK hO8
                  have HKN := Lib.hid hkn
                  clear hkn hY hYl
                  go_still_tail 7, (by kernel_rfl)
                  change wpList _ _ _ _ _ w6.drew
                  obtain ⟨w8, hw8⟩ : ∃ w8, w6.drew.setCells g6 ((k + 1) * 9) (((X.drop k).take (out.length - k)).flatMap Dt.cells) = w8 := ⟨_, rfl⟩
                  rw [hw8] at hcp hO8 hE8 hB8
                  clear hw8
                  have hkX : k < Y.length := by omega
                  have hR8 := (row_of_own hO8).1
                  have HO9 : Hid ((w8.setCells g6 (k * 9) x.cells).ownsRow w.heap.size 32 9 (.slice (some ⟨g6, 0, none⟩) (out.length + 1) cap6) (out.length + 1) ((Y.set k x).flatMap Dt.cells)) := by
                    have := own_sets hO8 (o := k * 9) (vs := x.cells) (by rw [flat_len Dt.cells 9 Dt.len, Dt.len]; omega)
                    rw [setAll_flat Dt.cells 9 (by omega) Dt.len Y k x hkX] at this
                    exact this
                  have HE9 : Hid (Ext w (w8.setCells g6 (k * 9) x.cells)) := Ext.grownRow hE8 hgw6 (grownRow_sets _ _ _ _)
                  obtain ⟨c0, c1, c2, c3, c4, c5, c6, c7, c8⟩ := Row.at_ hR8 hkX
                  obtain ⟨f0, f1, f2, f3, f4, f5, f6, f7, f8⟩ := Row.frz hR8 hkX
                  obtain ⟨t0, t1, t2, t3, t4, t5, t6, t7, t8⟩ := blk9 hB8
                  generalize Y[k] = zz at c0 c1 c2 c3 c4 c5 c6 c7 c8
                  clear hR7 hB7 hE7 hown7 hown6 hRow6 hB6 hE6 hO8 hE8 hB8 hR8
                  generalize w6.drew = w7 at *
                  go_wp2_with fail
                  go_roundg (L.length - (i + 1))
                  case measure => omega
                  case rel => exact ⟨i + 1, by omega, by go_num, rfl, HE9.out, by rw [HINS.out, HNS.out, ← HK.out, List.length_set, hYY]; exact HO9.out⟩
              · have HNS : Hid (insV out x = out) := by
                  show insV out x = _
                  unfold insV
                  rw [HR.out, if_pos ⟨by omega, by rw [Nat.add_sub_cancel, hgd]; exact hsm⟩]
                rw [hsm] at heq
                clear hsm hgd
                go_upto_region 12 with fail
                go_quiet (fail)
                go_wp2_with fail
                go_roundg (L.length - (i + 1))
                case measure => omega
                case rel => exact ⟨i + 1, by omega, by go_num, rfl, Ext.trans hEc (Ext.drewN hE23 _), by rw [HINS.out, HNS.out]; exact own_extD HOWC.out (Ext.drewN hE23 _)⟩
    · obtain rfl : i = L.length := by omega
      have HV := Lib.hid (insAll_stock L)
      have HO := Lib.hid hown
      have HE := Lib.hid hE
      clear hown hE
      go_wp2_with fail
      go_ret
      refine ⟨_, rfl, ?_, HE.out⟩
      rw [← HV.out]
      exact HO.out
end Go.Proofs.Ytfnnoncdocghjaa.Dd
namespace Go.Proofs.Ytfnnoncdocghjaa
open Go.RowKit
set_option linter.unusedVariables false

theorem asc_inj {l : List Kn} (h : AscD (l.map Kn.d)) {x y : Kn} (hx : x ∈ l) (hy : y ∈ l) (e : x.d = y.d) : x = y := by
  obtain ⟨i, hi, rfl⟩ := List.mem_iff_getElem.1 hx
  obtain ⟨j, hj, rfl⟩ := List.mem_iff_getElem.1 hy
  have hp := List.pairwise_iff_getElem.1 h
  have hs := fun d : Dt => cmpD_anti d d
  rcases Nat.lt_trichotomy i j with hij | hij | hij
  · have := hp i j (by simpa using hi) (by simpa using hj) hij
    simp only [List.getElem_map] at this
    rw [e] at this
    have := hs l[j].d
    omega
  · subst hij; rfl
  · have := hp j i (by simpa using hj) (by simpa using hi) hij
    simp only [List.getElem_map] at this
    rw [e] at this
    have := hs l[j].d
    omega
/-- an ascending list is its own memory -/
theorem memV_asc {l : List Kn} (h : AscD (l.map Kn.d)) (hok : ∀ k ∈ l, okH k.h) : memV l = l := by
  refine (MemOf.eqV (l := l) ⟨h, fun d => Iff.rfl, hok, fun k hk i => ⟨fun hb => ⟨k, hk, rfl, hb⟩, ?_⟩⟩ hok).symm
  rintro ⟨x, hx, e, hb⟩
  rw [← asc_inj h hx hk e]
  exact hb
theorem cmpI_self (a : Int) : cmpI a a = 0 := (cmpI_zero a a).2 rfl
theorem cmpD_idx {p : Int} {i j : Int} {e f : Ev} (h : i < j) : cmpD ⟨p, i, e⟩ ⟨p, j, f⟩ < 0 := by
  unfold cmpD Dt.keys
  have h1 := (cmpI_neg i j).2 h
  simp only [cmpL, cmpI_self, if_true]
  rw [if_neg (by omega)]
  exact h1
theorem lin_mem_idx (p : Int) : ∀ (es : List Ev) (i : Nat) (d : Dt), d ∈ linFrom p es i → d.proc = p ∧ (i : Int) < d.index ∧ d.index ≤ ((i + es.length : Nat) : Int)
  | [], _, _, h => by cases h
  | e :: es, i, d, h => by
    unfold linFrom at h
    rcases List.mem_cons.1 h with rfl | h
    · refine ⟨rfl, ?_, ?_⟩
      · show (i : Int) < (i : Int) + 1; omega
      · show (i : Int) + 1 ≤ _; simp; omega
    · have := lin_mem_idx p es (i + 1) d h
      simp only [List.length_cons]
      refine ⟨this.1, by omega, by omega⟩
theorem lin_asc (p : Int) : ∀ (es : List Ev) (i : Nat), AscD (linFrom p es i)
  | [], _ => List.Pairwise.nil
  | e :: es, i => by
    unfold linFrom
    refine List.pairwise_cons.2 ⟨fun d hd => ?_, lin_asc p es (i + 1)⟩
    have := lin_mem_idx p es (i + 1) d hd
    obtain ⟨dp, di, de⟩ := d
    have h1 : dp = p := this.1
    subst h1
    exact cmpD_idx (by have := this.2.1; show (i : Int) + 1 < di; simp at this; omega)
theorem linV_snoc (p : Int) (es : List Ev) (e : Ev) : linV p (es ++ [e]) = linV p es ++ [⟨p, (es.length : Int) + 1, e⟩] := by
  unfold linV
  rw [lin_snoc]
  simp
theorem or_pos {k : Kn} {b : Int} (hk : okH k.h) (hb : okH b) (h0 : k.h ≠ 0) : (orB b k).h ≠ 0 := by
  have e := (bits_u32 hk.1 hk.2 hb.1 hb.2).2.1
  show bits .or .u32 k.h b ≠ 0
  rw [e]
  have h1 := hk.1
  have h2 : 0 < k.h.toNat := by omega
  have h3 : k.h.toNat ≤ k.h.toNat ||| b.toNat := Nat.left_le_or
  omega
structure Frug (n : Nat) (s : Cm) : Prop where
  ev : s.ev.length = n
  kn : s.kn.length = n
  d : ∀ p < n, (s.kn.getD p []).map Kn.d = linV p (s.ev.getD p [])
  ok : ∀ p < n, ∀ k ∈ s.kn.getD p [], okH k.h ∧ k.h ≠ 0
  m : ∀ m ∈ s.fl, m.kn = [] ∧ m.dst < n
theorem getD_set {α : Type} (l : List α) (i j : Nat) (x d : α) (hi : i < l.length) : (l.set i x).getD j d = if i = j then x else l.getD j d := by
  rw [List.getD_eq_getElem?_getD, List.getD_eq_getElem?_getD, List.getElem?_set]
  split
  · rename_i h; subst h; first | rfl | (rw [if_pos hi]; rfl)
  · rfl
theorem Frug.start (n : Nat) : Frug n (startV n) := by
  refine ⟨by simp [startV], by simp [startV], fun p hp => ?_, fun p hp k hk => ?_, fun m hm => by cases hm⟩
  · simp [startV, List.getD_eq_getElem?_getD, hp, linV, linFrom]
  · simp [startV, List.getD_eq_getElem?_getD, hp] at hk
theorem Frug.act {n : Nat} {s : Cm} {a : Av} (h : Frug n s) (hn : n ≤ 32) : Frug n (actV n 0 s a) := by
  unfold actV
  split
  · split
    · rename_i hc
      obtain ⟨⟨h1, h2⟩, ⟨h3, h4⟩, h5, h6⟩ := canSend_iff.1 hc
      refine ⟨h.ev, h.kn, h.d, h.ok, fun m hm => ?_⟩
      rcases List.mem_append.1 hm with hm | hm
      · exact h.m m hm
      · rw [List.mem_singleton] at hm
        subst hm
        refine ⟨?_, by show a.other.toNat < n; omega⟩
        show List.filter (keepF 0) (s.kn.getD a.proc.toNat []) = []
        rw [List.filter_eq_nil_iff]
        intro k hk
        obtain ⟨hok, hne⟩ := h.ok a.proc.toNat (by omega) k hk
        have hd := cnt_drop (x := k.h) (by have := hok.1; omega) hok.2
        unfold keepF
        simp only [decide_eq_true_eq]
        generalize cnt k.h = c at hd
        omega
    · exact h
  · split
    · split
      · rename_i hc
        obtain ⟨h1, h2, h3⟩ := canRecv_iff.1 hc
        have hm := h.m _ (getD_mem s.fl a.other.toNat mgD (by omega))
        unfold recvV
        generalize s.fl.getD a.other.toNat mgD = m at *
        obtain ⟨hmk, hmd⟩ := hm
        dsimp only
        rw [hmk]
        have hD := h.d m.dst hmd
        have hO := h.ok m.dst hmd
        generalize hK : s.kn.getD m.dst [] = K at *
        generalize hE : s.ev.getD m.dst [] = es at *
        have hpow := okH_pow (m := m.dst) (by omega)
        have hasc : AscD (K.map Kn.d) := by rw [hD]; exact lin_asc _ _ _
        have hmv : memV (K ++ []) = K := by rw [List.append_nil]; exact memV_asc hasc fun k hk => (hO k hk).1
        have hmg : mergeV (2 ^ m.dst) K [] = K.map (orB (2 ^ m.dst)) := by unfold mergeV; rw [hmv]
        have hmgd : (mergeV (2 ^ m.dst) K []).map Kn.d = K.map Kn.d := by rw [hmg, List.map_map]; rfl
        have hnew : AscD ((mergeV (2 ^ m.dst) K [] ++ [(⟨⟨m.dst, (es.length : Int) + 1, evOf m⟩, 2 ^ m.dst⟩ : Kn)]).map Kn.d) := by
          rw [List.map_append, hmgd, hD]
          show AscD (linV m.dst es ++ [⟨m.dst, (es.length : Int) + 1, evOf m⟩])
          rw [← linV_snoc]
          exact lin_asc _ _ _
        have hnok : ∀ k ∈ mergeV (2 ^ m.dst) K [] ++ [(⟨⟨m.dst, (es.length : Int) + 1, evOf m⟩, 2 ^ m.dst⟩ : Kn)], okH k.h ∧ k.h ≠ 0 := fun k hk => by
          rcases List.mem_append.1 hk with hk | hk
          · rw [hmg] at hk
            obtain ⟨x, hx, rfl⟩ := List.mem_map.1 hk
            exact ⟨orB_ok hpow (hO x hx).1, or_pos (hO x hx).1 hpow (hO x hx).2⟩
          · rw [List.mem_singleton] at hk
            subst hk
            refine ⟨hpow, ?_⟩
            have : ∀ i : Fin 32, (2 : Int) ^ i.val ≠ 0 := by decide
            exact this ⟨m.dst, by omega⟩
        rw [memV_asc hnew fun k hk => (hnok k hk).1]
        refine ⟨by simp [h.ev], by simp [h.kn], fun p hp => ?_, fun p hp k hk => ?_, fun m' hm' => h.m m' (List.mem_of_mem_eraseIdx hm')⟩
        · dsimp only
          rw [getD_set _ _ _ _ _ (by rw [h.kn]; exact hmd), getD_set _ _ _ _ _ (by rw [h.ev]; exact hmd)]
          split
          · rename_i e
            subst e
            rw [List.map_append, hmgd, hD, linV_snoc]
            rfl
          · exact h.d p hp
        · dsimp only at hk
          rw [getD_set _ _ _ _ _ (by rw [h.kn]; exact hmd)] at hk
          split at hk
          · exact hnok k hk
          · exact h.ok p hp k hk
      · exact h
    · split
      · split
        · rename_i hc
          obtain ⟨h1, h2⟩ := okProc_iff.1 hc
          unfold ckptV
          have hpl : a.proc.toNat < n := by omega
          refine ⟨h.ev, by simp [h.kn], fun p hp => ?_, fun p hp k hk => ?_, h.m⟩
          · dsimp only
            rw [getD_set _ _ _ _ _ (by rw [h.kn]; exact hpl)]
            split
            · rename_i e
              subst e
              rw [List.map_map]
              exact h.d _ hpl
            · exact h.d p hp
          · dsimp only at hk
            rw [getD_set _ _ _ _ _ (by rw [h.kn]; exact hpl)] at hk
            split at hk
            · obtain ⟨x, hx, rfl⟩ := List.mem_map.1 hk
              obtain ⟨h7, h8⟩ := h.ok _ hpl x hx
              exact ⟨stK_ok hn x h7, or_pos h7 (okH_all hn) h8⟩
            · exact h.ok p hp k hk
        · exact h
      · exact h
theorem Frug.play (n : Nat) (hn : n ≤ 32) (l : List Av) : Frug n (playV n 0 l) := by
  have : ∀ (l : List Av) (s : Cm), Frug n s → Frug n (l.foldl (actV n 0) s) := by
    intro l
    induction l with
    | nil => intro s h; exact h
    | cons a l ih => intro s h; exact ih _ (h.act hn)
  exact this l _ (Frug.start n)
end Go.Proofs.Ytfnnoncdocghjaa
namespace Go.Proofs.Ytfnnoncdocghjaa
open Go.RowKit Go.Sort
set_option linter.unusedVariables false
set_option maxRecDepth 100000

theorem setAll_split (xs vs : List Value) (o : Nat) (h : o + vs.length ≤ xs.length) : setAll xs o vs = xs.take o ++ vs ++ xs.drop (o + vs.length) := by
  apply List.ext_getElem?
  intro q
  rw [setAll_get]
  by_cases h1 : q < o
  · rw [if_neg (by omega), List.append_assoc, List.getElem?_append_left (by rw [List.length_take]; omega), List.getElem?_take_of_lt h1]
  · by_cases h2 : q < o + vs.length
    · rw [if_pos ⟨by omega, h2, by omega⟩, List.append_assoc, List.getElem?_append_right (by rw [List.length_take]; omega), List.getElem?_append_left (by rw [List.length_take]; omega), List.length_take, Nat.min_eq_left (by omega)]
    · rw [if_neg (by omega), List.getElem?_append_right (by rw [List.length_append, List.length_take]; omega), List.getElem?_drop, List.length_append, List.length_take, Nat.min_eq_left (by omega)]
      congr 1
      omega
theorem drop_flat (l : List Kn) (k : Nat) (hk : k ≤ l.length) : (l.drop k).flatMap Kn.cells = (l.flatMap Kn.cells).drop (k * 10) := by
  have e : l.flatMap Kn.cells = (l.take k).flatMap Kn.cells ++ (l.drop k).flatMap Kn.cells := by rw [← List.flatMap_append, List.take_append_drop]
  have hA : ((l.take k).flatMap Kn.cells).length = k * 10 := by rw [flat_len Kn.cells 10 Kn.len, List.length_take, Nat.min_eq_left hk]
  rw [e, ← hA]
  exact List.drop_left.symm
theorem setAll_flats (X Y : List Kn) (r : Nat) (h : r + Y.length ≤ X.length) : setAll (X.flatMap Kn.cells) (r * 10) (Y.flatMap Kn.cells) = (X.take r ++ Y ++ X.drop (r + Y.length)).flatMap Kn.cells := by
  have hY := flat_len Kn.cells 10 Kn.len Y
  have hX := flat_len Kn.cells 10 Kn.len X
  rw [setAll_split _ _ _ (by omega), List.flatMap_append, List.flatMap_append, take_flat X r (by omega), drop_flat X (r + Y.length) h, hY]
  congr 2
  omega
/-- stores into a row that the call owns -/
theorem own_sets {w : World} {base g n cap : Nat} {xs vs : List Value} {o : Nat} (h : w.ownsRow base 34 10 (.slice (some ⟨g, 0, none⟩) n cap) n xs) (hl : o + vs.length ≤ xs.length) : (w.setCells g o vs).ownsRow base 34 10 (.slice (some ⟨g, 0, none⟩) n cap) n (setAll xs o vs) := by
  refine ⟨by rw [setAll_len]; exact h.1, .inr ?_⟩
  rcases h.2 with ⟨hv, _⟩ | ⟨g', cap', cur, hv, hb, hh, hc, hm, hs, ht⟩
  · injection hv with hv; cases hv
  · injection hv with hv _ hcap
    injection hv with hv
    injection hv with hv _
    subst hv hcap
    refine ⟨g, cap, (setAll cur.toList o vs).toArray, rfl, hb, heap_sets vs o w cur.toList hh, hc, hm, by simp only [List.size_toArray, setAll_len, Array.length_toList]; exact hs, ?_⟩
    have hxl : xs.length = n * 10 := h.1
    have hcl : n * 10 ≤ cur.toList.length := by
      have := congrArg List.length ht
      rw [List.length_take, hxl] at this
      omega
    show (setAll cur.toList o vs).take (n * 10) = setAll xs o vs
    apply List.ext_getElem?
    intro q
    by_cases hq : q < n * 10
    · rw [List.getElem?_take_of_lt hq, setAll_get, setAll_get]
      have hcx : cur.toList[q]? = xs[q]? := by rw [← ht, List.getElem?_take_of_lt hq]
      by_cases hin : o ≤ q ∧ q < o + vs.length
      · rw [if_pos ⟨hin.1, hin.2, by omega⟩, if_pos ⟨hin.1, hin.2, by omega⟩]
      · rw [if_neg (fun h => hin ⟨h.1, h.2.1⟩), if_neg (fun h => hin ⟨h.1, h.2.1⟩), hcx]
    · rw [List.getElem?_eq_none (by rw [List.length_take, setAll_len]; omega), List.getElem?_eq_none (by rw [setAll_len]; omega)]
theorem ins_list {out : List Kn} {r : Nat} (x : Kn) (hr : r < out.length) : (out.take (r + 1) ++ out.drop r).set r x = out.take r ++ x :: out.drop r := by
  rw [List.take_succ_eq_append_getElem hr, List.append_assoc, List.set_append_right _ _ (by rw [List.length_take]; omega), List.length_take, Nat.min_eq_left (by omega), Nat.sub_self]
  rfl
/-- copy within a row, by one place -/
theorem run_copy_kn (w : World) (ty : TypeId) (g r n dc sc : Nat) (X : List Kn) (h : Row w g X) (hX : X.length = n + 1) (hr : r < n) :
    (Builtin.copy_ #[26, 26] ty #[.slice (some ⟨g, (r + 1) * 10, none⟩) (n - r) dc, .slice (some ⟨g, r * 10, none⟩) (n + 1 - r) sc]).run Try.prog w = .ok (goInt (n - r : Nat)) (w.setCells g ((r + 1) * 10) (((X.drop r).take (n - r)).flatMap Kn.cells)) := by
  obtain ⟨i0, hi, hz0, hz1, hz2⟩ := info_parts infoKn
  have hfl := flat_len Kn.cells 10 Kn.len X
  have hcl : (((X.drop r).take (n - r)).flatMap Kn.cells).length = (n - r) * 10 := by rw [flat_len Kn.cells 10 Kn.len, List.length_take, List.length_drop]; congr 1; omega
  have hsrc : ∀ j v, (((X.drop r).take (n - r)).flatMap Kn.cells)[j]? = some v → w.cell? ((⟨g, r * 10, none⟩ : Addr).add j) = some v := by
    intro j v hv
    have hj := (List.getElem?_eq_some_iff.1 hv).1
    rw [hcl] at hj
    rw [take_flat _ _ (by rw [List.length_drop]; omega), drop_flat X r (by omega), List.getElem?_take_of_lt hj, List.getElem?_drop] at hv
    have hadd : (⟨g, r * 10, none⟩ : Addr).add j = ⟨g, r * 10 + j, none⟩ := by unfold Addr.add; split <;> simp_all
    rw [hadd]
    exact (h.2 _ v hv).1
  have ho := Kn.ones ((X.drop r).take (n - r))
  generalize ((X.drop r).take (n - r)).flatMap Kn.cells = cs at *
  have hfc := run_firstCells_some (P := Try.prog) w 10 (n - r) ⟨g, r * 10, none⟩ (n + 1 - r) sc cs hcl hsrc
  have hst := run_storeCells_cells (P := Try.prog) g ((r + 1) * 10) cs 0 w (fun j hj => by
      have hj' : (r + 1) * 10 + j < (X.flatMap Kn.cells).length := by omega
      rw [Nat.add_zero, (h.2 _ _ (List.getElem?_eq_getElem hj')).1]; rfl) (fun j hj => by
      have hj' : (r + 1) * 10 + j < (X.flatMap Kn.cells).length := by omega
      rw [Nat.add_zero]; exact (h.2 _ _ (List.getElem?_eq_getElem hj')).2) ho
  simp only [Nat.add_zero] at hst
  have hmin : Nat.min (n + 1 - r) (n - r) = n - r := by
    show min (n + 1 - r) (n - r) = n - r
    omega
  simp [Builtin.copy_, run_underlying Try.underlying26, Builtin.lenOf, sizeOf, typeInfo, hi, hz1, hmin, hfc, hst]
theorem run_copy_none (w : World) (ty : TypeId) (d s : Option Addr) (dc sl sc : Nat) :
    (Builtin.copy_ #[26, 26] ty #[.slice d 0 dc, .slice s sl sc]).run Try.prog w = .ok (goInt 0) w := by
  obtain ⟨i0, hi, hz0, hz1, hz2⟩ := info_parts infoKn
  have hl : ∀ (x : Addr), (loadCells x 0).run Try.prog w = .ok #[] w := fun x => by simpa using run_loadCells_list (P := Try.prog) w x [] (by simp)
  cases d <;> cases s <;> simp [Builtin.copy_, run_underlying Try.underlying26, Builtin.lenOf, Builtin.firstCells, sizeOf, typeInfo, hi, storeCells, hl]
theorem Row.atK {w : World} {g : Nat} {l : List Kn} (h : Row w g l) {i : Nat} (hi : i < l.length) : KnAt w g (i * 10) l[i] := by
  have hc : ∀ o u, o < 10 → (l[i]).cells[o]? = some u → w.cell? ⟨g, i * 10 + o, none⟩ = some u := fun o u ho hu => (h.2 (i * 10 + o) u (by rw [flat_get Kn.cells 10 Kn.len l i o l[i] (List.getElem?_eq_getElem hi) ho]; exact hu)).1
  exact ⟨hc 0 _ (by omega) rfl, hc 1 _ (by omega) rfl, hc 2 _ (by omega) rfl, hc 3 _ (by omega) rfl, hc 4 _ (by omega) rfl, hc 5 _ (by omega) rfl, hc 6 _ (by omega) rfl, hc 7 _ (by omega) rfl, hc 8 _ (by omega) rfl, hc 9 _ (by omega) rfl⟩
theorem Row.frzK {w : World} {g : Nat} {l : List Kn} (h : Row w g l) {i : Nat} (hi : i < l.length) : w.frozen? ⟨g, i * 10, none⟩ = false ∧ w.frozen? ⟨g, i * 10 + 1, none⟩ = false ∧ w.frozen? ⟨g, i * 10 + 2, none⟩ = false ∧ w.frozen? ⟨g, i * 10 + 3, none⟩ = false ∧ w.frozen? ⟨g, i * 10 + 4, none⟩ = false ∧ w.frozen? ⟨g, i * 10 + 5, none⟩ = false ∧ w.frozen? ⟨g, i * 10 + 6, none⟩ = false ∧ w.frozen? ⟨g, i * 10 + 7, none⟩ = false ∧ w.frozen? ⟨g, i * 10 + 8, none⟩ = false ∧ w.frozen? ⟨g, i * 10 + 9, none⟩ = false := by
  have hc : ∀ o, o < 10 → w.frozen? ⟨g, i * 10 + o, none⟩ = false := fun o ho => (h.2 (i * 10 + o) _ (List.getElem?_eq_getElem (by rw [flat_len Kn.cells 10 Kn.len]; omega))).2
  exact ⟨hc 0 (by omega), hc 1 (by omega), hc 2 (by omega), hc 3 (by omega), hc 4 (by omega), hc 5 (by omega), hc 6 (by omega), hc 7 (by omega), hc 8 (by omega), hc 9 (by omega)⟩
def putK (W : World) (g o : Nat) (k : Kn) : World := ((((((((((W.setCell ⟨g, o, none⟩ (.int .i64 k.d.proc)).setCell ⟨g, o + 1, none⟩ (.int .i64 k.d.index)).setCell ⟨g, o + 2, none⟩ (.int .i64 k.d.ev.kind)).setCell ⟨g, o + 3, none⟩ (.int .i64 k.d.ev.inc)).setCell ⟨g, o + 4, none⟩ (.int .i64 k.d.ev.frm)).setCell ⟨g, o + 5, none⟩ (.int .i64 k.d.ev.sinc)).setCell ⟨g, o + 6, none⟩ (.int .i64 k.d.ev.sidx)).setCell ⟨g, o + 7, none⟩ (.int .i64 k.d.ev.ord)).setCell ⟨g, o + 8, none⟩ (.int .i64 k.d.ev.val)).setCell ⟨g, o + 9, none⟩ (.int .u32 k.h))
theorem putK_eq (W : World) (g o : Nat) (k : Kn) : W.setCells g o k.cells = putK W g o k := rfl
/-- one more in its place: the memory of one more element -/
theorem memV_put {L : List Kn} {i : Nat} (hi : i < L.length) (hok : ∀ y ∈ L, okH y.h) {x : Kn} (hx : L[i] = x) (k : Nat) (hk : k ≤ (memV (L.take i)).length)
    (hgt : ∀ q (hq : q < (memV (L.take i)).length), k ≤ q → 0 < cmpD ((memV (L.take i))[q]).d x.d) (hlt : ∀ j (hj : j < (memV (L.take i)).length), k = j + 1 → cmpD ((memV (L.take i))[j]).d x.d < 0) :
    memV (L.take (i + 1)) = (memV (L.take i)).take k ++ x :: (memV (L.take i)).drop k := by
  have hM := memV_of (L.take i) fun y hy => hok y (List.mem_of_mem_take hy)
  have hxo : okH x.h := by rw [← hx]; exact hok _ (List.getElem_mem hi)
  generalize memV (L.take i) = out at *
  have e : L.take (i + 1) = L.take i ++ [x] := by rw [List.take_succ_eq_append_getElem hi, hx]
  rw [e]
  rw [← List.take_append_drop k out] at hM
  refine (MemOf.eqV (hM.put hxo (fun y hy => ?_) (fun y hy => ?_)) ?_).symm
  · obtain ⟨q, hq, rfl⟩ := List.mem_iff_getElem.1 hy
    rw [List.length_take] at hq
    rw [List.getElem_take]
    obtain ⟨j, rfl⟩ : ∃ j, k = j + 1 := ⟨k - 1, by omega⟩
    have h1 := hlt j (by omega) rfl
    by_cases hqj : q = j
    · subst hqj; exact h1
    · have ha := hM.asc
      rw [List.take_append_drop] at ha
      have := List.pairwise_iff_getElem.1 ha q j (by simp; omega) (by simp; omega) (by omega)
      simp only [List.getElem_map] at this
      exact cmpD_lt_trans this h1
  · obtain ⟨q, hq, rfl⟩ := List.mem_iff_getElem.1 hy
    rw [List.length_drop] at hq
    rw [List.getElem_drop]
    have h1 := hgt (k + q) (by omega) (by omega)
    have := cmpD_anti (out[k + q]'(by omega)).d x.d
    omega
  · intro y hy
    rcases List.mem_append.1 hy with hy | hy
    · exact hok y (List.mem_of_mem_take hy)
    · rw [List.mem_singleton] at hy; subst hy; exact hxo
theorem memV_join {L : List Kn} {i : Nat} (hi : i < L.length) (hok : ∀ y ∈ L, okH y.h) {x : Kn} (hx : L[i] = x) (j : Nat) (hj : j < (memV (L.take i)).length) {y : Kn} (hy : (memV (L.take i))[j] = y) (hd : y.d = x.d) :
    memV (L.take (i + 1)) = (memV (L.take i)).set j (orK y x) := by
  have hM := memV_of (L.take i) fun y hy => hok y (List.mem_of_mem_take hy)
  have hxo : okH x.h := by rw [← hx]; exact hok _ (List.getElem_mem hi)
  generalize memV (L.take i) = out at *
  have e : L.take (i + 1) = L.take i ++ [x] := by rw [List.take_succ_eq_append_getElem hi, hx]
  rw [e]
  have e2 : out = out.take j ++ y :: out.drop (j + 1) := by
    rw [← hy]
    rw [show out[j] :: out.drop (j + 1) = out.drop j from (List.drop_eq_getElem_cons hj).symm, List.take_append_drop]
  have e3 : out.set j (orK y x) = out.take j ++ orK y x :: out.drop (j + 1) := by
    rw [List.set_eq_take_append_cons_drop, if_pos hj]
  rw [e3]
  rw [e2] at hM
  refine (MemOf.eqV (hM.join hxo hd) ?_).symm
  intro z hz
  rcases List.mem_append.1 hz with hz | hz
  · exact hok z (List.mem_of_mem_take hz)
  · rw [List.mem_singleton] at hz; subst hz; exact hxo
theorem memV_idem {l r : List Kn} (hok : ∀ k ∈ l, okH k.h) : memV (memV l ++ r) = memV (l ++ r) := by
  have h := memV_of l hok
  unfold memV
  rw [List.foldl_append, List.foldl_append]
  show List.foldl memIns (memV (memV l)) r = List.foldl memIns (memV l) r
  rw [memV_asc h.asc h.ok]
theorem Kn.grownK {W : World} {g : Nat} {L : List Kn} (h : KnSeg W (some ⟨g, 0, none⟩) L) {i : Nat} (hi : i < L.length) {x : Kn} (hx : L[i] = x) (d : Nat) (os : Array Obj) : KnAt (grow (redrawn W d) os) g (i * 10) x := by
  obtain ⟨b', off', hA, _, hc⟩ := Seg.at_ (h.ext (below_regrown W d os)) Kn.len hi
  injection hA with hA
  injection hA with h1 h2
  subst h1 h2 hx
  simp only [Nat.zero_add] at hc
  exact ⟨hc 0 _ rfl, hc 1 _ rfl, hc 2 _ rfl, hc 3 _ rfl, hc 4 _ rfl, hc 5 _ rfl, hc 6 _ rfl, hc 7 _ rfl, hc 8 _ rfl, hc 9 _ rfl⟩
end Go.Proofs.Ytfnnoncdocghjaa
