/- Rows of receipts that a call owns, and their stable sort. No statement of the seat is proved here. -/
import Derived.Test.YtooegndajfopkaaStabPlain2
import Derived.Lib.SliceRun
import Derived.Lib.RowBridge
import Derived.Deep.Upon
namespace Go.Proofs.Ytooegndajfopkaa
open Go.RowKit Go.Shelf Go.Lib Go.Sort
set_option linter.unusedVariables false
set_option maxRecDepth 100000

def CellRow (w : World) (g : Nat) (xs : List Value) : Prop := g < w.heap.size ∧ ∀ j u, xs[j]? = some u → w.cell? ⟨g, j, none⟩ = some u ∧ w.frozen? ⟨g, j, none⟩ = false
abbrev Row (w : World) (g : Nat) (l : List Rc) : Prop := CellRow w g (l.flatMap Rc.cells)
theorem size_setCells (g : Nat) : ∀ (vs : List Value) (o : Nat) (w : World), (w.setCells g o vs).heap.size = w.heap.size
  | [], _, _ => rfl
  | v :: r, o, w => by rw [World.setCells, size_setCells g r]; simp
theorem setAll_len : ∀ (vs : List Value) (xs : List Value) (o : Nat), (setAll xs o vs).length = xs.length
  | [], _, _ => rfl
  | v :: vs, xs, o => by rw [setAll, setAll_len vs]; simp
theorem CellRow.sets {w : World} {g : Nat} {xs : List Value} (h : CellRow w g xs) (vs : List Value) (o : Nat) (hl : o + vs.length ≤ xs.length) : CellRow (w.setCells g o vs) g (setAll xs o vs) := by
  refine ⟨by rw [size_setCells]; exact h.1, fun j u hu => ?_⟩
  have hj : j < xs.length := by
    have := (List.getElem?_eq_some_iff.1 hu).1
    rwa [setAll_len] at this
  refine ⟨?_, by rw [World.frozen?_setCells]; exact (h.2 j xs[j] (List.getElem?_eq_getElem hj)).2⟩
  rw [setAll_get] at hu
  by_cases hin : o ≤ j ∧ j < o + vs.length
  · rw [if_pos ⟨hin.1, hin.2, hj⟩] at hu
    have := World.cell?_setCells_in g vs o w (fun i hi => by rw [(h.2 (o + i) (xs[o + i]'(by omega)) (List.getElem?_eq_getElem (by omega))).1]; rfl) (j - o) (by omega)
    rw [show o + (j - o) = j by omega] at this
    rw [this, ← List.getElem?_eq_getElem]; exact hu
  · rw [if_neg (fun hh => hin ⟨hh.1, hh.2.1⟩)] at hu
    rw [World.cell?_setCells_out _ _ _ _ _ (fun _ _ => by show j < o ∨ o + vs.length ≤ j; omega)]
    exact (h.2 j u hu).1
theorem Row.put {w : World} {g : Nat} {l : List Rc} (h : Row w g l) {i : Nat} (hi : i < l.length) (d : Rc) : Row (w.setCells g (i * 3) d.cells) g (l.set i d) := by
  have := CellRow.sets h d.cells (i * 3) (by rw [flat_len Rc.cells 3 Rc.len, Rc.len]; omega)
  rwa [setAll_flat Rc.cells 3 (by omega) Rc.len l i d hi] at this
theorem CellRow.ext {w w' : World} {g : Nat} {xs : List Value} (h : CellRow w g xs) (hE : Ext w w') : CellRow w' g xs :=
  ⟨Nat.lt_of_lt_of_le h.1 hE.size, fun j u hu => ⟨(hE.cell (p := ⟨g, j, none⟩) h.1).trans (h.2 j u hu).1, (hE.frozen (p := ⟨g, j, none⟩) h.1).trans (h.2 j u hu).2⟩⟩
theorem take_flat (l : List Rc) (k : Nat) (hk : k ≤ l.length) : (l.take k).flatMap Rc.cells = (l.flatMap Rc.cells).take (k * 3) := by
  have e : l.flatMap Rc.cells = (l.take k).flatMap Rc.cells ++ (l.drop k).flatMap Rc.cells := by rw [← List.flatMap_append, List.take_append_drop]
  have hA : ((l.take k).flatMap Rc.cells).length = k * 3 := by rw [flat_len Rc.cells 3 Rc.len, List.length_take, Nat.min_eq_left hk]
  rw [e, ← hA]
  exact List.take_left.symm
theorem Row.pre {w : World} {g : Nat} {l : List Rc} (h : Row w g l) {k : Nat} (hk : k ≤ l.length) : Row w g (l.take k) :=
  ⟨h.1, fun j u hu => by
    rw [take_flat l k hk] at hu
    have hj := (List.getElem?_eq_some_iff.1 hu).1
    rw [List.getElem?_take_of_lt (by rw [List.length_take] at hj; omega)] at hu
    exact h.2 j u hu⟩
theorem Row.seg {w : World} {g : Nat} {l : List Rc} (h : Row w g l) : RcSeg w (some ⟨g, 0, none⟩) l :=
  ⟨flat_len Rc.cells 3 Rc.len l, fun _ => ⟨g, 0, rfl, h.1, fun j u hu => by rw [Nat.zero_add]; exact (h.2 j u hu).1⟩⟩
theorem Ext.grownRow {w0 w w' : World} {g : Nat} (h : Ext w0 w) (hg : w0.heap.size ≤ g) (hw : w.grownBy w' (some g)) : Ext w0 w' :=
  ⟨hw.os.trans h.os, hw.tape.trans h.tape, hw.output.trans h.output, Nat.le_trans h.size hw.size, fun k hk => (hw.block k (Nat.lt_of_lt_of_le hk h.size) (fun e => by injection e; omega)).trans (h.block k hk)⟩
theorem os_set (w : World) (a : Addr) (v : Value) : (w.setCell a v).os = w.os ∧ (w.setCell a v).tape = w.tape ∧ (w.setCell a v).output = w.output := by
  unfold World.setCell
  split <;> exact ⟨rfl, rfl, rfl⟩
theorem grownRow_sets (w : World) (g o : Nat) (vs : List Value) : w.grownBy (w.setCells g o vs) (some g) := by
  have : ∀ (vs : List Value) (o : Nat) (w : World), (w.setCells g o vs).os = w.os ∧ (w.setCells g o vs).tape = w.tape ∧ (w.setCells g o vs).output = w.output := by
    intro vs
    induction vs with
    | nil => intro o w; exact ⟨rfl, rfl, rfl⟩
    | cons v r ih =>
      intro o w
      rw [World.setCells]
      obtain ⟨a, b, c⟩ := ih (o + 1) (w.setCell ⟨g, o, none⟩ v)
      have hk := os_set w ⟨g, o, none⟩ v
      exact ⟨a.trans hk.1, b.trans hk.2.1, c.trans hk.2.2⟩
  obtain ⟨h1, h2, h3⟩ := this vs o w
  exact ⟨h1, h2, h3, by rw [size_setCells]; omega, fun k hk hne => World.heap_setCells_other w g o vs hk (fun e => hne (by rw [e]))⟩
theorem heap_sets {g : Nat} {t : TypeId} : ∀ (vs : List Value) (o : Nat) (w : World) (cs : List Value), w.heap[g]? = some (.cells cs.toArray t (0, 0)) → (w.setCells g o vs).heap[g]? = some (.cells (setAll cs o vs).toArray t (0, 0))
  | [], _, _, _, h => h
  | v :: vs, o, w, cs, h => by
    rw [World.setCells, setAll]
    refine heap_sets vs (o + 1) _ (cs.set o v) ?_
    rw [setCell_eq_setRow w g o cs.toArray t (0, 0) v h]
    have := setRow_heap w g cs.toArray (cs.toArray.setIfInBounds o v) t (0, 0) h
    simpa using this
/-- a block of the heap is a row of so many cells -/
def Shp (w : World) (g N : Nat) : Prop := ∃ cur : Array Value, w.heap[g]? = some (.cells cur 54 (0, 0)) ∧ cur.size = N
theorem Shp.ext {w w' : World} {g N : Nat} (h : Shp w g N) (hE : Ext w w') : Shp w' g N := by
  obtain ⟨cur, hh, hs⟩ := h
  exact ⟨cur, (hE.block g (Array.getElem?_eq_some_iff.1 hh).1).trans hh, hs⟩
theorem Shp.sets {w : World} {g N : Nat} (h : Shp w g N) (o : Nat) (vs : List Value) : Shp (w.setCells g o vs) g N := by
  obtain ⟨cur, hh, hs⟩ := h
  exact ⟨_, heap_sets vs o w cur.toList hh, by simp only [List.size_toArray, setAll_len, Array.length_toList]; exact hs⟩
/-- a row changed, its block did not grow -/
def GrownS (w w' : World) (g : Nat) : Prop := w.grownBy w' (some g) ∧ ∀ N, Shp w g N → Shp w' g N
theorem gs_ext {w w' : World} (h : Ext w w') (g : Nat) : GrownS w w' g := ⟨⟨h.os, h.tape, h.output, h.size, fun k hk _ => h.block k hk⟩, fun _ s => s.ext h⟩
theorem gs_trans {a b c : World} {g : Nat} (h : GrownS a b g) (k : GrownS b c g) : GrownS a c g :=
  ⟨⟨k.1.os.trans h.1.os, k.1.tape.trans h.1.tape, k.1.output.trans h.1.output, Nat.le_trans h.1.size k.1.size, fun i hi hne => (k.1.block i (Nat.lt_of_lt_of_le hi h.1.size) hne).trans (h.1.block i hi hne)⟩, fun N s => k.2 N (h.2 N s)⟩
theorem gs_sets (w : World) (g o : Nat) (vs : List Value) : GrownS w (w.setCells g o vs) g := ⟨grownRow_sets w g o vs, fun _ s => s.sets o vs⟩
/-- a row whose block is known is the call's own -/
theorem own_of_row {w : World} {g cap base : Nat} {l : List Rc} (h : Row w g l) (s : Shp w g (cap * 3)) (hl : l.length ≤ cap) (hcm : cap ≤ maxLen) (hb : base ≤ g) : w.ownsRow base 54 3 (.slice (some ⟨g, 0, none⟩) l.length cap) l.length (l.flatMap Rc.cells) := by
  obtain ⟨cur, hh, hs⟩ := s
  have hfl := flat_len Rc.cells 3 Rc.len l
  refine ⟨hfl, .inr ⟨g, cap, cur, rfl, hb, hh, hl, hcm, hs, ?_⟩⟩
  apply List.ext_getElem?
  intro j
  by_cases hj : j < l.length * 3
  · rw [List.getElem?_take_of_lt hj]
    obtain ⟨u, hu⟩ : ∃ u, (l.flatMap Rc.cells)[j]? = some u := ⟨_, List.getElem?_eq_getElem (by rw [hfl]; exact hj)⟩
    rw [hu, ← (h.2 j u hu).1]
    simp [World.cell?, hh]
  · rw [List.getElem?_eq_none (by rw [List.length_take]; omega), List.getElem?_eq_none (by omega)]
theorem flatK_list (l : List Rc) : (flatK Rc.cells 3 l.toArray).toList = l.flatMap Rc.cells := by
  apply List.ext_getElem?
  intro q
  by_cases hq : q < l.length * 3
  · have hd : q / 3 < l.length := by omega
    have hm : q % 3 < 3 := Nat.mod_lt _ (by omega)
    have e : q / 3 * 3 + q % 3 = q := by omega
    have h1 := flat_get Rc.cells 3 Rc.len l (q / 3) (q % 3) l[q / 3] (List.getElem?_eq_getElem hd) hm
    rw [e] at h1
    rw [h1]
    have hs : q < (flatK Rc.cells 3 l.toArray).size := by rw [size_flatK]; simpa using hq
    have h2 := get_flatK Rc.cells 3 l.toArray q (by simpa using hq)
    rw [getElem!_pos _ q hs] at h2
    rw [Array.getElem?_toList, Array.getElem?_eq_getElem hs, h2, getElem!_pos l.toArray (q / 3) (by simpa using hd)]
    have hc : q % 3 < (l.toArray[q / 3]'(by simpa using hd)).cells.length := by rw [Rc.len]; exact hm
    rw [getElem!_pos (l.toArray[q / 3]'(by simpa using hd)).cells (q % 3) hc, ← List.getElem?_eq_getElem]
    simp
  · rw [List.getElem?_eq_none (by rw [Array.length_toList, size_flatK]; simp; omega), List.getElem?_eq_none (by rw [flat_len Rc.cells 3 Rc.len]; omega)]
theorem Row.holds {w : World} {g : Nat} {l : List Rc} (h : Row w g l) : HoldsK Rc.cells 3 w g 0 l.toArray := fun j hj => by
  have hs := hj
  rw [size_flatK] at hj
  have e : (l.flatMap Rc.cells)[j]? = some ((flatK Rc.cells 3 l.toArray)[j]!) := by
    rw [← flatK_list, Array.getElem?_toList, Array.getElem?_eq_getElem hs, getElem!_pos _ j hs]
  rw [Nat.zero_add]
  exact h.2 j _ e
theorem Row.of_holds {w : World} {g : Nat} {l : List Rc} (hg : g < w.heap.size) (h : HoldsK Rc.cells 3 w g 0 l.toArray) : Row w g l := ⟨hg, fun j u hu => by
  have hj : j < (flatK Rc.cells 3 l.toArray).size := by
    have := (List.getElem?_eq_some_iff.1 hu).1
    rw [size_flatK]
    rw [flat_len Rc.cells 3 Rc.len] at this
    simpa using this
  have := h j hj
  rw [Nat.zero_add] at this
  rw [← flatK_list, Array.getElem?_toList, Array.getElem?_eq_getElem hj] at hu
  injection hu with hu
  rw [getElem!_pos _ j hj, hu] at this
  exact this⟩
set_option maxHeartbeats 800000 in
theorem stable_none (c : Nat) (w : World) : Calls Try.prog 38 #[.slice none 0 c, .int .i64 (0 : Nat), .func (.func 33) #[] #[]] w fun e w' => e = .returned (.tuple #[]) ∧ w' = w := by
  have hc := AnyF.insertionSortCmpFunc_none Try.insR none c (.func (.func 33) #[] #[]) w
  go_enter Try.func38, Try.ntmps38
  go_wp2
  refine wp_loop_rounds 1 ?_
  rw [rounds_succ]
  go_wp2_with fail
  refine hc.mono ?_
  rintro e w1 ⟨rfl, rfl⟩
  go_wp2_with fail
  refine wp_loop_rounds 1 ?_
  rw [rounds_succ]
  go_wp2_with fail
  go_end0
  exact ⟨rfl, rfl⟩
set_option maxHeartbeats 800000 in
theorem sort_none (c : Nat) (w : World) : Calls Try.prog 32 #[.slice none 0 c, .func (.func 33) #[] #[]] w fun e w' => e = .returned (.tuple #[]) ∧ w' = w := by
  have hc := stable_none c w
  go_enter Try.func32, Try.ntmps32
  go_wp2_with fail
  refine hc.mono ?_
  rintro e w1 ⟨rfl, rfl⟩
  go_wp2_with fail
  go_end0
  exact ⟨rfl, rfl⟩
set_option maxHeartbeats 800000 in
theorem sort_srt (g cap : Nat) (l : List Rc) (w : World) (h : Row w g l) (hsz : l.length ≤ 1000) :
    Calls Try.prog 32 #[.slice (some ⟨g, 0, none⟩) l.length cap, .func (.func 33) #[] #[]] w fun e w' => e = .returned (.tuple #[]) ∧ ∃ d' : Array Rc, Srtd (ltOf cmpRc) d'.toList ∧ Cls (ltOf cmpRc) l d'.toList ∧ d'.size = l.length ∧ Srt w g 0 d' w' := by
  obtain ⟨h1, h2, h3⟩ := stable_law (lt := ltOf cmpRc) swoR l.toArray
  have hc := stableCmp_r (w0 := w) (blk := g) (off := 0) (d := l.toArray) (rowR h.holds h.1) cap (by simp; omega)
  simp only [List.size_toArray] at hc h1 h2 h3
  obtain ⟨D, hD⟩ : ∃ D, D = mrgA (ltOf cmpRc) 20 l.length (insB (ltOf cmpRc) l.toArray 0 l.length) := ⟨_, rfl⟩
  rw [← hD] at hc h1 h2 h3
  have HH := Lib.hid (And.intro h1 (And.intro h2 h3))
  clear hD h1 h2 h3
  go_enter Try.func32, Try.ntmps32
  go_wp2_with fail
  refine hc.mono ?_
  rintro e w1 ⟨rfl, hS⟩
  have HS : Aside _ := hS
  clear hS
  go_wp2_with fail
  go_end0
  exact ⟨rfl, D, HH.out.1, HH.out.2.1, HH.out.2.2, HS.out⟩
theorem sort_row_r (g cap : Nat) (l : List Rc) (w : World) (h : Row w g l) (hsz : l.length ≤ 1000) :
    Calls Try.prog 32 #[.slice (some ⟨g, 0, none⟩) l.length cap, .func (.func 33) #[] #[]] w fun e w' => e = .returned (.tuple #[]) ∧ GrownS w w' g ∧ ∃ l' : List Rc, Srtd (ltOf cmpRc) l' ∧ Cls (ltOf cmpRc) l l' ∧ l'.length = l.length ∧ Row w' g l' := by
  refine (sort_srt g cap l w h hsz).mono ?_
  rintro e w' ⟨rfl, d', hs, hc, hlen', n, os, rfl⟩
  have hlen : d'.size = l.toArray.size := by simpa using hlen'
  refine ⟨rfl, ?_, d'.toList, hs, hc, by rw [Array.length_toList]; exact hlen', Row.of_holds (Nat.lt_of_lt_of_le h.1 (size_sortWorldK_c Rc.cells 3 w g 0 n _ os)) (by rw [Array.toArray_toList]; exact holdsK_sortWorldK_c Rc.cells 3 w g 0 l.toArray _ n os h.holds h.1 hlen)⟩
  unfold sortWorldK putRowK
  have e := putRow_eq_setCells id w g 0 (flatK Rc.cells 3 l.toArray) (flatK Rc.cells 3 d').toList n h.holds (by rw [Array.length_toList, size_flatK, size_flatK, hlen])
  rw [Array.toArray_toList] at e
  rw [e]
  have k := gs_sets (w.drewN n) g 0 ((flatK Rc.cells 3 d').toList.map id)
  have hbl : ∀ i, i < w.heap.size → (grow ((w.drewN n).setCells g 0 ((flatK Rc.cells 3 d').toList.map id)) os).heap[i]? = ((w.drewN n).setCells g 0 ((flatK Rc.cells 3 d').toList.map id)).heap[i]? := fun i hi => by
    have h2 : i < ((w.drewN n).setCells g 0 ((flatK Rc.cells 3 d').toList.map id)).heap.size := by rw [size_setCells]; exact hi
    exact Array.getElem?_append_left h2
  refine ⟨⟨k.1.os, k.1.tape, k.1.output, by rw [size_grow]; exact Nat.le_trans k.1.size (Nat.le_add_right _ _), fun i hi hne => (hbl i hi).trans (k.1.block i hi hne)⟩, fun N hN => ?_⟩
  obtain ⟨cur, hh, hs⟩ := k.2 N hN
  exact ⟨cur, (hbl g h.1).trans hh, hs⟩
theorem row_of_own {w : World} {base g n c : Nat} {xs : List Value} (h : w.ownsRow base 54 3 (.slice (some ⟨g, 0, none⟩) n c) n xs) : CellRow w g xs ∧ base ≤ g := by
  rcases h.2 with ⟨hv, _⟩ | ⟨g', cap, cur, hv, hb, hh, _, _, hs, ht⟩
  · injection hv with hv; cases hv
  · injection hv with hv _ _
    injection hv with hv
    injection hv with hv _
    subst hv
    refine ⟨⟨(Array.getElem?_eq_some_iff.1 hh).1, fun j u hu => ?_⟩, hb⟩
    have hl := (List.getElem?_eq_some_iff.1 hu).1
    rw [← ht] at hu hl
    rw [List.length_take] at hl
    rw [List.getElem?_take_of_lt (by omega)] at hu
    refine ⟨?_, ?_⟩
    · simp only [World.cell?, hh]
      simpa using hu
    · simp [World.frozen?, hh]
theorem shp_of_own {w : World} {base g n c : Nat} {xs : List Value} (h : w.ownsRow base 54 3 (.slice (some ⟨g, 0, none⟩) n c) n xs) : Shp w g (c * 3) := by
  rcases h.2 with ⟨hv, _⟩ | ⟨g', cap, cur, hv, hb, hh, _, _, hs, ht⟩
  · injection hv with hv; cases hv
  · injection hv with hv _ hc
    injection hv with hv
    injection hv with hv _
    subst hv hc
    exact ⟨cur, hh, hs⟩
/-- the stable sort of a row that the call owns -/
theorem sort_own (base : Nat) (v : Value) (l : List Rc) (w : World) (h : w.ownsRow base 54 3 v l.length (l.flatMap Rc.cells)) (hsz : l.length ≤ 1000) :
    Calls Try.prog 32 #[v, .func (.func 33) #[] #[]] w fun e w' => e = .returned (.tuple #[]) ∧ w.grownBy w' v.ownBlock ∧ ∃ l' : List Rc, Srtd (ltOf cmpRc) l' ∧ Cls (ltOf cmpRc) l l' ∧ l'.length = l.length ∧ w'.ownsRow base 54 3 v l'.length (l'.flatMap Rc.cells) := by
  have h' := h
  rcases h.2 with ⟨rfl, h0⟩ | ⟨g, cap, cur, rfl, hb, hh, hc, hm, hs, ht⟩
  · have hl0 : l = [] := List.eq_nil_of_length_eq_zero (by have := flat_len Rc.cells 3 Rc.len l; rw [h0] at this; simp at this; omega)
    subst hl0
    refine (sort_none 0 w).mono ?_
    rintro e w' ⟨rfl, rfl⟩
    exact ⟨rfl, World.grownBy.refl _ _, [], List.Pairwise.nil, Cls.refl _, rfl, h⟩
  · obtain ⟨hr, _⟩ := row_of_own h'
    have hshp := shp_of_own h'
    refine (sort_row_r g cap l w hr hsz).mono ?_
    rintro e w' ⟨rfl, hg, l', h1, h2, h3, h4⟩
    exact ⟨rfl, hg.1, l', h1, h2, h3, by rw [← h3]; exact own_of_row h4 (hg.2 _ hshp) (by omega) hm hb⟩
end Go.Proofs.Ytooegndajfopkaa
