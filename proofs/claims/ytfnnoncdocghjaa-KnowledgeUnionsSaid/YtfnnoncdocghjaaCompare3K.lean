/- Compare of package determinant. No statement of the seat is proved here. -/
import Derived.Test.YtfnnoncdocghjaaCompareK
import Derived.Test.YtfnnoncdocghjaaRegInv
import Derived.Deep.Upon
namespace Go.Proofs.Ytfnnoncdocghjaa
open Go.RowKit
set_option linter.unusedVariables false
set_option maxRecDepth 100000

theorem blk_newC {w : World} {g : Nat} {t : TypeId} {cs : Array Value} (h : w.heap.size = g) : Blk (w.alloc (.cells cs t)) g t cs := by subst h; exact heap_alloc_new w _
theorem Blk.there {w : World} {g : Nat} {t : TypeId} {cs : Array Value} (h : Blk w g t cs) {n : Nat} (hn : n ≤ cs.size) : w.there g 0 n := fun j hj => by
  rw [Nat.zero_add, h.cell, h.frozen]
  exact ⟨by rw [Array.getElem?_eq_getElem (by omega)]; rfl, rfl⟩
theorem Ext.setCells {w : World} {g : Nat} (hg : w.heap.size ≤ g) : ∀ (vs : List Value) (o : Nat) (W : World), Ext w W → Ext w (W.setCells g o vs)
  | [], _, _, h => h
  | v :: r, o, W, h => by rw [World.setCells]; exact Ext.setCells hg r (o + 1) _ (Below.setCell h (p := ⟨g, o, none⟩) hg v)
abbrev KeyR (w : World) (g : Nat) (a : Dt) : Prop := w.rangeAt g 0 (a.keys.map (Value.int .i64))
def CutRel (w : World) (a b : Dt) (s5 s6 : Value) (wx : World) : Prop :=
  ∃ g5 g6 : Nat, s5 = .pointer (some ⟨g5, 0, none⟩) ∧ s6 = .pointer (some ⟨g6, 0, none⟩) ∧ KeyR wx g5 a ∧ KeyR wx g6 b ∧ Ext w wx
def CmpRelR (w : World) (g5 g6 : Nat) (a b : Dt) (g : Nat) (i : Value) (wr : World) : Prop :=
  ∃ j : Nat, j ≤ 9 ∧ i = .int .i64 j ∧ g = 9 - j ∧ KeyR wr g5 a ∧ KeyR wr g6 b ∧ Ext w wr ∧ cmpL a.keys b.keys = cmpL (a.keys.drop j) (b.keys.drop j)
theorem keysR_at {W : World} {g : Nat} {a : Dt} (h : KeyR W g a) {j : Nat} (hj : j < 9) : W.cell? ⟨g, j, none⟩ = some (.int .i64 (a.keys[j]'hj)) := by
  have hl : j < a.keys.length := hj
  have := h j (.int .i64 (a.keys[j]'hj)) (by rw [List.getElem?_map, List.getElem?_eq_getElem hl]; rfl)
  rwa [Nat.zero_add] at this


def CI (w w0 : World) (a b : Dt) (l : Nat → Bool) (ac : Act) (wr : World) : Prop :=
  ∃ s5 s6 s9 s10 s11 s12 : Value, ∃ g5 g6 : Nat, ac = ⟨#[.agg #[.int .i64 a.proc, .int .i64 a.index, .int .i64 a.ev.kind, .int .i64 a.ev.inc, .int .i64 a.ev.frm, .int .i64 a.ev.sinc, .int .i64 a.ev.sidx, .int .i64 a.ev.ord, .int .i64 a.ev.val], .agg #[.int .i64 b.proc, .int .i64 b.index, .int .i64 b.ev.kind, .int .i64 b.ev.inc, .int .i64 b.ev.frm, .int .i64 b.ev.sinc, .int .i64 b.ev.sidx, .int .i64 b.ev.ord, .int .i64 b.ev.val], .pointer (some ⟨w.heap.size, 0, none⟩), .pointer (some ⟨w.heap.size + 1, 0, none⟩), .int .i64 0, s5, s6, undef, undef, s9, s10, s11, s12, undef, undef, undef, undef, undef, undef, undef, undef, undef, undef, undef, undef, undef, undef], []⟩ ∧
    Ext w0 wr ∧ (l 0 = true → s9 = .agg #[.int .i64 a.proc, .int .i64 a.index, .int .i64 a.ev.kind, .int .i64 a.ev.inc, .int .i64 a.ev.frm, .int .i64 a.ev.sinc, .int .i64 a.ev.sidx, .int .i64 a.ev.ord, .int .i64 a.ev.val]) ∧ (l 1 = true → s10 = .agg #[.int .i64 a.proc, .int .i64 a.index, .int .i64 a.ev.inc, .int .i64 a.ev.kind, .int .i64 a.ev.frm, .int .i64 a.ev.sinc, .int .i64 a.ev.sidx, .int .i64 a.ev.ord, .int .i64 a.ev.val]) ∧ (l 2 = true → s11 = .agg #[.int .i64 b.proc, .int .i64 b.index, .int .i64 b.ev.kind, .int .i64 b.ev.inc, .int .i64 b.ev.frm, .int .i64 b.ev.sinc, .int .i64 b.ev.sidx, .int .i64 b.ev.ord, .int .i64 b.ev.val]) ∧ (l 3 = true → s12 = .agg #[.int .i64 b.proc, .int .i64 b.index, .int .i64 b.ev.inc, .int .i64 b.ev.kind, .int .i64 b.ev.frm, .int .i64 b.ev.sinc, .int .i64 b.ev.sidx, .int .i64 b.ev.ord, .int .i64 b.ev.val]) ∧
    (l 4 = true → s5 = .pointer (some ⟨g5, 0, none⟩) ∧ w0.heap.size ≤ g5 ∧ g5 < wr.heap.size ∧ wr.there g5 0 9) ∧ (l 5 = true → s6 = .pointer (some ⟨g6, 0, none⟩) ∧ w0.heap.size ≤ g6 ∧ g6 < wr.heap.size ∧ wr.there g6 0 9) ∧ (l 4 = true → l 5 = true → g5 ≠ g6) ∧
    (l 6 = true → KeyR wr g5 a) ∧ (l 7 = true → KeyR wr g6 b) ∧ (l 6 = true → l 4 = true ∧ l 5 = true) ∧ (l 7 = true → l 5 = true ∧ l 6 = true)
theorem setCells_size (g : Nat) : ∀ (vs : List Value) (o : Nat) (w : World), (w.setCells g o vs).heap.size = w.heap.size
  | [], _, _ => rfl
  | v :: r, o, w => by rw [World.setCells, setCells_size g r]; simp
theorem there_ext {w w' : World} {g n : Nat} (h : w.there g 0 n) (hg : g < w.heap.size) (hE : Ext w w') : w'.there g 0 n := fun j hj => by
  rw [hE.cell (p := ⟨g, 0 + j, none⟩) hg, hE.frozen (p := ⟨g, 0 + j, none⟩) hg]; exact h j hj
theorem keyR_ext {w w' : World} {g : Nat} {a : Dt} (h : KeyR w g a) (hE : Ext w w') : KeyR w' g a := fun j v hv => by
  have := h j v hv
  rw [hE.cell (p := ⟨g, 0 + j, none⟩) (World.block_lt_of_cell? w _ this)]; exact this

set_option maxRecDepth 100000 in
set_option maxHeartbeats 1600000 in
theorem compare_sl (a b : Dt) (w : World) : Calls Try.prog 63 #[.agg #[.int .i64 a.proc, .int .i64 a.index, .int .i64 a.ev.kind, .int .i64 a.ev.inc, .int .i64 a.ev.frm, .int .i64 a.ev.sinc, .int .i64 a.ev.sidx, .int .i64 a.ev.ord, .int .i64 a.ev.val], .agg #[.int .i64 b.proc, .int .i64 b.index, .int .i64 b.ev.kind, .int .i64 b.ev.inc, .int .i64 b.ev.frm, .int .i64 b.ev.sinc, .int .i64 b.ev.sidx, .int .i64 b.ev.ord, .int .i64 b.ev.val]] w (ExtPost w (.int .i64 (cmpD a b))) := by
  have hBa : Blk ((w.alloc (.cells a.cells.toArray 32)).alloc (.cells b.cells.toArray 32)) w.heap.size 32 a.cells.toArray := (Blk.new w _ _).ext ((Ext.refl _).allocs _)
  have hBb : Blk ((w.alloc (.cells a.cells.toArray 32)).alloc (.cells b.cells.toArray 32)) (w.heap.size + 1) 32 b.cells.toArray := blk_newC (by simp)
  have hXX := ((Ext.refl w).allocs (.cells a.cells.toArray 32)).allocs (.cells b.cells.toArray 32)
  obtain ⟨w0, hw0⟩ : ∃ w0, (w.alloc (.cells a.cells.toArray 32)).alloc (.cells b.cells.toArray 32) = w0 := ⟨_, rfl⟩
  rw [hw0] at hBa hBb hXX
  have HW := Lib.hid hw0
  clear hw0
  go_enter Try.func63, Try.ntmps63
  go_upto_region 1 with fail
  have e := HW.out
  unfold Dt.cells at e
  rw [e]
  clear e HW
  go_cut [5, 6] (fun s5 s6 wx => CutRel w a b s5 s6 wx)
  case first =>
    refine wp_region_steps (by kernel_rfl) (by kernel_rfl) (CI w w0 a b) ?start ?fin ?steps
    case start =>
      exact ⟨undef, undef, undef, undef, undef, undef, 0, 0, rfl, Below.drew (Ext.refl w0), by simp, by simp, by simp, by simp, by simp, by simp, by simp, by simp, by simp, by simp, by simp⟩
    case fin =>
      rintro m ac wr ⟨s5, s6, s9, s10, s11, s12, g5, g6, rfl, hE, h0, h1, h2, h3, h4, h5, h45, h6, h7, e6, e7⟩ hall
      obtain ⟨rfl, _⟩ := h4 (hall 4 (by simp))
      obtain ⟨rfl, _⟩ := h5 (hall 5 (by simp))
      have r1 := h6 (hall 6 (by simp))
      have r2 := h7 (hall 7 (by simp))
      clear h0 h1 h2 h3 h4 h5 h45 h6 h7 e6 e7 hall
      go_wp2_with fail
      go_meet
      exact ⟨g5, g6, rfl, rfl, r1, r2, hXX.trans hE⟩
    case steps =>
      refine ⟨?s0, ?s1, ?s2, ?s3, ?s4, ?s5, ?s6, ?s7, trivial⟩
      case s0 =>
        rintro m ac wr ⟨s5, s6, s9, s10, s11, s12, g5, g6, rfl, hE, h0, h1, h2, h3, h4, h5, h45, h6, h7, e6, e7⟩ hl he
        clear he
        obtain ⟨b0, b1, b2, b3, b4, b5, b6, b7, b8⟩ := blk9 (hBa.ext hE)
        have H0_ := Lib.hid h0
        clear h0
        have H1_ := Lib.hid h1
        clear h1
        have H2_ := Lib.hid h2
        clear h2
        have H3_ := Lib.hid h3
        clear h3
        have H4_ := Lib.hid h4
        clear h4
        have H5_ := Lib.hid h5
        clear h5
        have H45_ := Lib.hid h45
        clear h45
        have H6_ := Lib.hid h6
        clear h6
        have H7_ := Lib.hid h7
        clear h7
        have E6_ := Lib.hid e6
        clear e6
        have E7_ := Lib.hid e7
        clear e7
        have HL_ := Lib.hid hl
        clear hl
        go_wp2_with fail
        refine ⟨s5, s6, _, s10, s11, s12, g5, g6, rfl, hE, fun _ => rfl, fun h => H1_.out h, fun h => H2_.out h, fun h => H3_.out h, fun h => (H4_.out h).imp_right fun q => ⟨q.1, Nat.lt_of_lt_of_le q.2.1 (Below.size (Ext.refl wr)), there_ext q.2.2 q.2.1 (Ext.refl wr)⟩, fun h => (H5_.out h).imp_right fun q => ⟨q.1, Nat.lt_of_lt_of_le q.2.1 (Below.size (Ext.refl wr)), there_ext q.2.2 q.2.1 (Ext.refl wr)⟩, fun h h' => H45_.out h h', fun h => keyR_ext (H6_.out h) (Ext.refl wr), fun h => keyR_ext (H7_.out h) (Ext.refl wr), fun h => E6_.out h, fun h => E7_.out h⟩
      case s1 =>
        rintro m ac wr ⟨s5, s6, s9, s10, s11, s12, g5, g6, rfl, hE, h0, h1, h2, h3, h4, h5, h45, h6, h7, e6, e7⟩ hl he
        simp [Region.binds] at he
        obtain rfl := h0 he
        have H0_ := Lib.hid h0
        clear h0
        have H1_ := Lib.hid h1
        clear h1
        have H2_ := Lib.hid h2
        clear h2
        have H3_ := Lib.hid h3
        clear h3
        have H4_ := Lib.hid h4
        clear h4
        have H5_ := Lib.hid h5
        clear h5
        have H45_ := Lib.hid h45
        clear h45
        have H6_ := Lib.hid h6
        clear h6
        have H7_ := Lib.hid h7
        clear h7
        have E6_ := Lib.hid e6
        clear e6
        have E7_ := Lib.hid e7
        clear e7
        have HL_ := Lib.hid hl
        clear hl
        go_wp2_with (go_at_call 76; refine (fields_any a _).mono ?_; rintro e w2 ⟨rfl, hE2⟩)
        refine ⟨s5, s6, _, _, s11, s12, g5, g6, rfl, hE.trans hE2, fun _ => rfl, fun _ => rfl, fun h => H2_.out h, fun h => H3_.out h, fun h => (H4_.out h).imp_right fun q => ⟨q.1, Nat.lt_of_lt_of_le q.2.1 (Below.size hE2), there_ext q.2.2 q.2.1 hE2⟩, fun h => (H5_.out h).imp_right fun q => ⟨q.1, Nat.lt_of_lt_of_le q.2.1 (Below.size hE2), there_ext q.2.2 q.2.1 hE2⟩, fun h h' => H45_.out h h', fun h => keyR_ext (H6_.out h) hE2, fun h => keyR_ext (H7_.out h) hE2, fun h => E6_.out h, fun h => E7_.out h⟩
      case s2 =>
        rintro m ac wr ⟨s5, s6, s9, s10, s11, s12, g5, g6, rfl, hE, h0, h1, h2, h3, h4, h5, h45, h6, h7, e6, e7⟩ hl he
        clear he
        obtain ⟨b0, b1, b2, b3, b4, b5, b6, b7, b8⟩ := blk9 (hBb.ext hE)
        have H0_ := Lib.hid h0
        clear h0
        have H1_ := Lib.hid h1
        clear h1
        have H2_ := Lib.hid h2
        clear h2
        have H3_ := Lib.hid h3
        clear h3
        have H4_ := Lib.hid h4
        clear h4
        have H5_ := Lib.hid h5
        clear h5
        have H45_ := Lib.hid h45
        clear h45
        have H6_ := Lib.hid h6
        clear h6
        have H7_ := Lib.hid h7
        clear h7
        have E6_ := Lib.hid e6
        clear e6
        have E7_ := Lib.hid e7
        clear e7
        have HL_ := Lib.hid hl
        clear hl
        go_wp2_with fail
        refine ⟨s5, s6, s9, s10, _, s12, g5, g6, rfl, hE, fun h => H0_.out h, fun h => H1_.out h, fun _ => rfl, fun h => H3_.out h, fun h => (H4_.out h).imp_right fun q => ⟨q.1, Nat.lt_of_lt_of_le q.2.1 (Below.size (Ext.refl wr)), there_ext q.2.2 q.2.1 (Ext.refl wr)⟩, fun h => (H5_.out h).imp_right fun q => ⟨q.1, Nat.lt_of_lt_of_le q.2.1 (Below.size (Ext.refl wr)), there_ext q.2.2 q.2.1 (Ext.refl wr)⟩, fun h h' => H45_.out h h', fun h => keyR_ext (H6_.out h) (Ext.refl wr), fun h => keyR_ext (H7_.out h) (Ext.refl wr), fun h => E6_.out h, fun h => E7_.out h⟩
      case s3 =>
        rintro m ac wr ⟨s5, s6, s9, s10, s11, s12, g5, g6, rfl, hE, h0, h1, h2, h3, h4, h5, h45, h6, h7, e6, e7⟩ hl he
        simp [Region.binds] at he
        obtain rfl := h2 he.1
        have H0_ := Lib.hid h0
        clear h0
        have H1_ := Lib.hid h1
        clear h1
        have H2_ := Lib.hid h2
        clear h2
        have H3_ := Lib.hid h3
        clear h3
        have H4_ := Lib.hid h4
        clear h4
        have H5_ := Lib.hid h5
        clear h5
        have H45_ := Lib.hid h45
        clear h45
        have H6_ := Lib.hid h6
        clear h6
        have H7_ := Lib.hid h7
        clear h7
        have E6_ := Lib.hid e6
        clear e6
        have E7_ := Lib.hid e7
        clear e7
        have HL_ := Lib.hid hl
        clear hl
        go_wp2_with (go_at_call 76; refine (fields_any b _).mono ?_; rintro e w2 ⟨rfl, hE2⟩)
        refine ⟨s5, s6, s9, s10, _, _, g5, g6, rfl, hE.trans hE2, fun h => H0_.out h, fun h => H1_.out h, fun _ => rfl, fun _ => rfl, fun h => (H4_.out h).imp_right fun q => ⟨q.1, Nat.lt_of_lt_of_le q.2.1 (Below.size hE2), there_ext q.2.2 q.2.1 hE2⟩, fun h => (H5_.out h).imp_right fun q => ⟨q.1, Nat.lt_of_lt_of_le q.2.1 (Below.size hE2), there_ext q.2.2 q.2.1 hE2⟩, fun h h' => H45_.out h h', fun h => keyR_ext (H6_.out h) hE2, fun h => keyR_ext (H7_.out h) hE2, fun h => E6_.out h, fun h => E7_.out h⟩
      case s4 =>
        rintro m ac wr ⟨s5, s6, s9, s10, s11, s12, g5, g6, rfl, hE, h0, h1, h2, h3, h4, h5, h45, h6, h7, e6, e7⟩ hl he
        clear he
        have H0_ := Lib.hid h0
        clear h0
        have H1_ := Lib.hid h1
        clear h1
        have H2_ := Lib.hid h2
        clear h2
        have H3_ := Lib.hid h3
        clear h3
        have H4_ := Lib.hid h4
        clear h4
        have H5_ := Lib.hid h5
        clear h5
        have H45_ := Lib.hid h45
        clear h45
        have H6_ := Lib.hid h6
        clear h6
        have H7_ := Lib.hid h7
        clear h7
        have E6_ := Lib.hid e6
        clear e6
        have E7_ := Lib.hid e7
        clear e7
        have HL_ := Lib.hid hl
        clear hl
        go_wp2_with fail
        refine ⟨_, s6, s9, s10, s11, s12, wr.heap.size, g6, rfl, hE.allocs _, fun h => H0_.out h, fun h => H1_.out h, fun h => H2_.out h, fun h => H3_.out h, fun _ => ⟨rfl, hE.size, by simp, (Blk.new wr 101 #[.int .i64 0, .int .i64 0, .int .i64 0, .int .i64 0, .int .i64 0, .int .i64 0, .int .i64 0, .int .i64 0, .int .i64 0]).there (Nat.le_refl 9)⟩, fun h => (H5_.out h).imp_right fun q => ⟨q.1, Nat.lt_of_lt_of_le q.2.1 (Below.size ((Ext.refl wr).allocs (.cells #[.int .i64 0, .int .i64 0, .int .i64 0, .int .i64 0, .int .i64 0, .int .i64 0, .int .i64 0, .int .i64 0, .int .i64 0] 101))), there_ext q.2.2 q.2.1 ((Ext.refl wr).allocs (.cells #[.int .i64 0, .int .i64 0, .int .i64 0, .int .i64 0, .int .i64 0, .int .i64 0, .int .i64 0, .int .i64 0, .int .i64 0] 101))⟩, fun _ h' => Nat.ne_of_gt (H5_.out h').2.2.1, fun h => absurd (E6_.out h).1 (by rw [HL_.out]; simp), fun h => keyR_ext (H7_.out h) ((Ext.refl wr).allocs (.cells #[.int .i64 0, .int .i64 0, .int .i64 0, .int .i64 0, .int .i64 0, .int .i64 0, .int .i64 0, .int .i64 0, .int .i64 0] 101)), fun h => ⟨rfl, (E6_.out h).2⟩, fun h => E7_.out h⟩
      case s5 =>
        rintro m ac wr ⟨s5, s6, s9, s10, s11, s12, g5, g6, rfl, hE, h0, h1, h2, h3, h4, h5, h45, h6, h7, e6, e7⟩ hl he
        clear he
        have H0_ := Lib.hid h0
        clear h0
        have H1_ := Lib.hid h1
        clear h1
        have H2_ := Lib.hid h2
        clear h2
        have H3_ := Lib.hid h3
        clear h3
        have H4_ := Lib.hid h4
        clear h4
        have H5_ := Lib.hid h5
        clear h5
        have H45_ := Lib.hid h45
        clear h45
        have H6_ := Lib.hid h6
        clear h6
        have H7_ := Lib.hid h7
        clear h7
        have E6_ := Lib.hid e6
        clear e6
        have E7_ := Lib.hid e7
        clear e7
        have HL_ := Lib.hid hl
        clear hl
        go_wp2_with fail
        refine ⟨s5, _, s9, s10, s11, s12, g5, wr.heap.size, rfl, hE.allocs _, fun h => H0_.out h, fun h => H1_.out h, fun h => H2_.out h, fun h => H3_.out h, fun h => (H4_.out h).imp_right fun q => ⟨q.1, Nat.lt_of_lt_of_le q.2.1 (Below.size ((Ext.refl wr).allocs (.cells #[.int .i64 0, .int .i64 0, .int .i64 0, .int .i64 0, .int .i64 0, .int .i64 0, .int .i64 0, .int .i64 0, .int .i64 0] 101))), there_ext q.2.2 q.2.1 ((Ext.refl wr).allocs (.cells #[.int .i64 0, .int .i64 0, .int .i64 0, .int .i64 0, .int .i64 0, .int .i64 0, .int .i64 0, .int .i64 0, .int .i64 0] 101))⟩, fun _ => ⟨rfl, hE.size, by simp, (Blk.new wr 101 #[.int .i64 0, .int .i64 0, .int .i64 0, .int .i64 0, .int .i64 0, .int .i64 0, .int .i64 0, .int .i64 0, .int .i64 0]).there (Nat.le_refl 9)⟩, fun h' _ => Nat.ne_of_lt (H4_.out h').2.2.1, fun h => keyR_ext (H6_.out h) ((Ext.refl wr).allocs (.cells #[.int .i64 0, .int .i64 0, .int .i64 0, .int .i64 0, .int .i64 0, .int .i64 0, .int .i64 0, .int .i64 0, .int .i64 0] 101)), fun h => absurd (E7_.out h).1 (by rw [HL_.out]; simp), fun h => ⟨(E6_.out h).1, rfl⟩, fun h => ⟨rfl, (E7_.out h).2⟩⟩
      case s6 =>
        rintro m ac wr ⟨s5, s6, s9, s10, s11, s12, g5, g6, rfl, hE, h0, h1, h2, h3, h4, h5, h45, h6, h7, e6, e7⟩ hl he
        simp [Region.binds] at he
        obtain ⟨he4, he1, _, _, _, _, he5⟩ := he
        obtain rfl := h1 he1
        obtain ⟨rfl, g51, g52, g53⟩ := h4 he4
        have q5 := h5 he5
        have hne := h45 he4 he5
        have H0_ := Lib.hid h0
        clear h0
        have H1_ := Lib.hid h1
        clear h1
        have H2_ := Lib.hid h2
        clear h2
        have H3_ := Lib.hid h3
        clear h3
        have H4_ := Lib.hid h4
        clear h4
        have H5_ := Lib.hid h5
        clear h5
        have H45_ := Lib.hid h45
        clear h45
        have H6_ := Lib.hid h6
        clear h6
        have H7_ := Lib.hid h7
        clear h7
        have E6_ := Lib.hid e6
        clear e6
        have E7_ := Lib.hid e7
        clear e7
        refine wpList_store_mid rfl 101 _ _ rfl g5 0 #[.int .i64 a.proc, .int .i64 a.index, .int .i64 a.ev.inc, .int .i64 a.ev.kind, .int .i64 a.ev.frm, .int .i64 a.ev.sinc, .int .i64 a.ev.sidx, .int .i64 a.ev.ord, .int .i64 a.ev.val] rfl rfl g53 (by kernel_rfl) (by simp [Value.oneCell']) ?_
        refine ⟨_, s6, s9, _, s11, s12, g5, g6, rfl, Ext.setCells g51 _ _ _ hE, fun h => H0_.out h, fun h => H1_.out h, fun h => H2_.out h, fun h => H3_.out h, fun _ => ⟨rfl, g51, ?_, World.there_setCells g53 _ _ _⟩, fun _ => ⟨q5.1, q5.2.1, ?_, World.there_setCells q5.2.2.2 _ _ _⟩, fun _ _ => hne, fun _ => World.rangeAt_setCells_same _ _ _ _ g53, fun h => absurd (E7_.out h).2 (by rw [hl]; simp), fun _ => ⟨he4, he5⟩, fun h => ⟨he5, rfl⟩⟩
        · rw [setCells_size]; exact g52
        · rw [setCells_size]; exact q5.2.2.1
      case s7 =>
        rintro m ac wr ⟨s5, s6, s9, s10, s11, s12, g5, g6, rfl, hE, h0, h1, h2, h3, h4, h5, h45, h6, h7, e6, e7⟩ hl he
        simp [Region.binds] at he
        obtain ⟨he5, he3, he6, _, _, _, _, he4, _, _⟩ := he
        obtain rfl := h3 he3
        obtain ⟨rfl, g61, g62, g63⟩ := h5 he5
        have q4 := h4 he4
        have q6 := h6 he6
        have hne := h45 he4 he5
        have H0_ := Lib.hid h0
        clear h0
        have H1_ := Lib.hid h1
        clear h1
        have H2_ := Lib.hid h2
        clear h2
        have H3_ := Lib.hid h3
        clear h3
        have H4_ := Lib.hid h4
        clear h4
        have H5_ := Lib.hid h5
        clear h5
        have H45_ := Lib.hid h45
        clear h45
        have H6_ := Lib.hid h6
        clear h6
        have H7_ := Lib.hid h7
        clear h7
        have E6_ := Lib.hid e6
        clear e6
        have E7_ := Lib.hid e7
        clear e7
        refine wpList_store_mid rfl 101 _ _ rfl g6 0 #[.int .i64 b.proc, .int .i64 b.index, .int .i64 b.ev.inc, .int .i64 b.ev.kind, .int .i64 b.ev.frm, .int .i64 b.ev.sinc, .int .i64 b.ev.sidx, .int .i64 b.ev.ord, .int .i64 b.ev.val] rfl rfl g63 (by kernel_rfl) (by simp [Value.oneCell']) ?_
        refine ⟨s5, _, s9, s10, s11, _, g5, g6, rfl, Ext.setCells g61 _ _ _ hE, fun h => H0_.out h, fun h => H1_.out h, fun h => H2_.out h, fun h => H3_.out h, fun _ => ⟨q4.1, q4.2.1, ?_, World.there_setCells q4.2.2.2 _ _ _⟩, fun _ => ⟨rfl, g61, ?_, World.there_setCells g63 _ _ _⟩, fun _ _ => hne, fun _ => World.rangeAt_setCells_apart q6 _ _ _ (.inl hne), fun _ => World.rangeAt_setCells_same _ _ _ _ g63, fun _ => ⟨he4, he5⟩, fun _ => ⟨he5, he6⟩⟩
        · rw [setCells_size]; exact q4.2.2.1
        · rw [setCells_size]; exact g62
  case rest =>
    obtain ⟨g5, g6, rfl, rfl, hB5, hB6, hX⟩ := hcut
    clear hBa hBb hXX
    go_wp2_with fail
    go_loopg [13] 9 (fun g i wr => CmpRelR w g5 g6 a b g i wr)
    case atStart => exact ⟨0, Nat.zero_le _, rfl, rfl, hB5, hB6, hX, rfl⟩
    case round =>
      clear hB5 hB6 hX
      obtain ⟨j, hj, rfl, rfl, hB5, hB6, hX, hEq⟩ := hrel
      have HQ := Lib.hid hEq
      clear hEq
      by_cases hlt : j < 9
      · have c5 := keysR_at hB5 hlt
        have c6 := keysR_at hB6 hlt
        have HS := Lib.hid (cmp_step a b j hlt)
        generalize a.keys[j]'hlt = x at *
        generalize b.keys[j]'hlt = y at *
        have hji : (j : Int) < 9 := by omega
        have hj0 : (0 : Int) ≤ (j : Int) := by omega
        go_wp2_with fail
        go_quiet ((go_at_call 77; exact Calls.quiet_of_same ((cmpInt_any x y _).mono fun _ _ h => ⟨h.1, h.2.symm⟩)))
        by_cases h0 : cmpI x y = 0
        · have h0' : (cmpI x y != 0) = false := by simp [h0]
          have H0 := Lib.hid h0
          clear h0
          generalize cmpI x y = z at *
          go_wp2_with fail
          go_roundg (9 - (j + 1))
          case measure => omega
          case rel => exact ⟨j + 1, by omega, by go_num, rfl, hB5, hB6, hX.drewN _, by rw [HQ.out, HS.out, if_pos H0.out]⟩
        · have h0' : (cmpI x y != 0) = true := by simp [h0]
          have H0 := Lib.hid h0
          clear h0
          generalize cmpI x y = z at *
          go_wp2_with fail
          go_ret
          refine ⟨ret_int ?_, hX.drewN _⟩
          show z = cmpL a.keys b.keys
          rw [HQ.out, HS.out, if_neg H0.out]
      · obtain rfl : j = 9 := by omega
        go_wp2_with fail
        go_ret
        refine ⟨ret_int ?_, hX⟩
        show 0 = cmpL a.keys b.keys
        rw [HQ.out]
        rfl
end Go.Proofs.Ytfnnoncdocghjaa
