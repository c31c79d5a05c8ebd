/- CompareDK, CmpLawsK, MergePlainK, KnSort, SelK, CloneK, RowK, CntPlain, MemPlain, MemPlain2, Sched, Count, BitK, joined. No statement of the seat is proved here. -/
import Derived.Test.YtfnnoncdocghjaaK1
import Derived.Test.YtfnnoncdocghjaaSortLayK
import Derived.Lib.QuietBelow
import Derived.Test.YtfnnoncdocghjaaGrowLayK
import Derived.Lib.SliceRun
import Derived.Lib.RowBridge
import Derived.Laws.BitsLemmas
import Derived.OrdersHeld
import Derived.StillTail
import Derived.Deep.RegionHeld
import Derived.Tactics
import Derived.Test.YtfnnoncdocghjaaChecked
namespace Go.Proofs.Ytfnnoncdocghjaa
open Go.RowKit
set_option linter.unusedVariables false
set_option maxRecDepth 100000

/-- new blocks alone, and no fewer draws -/
def ExtD (w w' : World) : Prop := Ext w w' ∧ w.drawn ≤ w'.drawn
theorem ExtD.refl (w : World) : ExtD w w := ⟨Ext.refl w, Nat.le_refl _⟩
theorem ExtD.trans {a b c : World} (h : ExtD a b) (k : ExtD b c) : ExtD a c := ⟨Ext.trans h.1 k.1, Nat.le_trans h.2 k.2⟩
theorem ExtD.allocs {a w : World} (h : ExtD a w) (o : Obj) : ExtD a (w.alloc o) := ⟨h.1.allocs o, h.2⟩
theorem ExtD.drewN {a w : World} (h : ExtD a w) (n : Nat) : ExtD a (w.drewN n) := ⟨h.1.drewN n, Nat.le_trans h.2 (Nat.le_add_right _ _)⟩
theorem ExtD.drew1 (w : World) : ExtD w w.drew := ⟨Below.drew (Ext.refl w), Nat.le_succ _⟩
theorem drawn_setCells (g : Nat) : ∀ (vs : List Value) (o : Nat) (W : World), (W.setCells g o vs).drawn = W.drawn
  | [], _, _ => rfl
  | v :: r, o, W => by rw [World.setCells, drawn_setCells g r]; simp
theorem ExtD.setCells {w : World} {g : Nat} (hg : w.heap.size ≤ g) (vs : List Value) (o : Nat) (W : World) (h : ExtD w W) : ExtD w (W.setCells g o vs) := ⟨Ext.setCells hg vs o W h.1, by rw [drawn_setCells]; exact h.2⟩
set_option maxHeartbeats 800000 in
theorem fields_d (d : Dt) (w : World) : Calls Try.prog 76 #[.agg #[.int .i64 d.proc, .int .i64 d.index, .int .i64 d.ev.kind, .int .i64 d.ev.inc, .int .i64 d.ev.frm, .int .i64 d.ev.sinc, .int .i64 d.ev.sidx, .int .i64 d.ev.ord, .int .i64 d.ev.val]] w fun e w' => e = .returned (.agg #[.int .i64 d.proc, .int .i64 d.index, .int .i64 d.ev.inc, .int .i64 d.ev.kind, .int .i64 d.ev.frm, .int .i64 d.ev.sinc, .int .i64 d.ev.sidx, .int .i64 d.ev.ord, .int .i64 d.ev.val]) ∧ ExtD w w' := by
  go_enter Try.func76, Try.ntmps76
  go_wp2_with fail
  refine bodyPost_ret (v := .agg #[.int .i64 d.proc, .int .i64 d.index, .int .i64 d.ev.inc, .int .i64 d.ev.kind, .int .i64 d.ev.frm, .int .i64 d.ev.sinc, .int .i64 d.ev.sidx, .int .i64 d.ev.ord, .int .i64 d.ev.val]) (by simp [results, Try.results76, go_sem]) rfl ?_
  exact ⟨rfl, (((ExtD.refl w).allocs _).allocs _).allocs _⟩

def CutRelD (w : World) (a b : Dt) (s5 s6 : Value) (wx : World) : Prop :=
  ∃ g5 g6 : Nat, s5 = .pointer (some ⟨g5, 0, none⟩) ∧ s6 = .pointer (some ⟨g6, 0, none⟩) ∧ KeyR wx g5 a ∧ KeyR wx g6 b ∧ ExtD w wx
def CmpRelRD (w : World) (g5 g6 : Nat) (a b : Dt) (g : Nat) (i : Value) (wr : World) : Prop :=
  ∃ j : Nat, j ≤ 9 ∧ i = .int .i64 j ∧ g = 9 - j ∧ KeyR wr g5 a ∧ KeyR wr g6 b ∧ ExtD w wr ∧ cmpL a.keys b.keys = cmpL (a.keys.drop j) (b.keys.drop j)
def CID (w w0 : World) (a b : Dt) (l : Nat → Bool) (ac : Act) (wr : World) : Prop :=
  ∃ s5 s6 s9 s10 s11 s12 : Value, ∃ g5 g6 : Nat, ac = ⟨#[.agg #[.int .i64 a.proc, .int .i64 a.index, .int .i64 a.ev.kind, .int .i64 a.ev.inc, .int .i64 a.ev.frm, .int .i64 a.ev.sinc, .int .i64 a.ev.sidx, .int .i64 a.ev.ord, .int .i64 a.ev.val], .agg #[.int .i64 b.proc, .int .i64 b.index, .int .i64 b.ev.kind, .int .i64 b.ev.inc, .int .i64 b.ev.frm, .int .i64 b.ev.sinc, .int .i64 b.ev.sidx, .int .i64 b.ev.ord, .int .i64 b.ev.val], .pointer (some ⟨w.heap.size, 0, none⟩), .pointer (some ⟨w.heap.size + 1, 0, none⟩), .int .i64 0, s5, s6, undef, undef, s9, s10, s11, s12, undef, undef, undef, undef, undef, undef, undef, undef, undef, undef, undef, undef, undef, undef], []⟩ ∧
    ExtD w0 wr ∧ (l 0 = true → s9 = .agg #[.int .i64 a.proc, .int .i64 a.index, .int .i64 a.ev.kind, .int .i64 a.ev.inc, .int .i64 a.ev.frm, .int .i64 a.ev.sinc, .int .i64 a.ev.sidx, .int .i64 a.ev.ord, .int .i64 a.ev.val]) ∧ (l 1 = true → s10 = .agg #[.int .i64 a.proc, .int .i64 a.index, .int .i64 a.ev.inc, .int .i64 a.ev.kind, .int .i64 a.ev.frm, .int .i64 a.ev.sinc, .int .i64 a.ev.sidx, .int .i64 a.ev.ord, .int .i64 a.ev.val]) ∧ (l 2 = true → s11 = .agg #[.int .i64 b.proc, .int .i64 b.index, .int .i64 b.ev.kind, .int .i64 b.ev.inc, .int .i64 b.ev.frm, .int .i64 b.ev.sinc, .int .i64 b.ev.sidx, .int .i64 b.ev.ord, .int .i64 b.ev.val]) ∧ (l 3 = true → s12 = .agg #[.int .i64 b.proc, .int .i64 b.index, .int .i64 b.ev.inc, .int .i64 b.ev.kind, .int .i64 b.ev.frm, .int .i64 b.ev.sinc, .int .i64 b.ev.sidx, .int .i64 b.ev.ord, .int .i64 b.ev.val]) ∧
    (l 4 = true → s5 = .pointer (some ⟨g5, 0, none⟩) ∧ w0.heap.size ≤ g5 ∧ g5 < wr.heap.size ∧ wr.there g5 0 9) ∧ (l 5 = true → s6 = .pointer (some ⟨g6, 0, none⟩) ∧ w0.heap.size ≤ g6 ∧ g6 < wr.heap.size ∧ wr.there g6 0 9) ∧ (l 4 = true → l 5 = true → g5 ≠ g6) ∧
    (l 6 = true → KeyR wr g5 a) ∧ (l 7 = true → KeyR wr g6 b) ∧ (l 6 = true → l 4 = true ∧ l 5 = true) ∧ (l 7 = true → l 5 = true ∧ l 6 = true)
set_option maxRecDepth 100000 in
set_option maxHeartbeats 1600000 in
theorem compare_d (a b : Dt) (w : World) : Calls Try.prog 63 #[.agg #[.int .i64 a.proc, .int .i64 a.index, .int .i64 a.ev.kind, .int .i64 a.ev.inc, .int .i64 a.ev.frm, .int .i64 a.ev.sinc, .int .i64 a.ev.sidx, .int .i64 a.ev.ord, .int .i64 a.ev.val], .agg #[.int .i64 b.proc, .int .i64 b.index, .int .i64 b.ev.kind, .int .i64 b.ev.inc, .int .i64 b.ev.frm, .int .i64 b.ev.sinc, .int .i64 b.ev.sidx, .int .i64 b.ev.ord, .int .i64 b.ev.val]] w (fun e w' => e = .returned (.int .i64 (cmpD a b)) ∧ ExtD w w') := by
  have hBa : Blk ((w.alloc (.cells a.cells.toArray 32)).alloc (.cells b.cells.toArray 32)) w.heap.size 32 a.cells.toArray := (Blk.new w _ _).ext ((Ext.refl _).allocs _)
  have hBb : Blk ((w.alloc (.cells a.cells.toArray 32)).alloc (.cells b.cells.toArray 32)) (w.heap.size + 1) 32 b.cells.toArray := blk_newC (by simp)
  have hXX := ((ExtD.refl w).allocs (.cells a.cells.toArray 32)).allocs (.cells b.cells.toArray 32)
  obtain ⟨w0, hw0⟩ : ∃ w0, (w.alloc (.cells a.cells.toArray 32)).alloc (.cells b.cells.toArray 32) = w0 := ⟨_, rfl⟩
  rw [hw0] at hBa hBb hXX
  have HW := Lib.hid hw0
  clear hw0
  go_enter Try.func63, Try.ntmps63
  go_upto_region 1 with fail
  have e := HW.out
  unfold Dt.cells at e
  rw [e]
  clear e HW
  go_cut [5, 6] (fun s5 s6 wx => CutRelD w a b s5 s6 wx)
  case first =>
    refine wp_region_steps (by kernel_rfl) (by kernel_rfl) (CID w w0 a b) ?start ?fin ?steps
    case start =>
      exact ⟨undef, undef, undef, undef, undef, undef, 0, 0, rfl, ExtD.drew1 w0, by simp, by simp, by simp, by simp, by simp, by simp, by simp, by simp, by simp, by simp, by simp⟩
    case fin =>
      rintro m ac wr ⟨s5, s6, s9, s10, s11, s12, g5, g6, rfl, hE, h0, h1, h2, h3, h4, h5, h45, h6, h7, e6, e7⟩ hall
      obtain ⟨rfl, _⟩ := h4 (hall 4 (by simp))
      obtain ⟨rfl, _⟩ := h5 (hall 5 (by simp))
      have r1 := h6 (hall 6 (by simp))
      have r2 := h7 (hall 7 (by simp))
      clear h0 h1 h2 h3 h4 h5 h45 h6 h7 e6 e7 hall
      go_wp2_with fail
      go_meet
      exact ⟨g5, g6, rfl, rfl, r1, r2, hXX.trans hE⟩
    case steps =>
      refine ⟨?s0, ?s1, ?s2, ?s3, ?s4, ?s5, ?s6, ?s7, trivial⟩
      case s0 =>
        rintro m ac wr ⟨s5, s6, s9, s10, s11, s12, g5, g6, rfl, hE, h0, h1, h2, h3, h4, h5, h45, h6, h7, e6, e7⟩ hl he
        clear he
        obtain ⟨b0, b1, b2, b3, b4, b5, b6, b7, b8⟩ := blk9 (hBa.ext hE.1)
        have H0_ := Lib.hid h0
        clear h0
        have H1_ := Lib.hid h1
        clear h1
        have H2_ := Lib.hid h2
        clear h2
        have H3_ := Lib.hid h3
        clear h3
        have H4_ := Lib.hid h4
        clear h4
        have H5_ := Lib.hid h5
        clear h5
        have H45_ := Lib.hid h45
        clear h45
        have H6_ := Lib.hid h6
        clear h6
        have H7_ := Lib.hid h7
        clear h7
        have E6_ := Lib.hid e6
        clear e6
        have E7_ := Lib.hid e7
        clear e7
        have HL_ := Lib.hid hl
        clear hl
        go_wp2_with fail
        refine ⟨s5, s6, _, s10, s11, s12, g5, g6, rfl, hE, fun _ => rfl, fun h => H1_.out h, fun h => H2_.out h, fun h => H3_.out h, fun h => (H4_.out h).imp_right fun q => ⟨q.1, Nat.lt_of_lt_of_le q.2.1 (Below.size (Ext.refl wr)), there_ext q.2.2 q.2.1 (Ext.refl wr)⟩, fun h => (H5_.out h).imp_right fun q => ⟨q.1, Nat.lt_of_lt_of_le q.2.1 (Below.size (Ext.refl wr)), there_ext q.2.2 q.2.1 (Ext.refl wr)⟩, fun h h' => H45_.out h h', fun h => keyR_ext (H6_.out h) (Ext.refl wr), fun h => keyR_ext (H7_.out h) (Ext.refl wr), fun h => E6_.out h, fun h => E7_.out h⟩
      case s1 =>
        rintro m ac wr ⟨s5, s6, s9, s10, s11, s12, g5, g6, rfl, hE, h0, h1, h2, h3, h4, h5, h45, h6, h7, e6, e7⟩ hl he
        simp [Region.binds] at he
        obtain rfl := h0 he
        have H0_ := Lib.hid h0
        clear h0
        have H1_ := Lib.hid h1
        clear h1
        have H2_ := Lib.hid h2
        clear h2
        have H3_ := Lib.hid h3
        clear h3
        have H4_ := Lib.hid h4
        clear h4
        have H5_ := Lib.hid h5
        clear h5
        have H45_ := Lib.hid h45
        clear h45
        have H6_ := Lib.hid h6
        clear h6
        have H7_ := Lib.hid h7
        clear h7
        have E6_ := Lib.hid e6
        clear e6
        have E7_ := Lib.hid e7
        clear e7
        have HL_ := Lib.hid hl
        clear hl
        go_wp2_with (go_at_call 76; refine (fields_d a _).mono ?_; rintro e w2 ⟨rfl, hE2⟩)
        refine ⟨s5, s6, _, _, s11, s12, g5, g6, rfl, hE.trans hE2, fun _ => rfl, fun _ => rfl, fun h => H2_.out h, fun h => H3_.out h, fun h => (H4_.out h).imp_right fun q => ⟨q.1, Nat.lt_of_lt_of_le q.2.1 (Below.size hE2.1), there_ext q.2.2 q.2.1 hE2.1⟩, fun h => (H5_.out h).imp_right fun q => ⟨q.1, Nat.lt_of_lt_of_le q.2.1 (Below.size hE2.1), there_ext q.2.2 q.2.1 hE2.1⟩, fun h h' => H45_.out h h', fun h => keyR_ext (H6_.out h) hE2.1, fun h => keyR_ext (H7_.out h) hE2.1, fun h => E6_.out h, fun h => E7_.out h⟩
      case s2 =>
        rintro m ac wr ⟨s5, s6, s9, s10, s11, s12, g5, g6, rfl, hE, h0, h1, h2, h3, h4, h5, h45, h6, h7, e6, e7⟩ hl he
        clear he
        obtain ⟨b0, b1, b2, b3, b4, b5, b6, b7, b8⟩ := blk9 (hBb.ext hE.1)
        have H0_ := Lib.hid h0
        clear h0
        have H1_ := Lib.hid h1
        clear h1
        have H2_ := Lib.hid h2
        clear h2
        have H3_ := Lib.hid h3
        clear h3
        have H4_ := Lib.hid h4
        clear h4
        have H5_ := Lib.hid h5
        clear h5
        have H45_ := Lib.hid h45
        clear h45
        have H6_ := Lib.hid h6
        clear h6
        have H7_ := Lib.hid h7
        clear h7
        have E6_ := Lib.hid e6
        clear e6
        have E7_ := Lib.hid e7
        clear e7
        have HL_ := Lib.hid hl
        clear hl
        go_wp2_with fail
        refine ⟨s5, s6, s9, s10, _, s12, g5, g6, rfl, hE, fun h => H0_.out h, fun h => H1_.out h, fun _ => rfl, fun h => H3_.out h, fun h => (H4_.out h).imp_right fun q => ⟨q.1, Nat.lt_of_lt_of_le q.2.1 (Below.size (Ext.refl wr)), there_ext q.2.2 q.2.1 (Ext.refl wr)⟩, fun h => (H5_.out h).imp_right fun q => ⟨q.1, Nat.lt_of_lt_of_le q.2.1 (Below.size (Ext.refl wr)), there_ext q.2.2 q.2.1 (Ext.refl wr)⟩, fun h h' => H45_.out h h', fun h => keyR_ext (H6_.out h) (Ext.refl wr), fun h => keyR_ext (H7_.out h) (Ext.refl wr), fun h => E6_.out h, fun h => E7_.out h⟩
      case s3 =>
        rintro m ac wr ⟨s5, s6, s9, s10, s11, s12, g5, g6, rfl, hE, h0, h1, h2, h3, h4, h5, h45, h6, h7, e6, e7⟩ hl he
        simp [Region.binds] at he
        obtain rfl := h2 he.1
        have H0_ := Lib.hid h0
        clear h0
        have H1_ := Lib.hid h1
        clear h1
        have H2_ := Lib.hid h2
        clear h2
        have H3_ := Lib.hid h3
        clear h3
        have H4_ := Lib.hid h4
        clear h4
        have H5_ := Lib.hid h5
        clear h5
        have H45_ := Lib.hid h45
        clear h45
        have H6_ := Lib.hid h6
        clear h6
        have H7_ := Lib.hid h7
        clear h7
        have E6_ := Lib.hid e6
        clear e6
        have E7_ := Lib.hid e7
        clear e7
        have HL_ := Lib.hid hl
        clear hl
        go_wp2_with (go_at_call 76; refine (fields_d b _).mono ?_; rintro e w2 ⟨rfl, hE2⟩)
        refine ⟨s5, s6, s9, s10, _, _, g5, g6, rfl, hE.trans hE2, fun h => H0_.out h, fun h => H1_.out h, fun _ => rfl, fun _ => rfl, fun h => (H4_.out h).imp_right fun q => ⟨q.1, Nat.lt_of_lt_of_le q.2.1 (Below.size hE2.1), there_ext q.2.2 q.2.1 hE2.1⟩, fun h => (H5_.out h).imp_right fun q => ⟨q.1, Nat.lt_of_lt_of_le q.2.1 (Below.size hE2.1), there_ext q.2.2 q.2.1 hE2.1⟩, fun h h' => H45_.out h h', fun h => keyR_ext (H6_.out h) hE2.1, fun h => keyR_ext (H7_.out h) hE2.1, fun h => E6_.out h, fun h => E7_.out h⟩
      case s4 =>
        rintro m ac wr ⟨s5, s6, s9, s10, s11, s12, g5, g6, rfl, hE, h0, h1, h2, h3, h4, h5, h45, h6, h7, e6, e7⟩ hl he
        clear he
        have H0_ := Lib.hid h0
        clear h0
        have H1_ := Lib.hid h1
        clear h1
        have H2_ := Lib.hid h2
        clear h2
        have H3_ := Lib.hid h3
        clear h3
        have H4_ := Lib.hid h4
        clear h4
        have H5_ := Lib.hid h5
        clear h5
        have H45_ := Lib.hid h45
        clear h45
        have H6_ := Lib.hid h6
        clear h6
        have H7_ := Lib.hid h7
        clear h7
        have E6_ := Lib.hid e6
        clear e6
        have E7_ := Lib.hid e7
        clear e7
        have HL_ := Lib.hid hl
        clear hl
        go_wp2_with fail
        refine ⟨_, s6, s9, s10, s11, s12, wr.heap.size, g6, rfl, hE.allocs _, fun h => H0_.out h, fun h => H1_.out h, fun h => H2_.out h, fun h => H3_.out h, fun _ => ⟨rfl, hE.1.size, by simp, (Blk.new wr 101 #[.int .i64 0, .int .i64 0, .int .i64 0, .int .i64 0, .int .i64 0, .int .i64 0, .int .i64 0, .int .i64 0, .int .i64 0]).there (Nat.le_refl 9)⟩, fun h => (H5_.out h).imp_right fun q => ⟨q.1, Nat.lt_of_lt_of_le q.2.1 (Below.size ((Ext.refl wr).allocs (.cells #[.int .i64 0, .int .i64 0, .int .i64 0, .int .i64 0, .int .i64 0, .int .i64 0, .int .i64 0, .int .i64 0, .int .i64 0] 101))), there_ext q.2.2 q.2.1 ((Ext.refl wr).allocs (.cells #[.int .i64 0, .int .i64 0, .int .i64 0, .int .i64 0, .int .i64 0, .int .i64 0, .int .i64 0, .int .i64 0, .int .i64 0] 101))⟩, fun _ h' => Nat.ne_of_gt (H5_.out h').2.2.1, fun h => absurd (E6_.out h).1 (by rw [HL_.out]; simp), fun h => keyR_ext (H7_.out h) ((Ext.refl wr).allocs (.cells #[.int .i64 0, .int .i64 0, .int .i64 0, .int .i64 0, .int .i64 0, .int .i64 0, .int .i64 0, .int .i64 0, .int .i64 0] 101)), fun h => ⟨rfl, (E6_.out h).2⟩, fun h => E7_.out h⟩
      case s5 =>
        rintro m ac wr ⟨s5, s6, s9, s10, s11, s12, g5, g6, rfl, hE, h0, h1, h2, h3, h4, h5, h45, h6, h7, e6, e7⟩ hl he
        clear he
        have H0_ := Lib.hid h0
        clear h0
        have H1_ := Lib.hid h1
        clear h1
        have H2_ := Lib.hid h2
        clear h2
        have H3_ := Lib.hid h3
        clear h3
        have H4_ := Lib.hid h4
        clear h4
        have H5_ := Lib.hid h5
        clear h5
        have H45_ := Lib.hid h45
        clear h45
        have H6_ := Lib.hid h6
        clear h6
        have H7_ := Lib.hid h7
        clear h7
        have E6_ := Lib.hid e6
        clear e6
        have E7_ := Lib.hid e7
        clear e7
        have HL_ := Lib.hid hl
        clear hl
        go_wp2_with fail
        refine ⟨s5, _, s9, s10, s11, s12, g5, wr.heap.size, rfl, hE.allocs _, fun h => H0_.out h, fun h => H1_.out h, fun h => H2_.out h, fun h => H3_.out h, fun h => (H4_.out h).imp_right fun q => ⟨q.1, Nat.lt_of_lt_of_le q.2.1 (Below.size ((Ext.refl wr).allocs (.cells #[.int .i64 0, .int .i64 0, .int .i64 0, .int .i64 0, .int .i64 0, .int .i64 0, .int .i64 0, .int .i64 0, .int .i64 0] 101))), there_ext q.2.2 q.2.1 ((Ext.refl wr).allocs (.cells #[.int .i64 0, .int .i64 0, .int .i64 0, .int .i64 0, .int .i64 0, .int .i64 0, .int .i64 0, .int .i64 0, .int .i64 0] 101))⟩, fun _ => ⟨rfl, hE.1.size, by simp, (Blk.new wr 101 #[.int .i64 0, .int .i64 0, .int .i64 0, .int .i64 0, .int .i64 0, .int .i64 0, .int .i64 0, .int .i64 0, .int .i64 0]).there (Nat.le_refl 9)⟩, fun h' _ => Nat.ne_of_lt (H4_.out h').2.2.1, fun h => keyR_ext (H6_.out h) ((Ext.refl wr).allocs (.cells #[.int .i64 0, .int .i64 0, .int .i64 0, .int .i64 0, .int .i64 0, .int .i64 0, .int .i64 0, .int .i64 0, .int .i64 0] 101)), fun h => absurd (E7_.out h).1 (by rw [HL_.out]; simp), fun h => ⟨(E6_.out h).1, rfl⟩, fun h => ⟨rfl, (E7_.out h).2⟩⟩
      case s6 =>
        rintro m ac wr ⟨s5, s6, s9, s10, s11, s12, g5, g6, rfl, hE, h0, h1, h2, h3, h4, h5, h45, h6, h7, e6, e7⟩ hl he
        simp [Region.binds] at he
        obtain ⟨he4, he1, _, _, _, _, he5⟩ := he
        obtain rfl := h1 he1
        obtain ⟨rfl, g51, g52, g53⟩ := h4 he4
        have q5 := h5 he5
        have hne := h45 he4 he5
        have H0_ := Lib.hid h0
        clear h0
        have H1_ := Lib.hid h1
        clear h1
        have H2_ := Lib.hid h2
        clear h2
        have H3_ := Lib.hid h3
        clear h3
        have H4_ := Lib.hid h4
        clear h4
        have H5_ := Lib.hid h5
        clear h5
        have H45_ := Lib.hid h45
        clear h45
        have H6_ := Lib.hid h6
        clear h6
        have H7_ := Lib.hid h7
        clear h7
        have E6_ := Lib.hid e6
        clear e6
        have E7_ := Lib.hid e7
        clear e7
        refine wpList_store_mid rfl 101 _ _ rfl g5 0 #[.int .i64 a.proc, .int .i64 a.index, .int .i64 a.ev.inc, .int .i64 a.ev.kind, .int .i64 a.ev.frm, .int .i64 a.ev.sinc, .int .i64 a.ev.sidx, .int .i64 a.ev.ord, .int .i64 a.ev.val] rfl rfl g53 (by kernel_rfl) (by simp [Value.oneCell']) ?_
        refine ⟨_, s6, s9, _, s11, s12, g5, g6, rfl, ExtD.setCells g51 _ _ _ hE, fun h => H0_.out h, fun h => H1_.out h, fun h => H2_.out h, fun h => H3_.out h, fun _ => ⟨rfl, g51, ?_, World.there_setCells g53 _ _ _⟩, fun _ => ⟨q5.1, q5.2.1, ?_, World.there_setCells q5.2.2.2 _ _ _⟩, fun _ _ => hne, fun _ => World.rangeAt_setCells_same _ _ _ _ g53, fun h => absurd (E7_.out h).2 (by rw [hl]; simp), fun _ => ⟨he4, he5⟩, fun h => ⟨he5, rfl⟩⟩
        · rw [setCells_size]; exact g52
        · rw [setCells_size]; exact q5.2.2.1
      case s7 =>
        rintro m ac wr ⟨s5, s6, s9, s10, s11, s12, g5, g6, rfl, hE, h0, h1, h2, h3, h4, h5, h45, h6, h7, e6, e7⟩ hl he
        simp [Region.binds] at he
        obtain ⟨he5, he3, he6, _, _, _, _, he4, _, _⟩ := he
        obtain rfl := h3 he3
        obtain ⟨rfl, g61, g62, g63⟩ := h5 he5
        have q4 := h4 he4
        have q6 := h6 he6
        have hne := h45 he4 he5
        have H0_ := Lib.hid h0
        clear h0
        have H1_ := Lib.hid h1
        clear h1
        have H2_ := Lib.hid h2
        clear h2
        have H3_ := Lib.hid h3
        clear h3
        have H4_ := Lib.hid h4
        clear h4
        have H5_ := Lib.hid h5
        clear h5
        have H45_ := Lib.hid h45
        clear h45
        have H6_ := Lib.hid h6
        clear h6
        have H7_ := Lib.hid h7
        clear h7
        have E6_ := Lib.hid e6
        clear e6
        have E7_ := Lib.hid e7
        clear e7
        refine wpList_store_mid rfl 101 _ _ rfl g6 0 #[.int .i64 b.proc, .int .i64 b.index, .int .i64 b.ev.inc, .int .i64 b.ev.kind, .int .i64 b.ev.frm, .int .i64 b.ev.sinc, .int .i64 b.ev.sidx, .int .i64 b.ev.ord, .int .i64 b.ev.val] rfl rfl g63 (by kernel_rfl) (by simp [Value.oneCell']) ?_
        refine ⟨s5, _, s9, s10, s11, _, g5, g6, rfl, ExtD.setCells g61 _ _ _ hE, fun h => H0_.out h, fun h => H1_.out h, fun h => H2_.out h, fun h => H3_.out h, fun _ => ⟨q4.1, q4.2.1, ?_, World.there_setCells q4.2.2.2 _ _ _⟩, fun _ => ⟨rfl, g61, ?_, World.there_setCells g63 _ _ _⟩, fun _ _ => hne, fun _ => World.rangeAt_setCells_apart q6 _ _ _ (.inl hne), fun _ => World.rangeAt_setCells_same _ _ _ _ g63, fun _ => ⟨he4, he5⟩, fun _ => ⟨he5, he6⟩⟩
        · rw [setCells_size]; exact q4.2.2.1
        · rw [setCells_size]; exact g62
  case rest =>
    obtain ⟨g5, g6, rfl, rfl, hB5, hB6, hX⟩ := hcut
    clear hBa hBb hXX
    go_wp2_with fail
    go_loopg [13] 9 (fun g i wr => CmpRelRD w g5 g6 a b g i wr)
    case atStart => exact ⟨0, Nat.zero_le _, rfl, rfl, hB5, hB6, hX, rfl⟩
    case round =>
      clear hB5 hB6 hX
      obtain ⟨j, hj, rfl, rfl, hB5, hB6, hX, hEq⟩ := hrel
      have HQ := Lib.hid hEq
      clear hEq
      by_cases hlt : j < 9
      · have c5 := keysR_at hB5 hlt
        have c6 := keysR_at hB6 hlt
        have HS := Lib.hid (cmp_step a b j hlt)
        generalize a.keys[j]'hlt = x at *
        generalize b.keys[j]'hlt = y at *
        have hji : (j : Int) < 9 := by omega
        have hj0 : (0 : Int) ≤ (j : Int) := by omega
        go_wp2_with fail
        go_quiet ((go_at_call 77; exact Calls.quiet_of_same ((cmpInt_any x y _).mono fun _ _ h => ⟨h.1, h.2.symm⟩)))
        by_cases h0 : cmpI x y = 0
        · have h0' : (cmpI x y != 0) = false := by simp [h0]
          have H0 := Lib.hid h0
          clear h0
          generalize cmpI x y = z at *
          go_wp2_with fail
          go_roundg (9 - (j + 1))
          case measure => omega
          case rel => exact ⟨j + 1, by omega, by go_num, rfl, hB5, hB6, hX.drewN _, by rw [HQ.out, HS.out, if_pos H0.out]⟩
        · have h0' : (cmpI x y != 0) = true := by simp [h0]
          have H0 := Lib.hid h0
          clear h0
          generalize cmpI x y = z at *
          go_wp2_with fail
          go_ret
          refine ⟨ret_int ?_, hX.drewN _⟩
          show z = cmpL a.keys b.keys
          rw [HQ.out, HS.out, if_neg H0.out]
      · obtain rfl : j = 9 := by omega
        go_wp2_with fail
        go_ret
        refine ⟨ret_int ?_, hX⟩
        show 0 = cmpL a.keys b.keys
        rw [HQ.out]
        rfl
end Go.Proofs.Ytfnnoncdocghjaa
namespace Go.Proofs.Ytfnnoncdocghjaa
set_option linter.unusedVariables false
set_option maxRecDepth 100000

theorem cmpI_anti (a b : Int) : cmpI b a = - cmpI a b := by unfold cmpI; split <;> split <;> (try split) <;> (try split) <;> omega
theorem cmpI_zero (a b : Int) : cmpI a b = 0 ↔ a = b := by unfold cmpI; split <;> (try split) <;> omega
theorem cmpI_neg (a b : Int) : cmpI a b < 0 ↔ a < b := by unfold cmpI; split <;> (try split) <;> omega
theorem cmpI_le (a b : Int) : cmpI a b ≤ 0 ↔ a ≤ b := by unfold cmpI; split <;> (try split) <;> omega
theorem cmpL_anti : ∀ xs ys : List Int, cmpL ys xs = - cmpL xs ys
  | [], [] => rfl
  | [], _ :: _ => rfl
  | _ :: _, [] => rfl
  | x :: xs, y :: ys => by
    rw [cmpL, cmpL, cmpI_anti x y, cmpL_anti xs ys]
    by_cases h : cmpI x y = 0
    · rw [if_pos h, if_pos (by omega)]
    · rw [if_neg h, if_neg (by omega)]
theorem cmpL_zero : ∀ xs ys : List Int, xs.length = ys.length → (cmpL xs ys = 0 ↔ xs = ys)
  | [], [], _ => by simp [cmpL]
  | x :: xs, y :: ys, h => by
    rw [cmpL]
    have ih := cmpL_zero xs ys (by simpa using h)
    by_cases h0 : cmpI x y = 0
    · rw [if_pos h0, ih]
      rw [cmpI_zero] at h0
      simp [h0]
    · rw [if_neg h0]
      constructor
      · intro h; exact absurd h h0
      · intro h
        injection h with h _
        exact absurd ((cmpI_zero x y).2 h) h0
theorem cmpL_trans : ∀ xs ys zs : List Int, xs.length = ys.length → ys.length = zs.length → cmpL xs ys ≤ 0 → cmpL ys zs ≤ 0 → cmpL xs zs ≤ 0
  | [], _, _, _, _, _, _ => by simp [cmpL]
  | x :: xs, y :: ys, z :: zs, h1, h2, h3, h4 => by
    rw [cmpL] at h3 h4 ⊢
    have ih := cmpL_trans xs ys zs (by simpa using h1) (by simpa using h2)
    by_cases a : cmpI x y = 0
    · have ea := (cmpI_zero x y).1 a
      subst ea
      rw [if_pos a] at h3
      by_cases b : cmpI x z = 0
      · rw [if_pos b] at h4 ⊢; exact ih h3 h4
      · rw [if_neg b] at h4 ⊢; exact h4
    · rw [if_neg a] at h3
      have a' : x < y := by rw [← cmpI_neg]; omega
      by_cases b : cmpI y z = 0
      · have eb := (cmpI_zero y z).1 b
        subst eb
        rw [if_neg a]; exact h3
      · rw [if_neg b] at h4
        have b' : y < z := by rw [← cmpI_neg]; omega
        have c : cmpI x z < 0 := by rw [cmpI_neg]; omega
        rw [if_neg (by omega)]; omega
theorem Dt.keys_inj (a b : Dt) : a.keys = b.keys ↔ a = b := by
  obtain ⟨a0, a1, a2, a3, a4, a5, a6, a7, a8⟩ := a
  obtain ⟨b0, b1, b2, b3, b4, b5, b6, b7, b8⟩ := b
  simp only [Dt.keys, List.cons.injEq, Dt.mk.injEq, Ev.mk.injEq, and_true]
  constructor
  · rintro ⟨h1, h2, h3, h4, h5, h6, h7, h8, h9⟩; exact ⟨h1, h2, h4, h3, h5, h6, h7, h8, h9⟩
  · rintro ⟨h1, h2, h4, h3, h5, h6, h7, h8, h9⟩; exact ⟨h1, h2, h3, h4, h5, h6, h7, h8, h9⟩
theorem cmpD_bd (a b : Dt) : -1 ≤ cmpD a b ∧ cmpD a b ≤ 1 := cmpL_bd _ _
theorem cmpD_anti (a b : Dt) : cmpD b a = - cmpD a b := cmpL_anti _ _
theorem cmpD_zero (a b : Dt) : cmpD a b = 0 ↔ a = b := (cmpL_zero a.keys b.keys (by simp [Dt.keys])).trans (Dt.keys_inj a b)
theorem cmpD_trans (a b c : Dt) (h1 : cmpD a b ≤ 0) (h2 : cmpD b c ≤ 0) : cmpD a c ≤ 0 := cmpL_trans a.keys b.keys c.keys (by simp [Dt.keys]) (by simp [Dt.keys]) h1 h2
theorem cmpD_same (a b : Dt) : (cmpD a b == 0) = a.same b := by
  rw [Bool.eq_iff_iff, Dt.same_iff, ← cmpD_zero]; simp
end Go.Proofs.Ytfnnoncdocghjaa
namespace Go.Proofs.Ytfnnoncdocghjaa
set_option linter.unusedVariables false
set_option maxRecDepth 100000

theorem cmpD_lt_trans {a b c : Dt} (h1 : cmpD a b < 0) (h2 : cmpD b c < 0) : cmpD a c < 0 := by
  have h := cmpD_trans a b c (by omega) (by omega)
  by_cases e : cmpD a c = 0
  · have e' := (cmpD_zero a c).1 e
    subst e'
    have := cmpD_anti a b
    omega
  · omega
theorem cmpD_le_lt {a b c : Dt} (h1 : cmpD a b ≤ 0) (h2 : cmpD b c < 0) : cmpD a c < 0 := by
  by_cases e : cmpD a b = 0
  · rw [(cmpD_zero a b).1 e]; exact h2
  · exact cmpD_lt_trans (by omega) h2
abbrev AscD (l : List Dt) : Prop := l.Pairwise (fun a b => cmpD a b < 0)
/-- an ascending list is known by its elements -/
theorem asc_unique : ∀ l m : List Dt, AscD l → AscD m → (∀ d, d ∈ l ↔ d ∈ m) → l = m
  | [], [], _, _, _ => rfl
  | [], y :: m, _, _, h => by have := (h y).2 (by simp); simp at this
  | x :: l, [], _, _, h => by have := (h x).1 (by simp); simp at this
  | x :: l, y :: m, hl, hm, h => by
    rw [AscD, List.pairwise_cons] at hl hm
    have hxy : x = y := by
      have h1 := (h x).1 (by simp)
      have h2 := (h y).2 (by simp)
      rcases List.mem_cons.1 h1 with e | h1
      · exact e
      · rcases List.mem_cons.1 h2 with e | h2
        · exact e.symm
        · have a := hm.1 x h1
          have b := hl.1 y h2
          have := cmpD_anti x y
          omega
    subst hxy
    congr 1
    refine asc_unique l m hl.2 hm.2 fun d => ?_
    constructor
    · intro hd
      rcases List.mem_cons.1 ((h d).1 (List.mem_cons_of_mem _ hd)) with e | e
      · subst e
        have := hl.1 d hd
        have := cmpD_anti d d
        omega
      · exact e
    · intro hd
      rcases List.mem_cons.1 ((h d).2 (List.mem_cons_of_mem _ hd)) with e | e
      · subst e
        have := hm.1 d hd
        have := cmpD_anti d d
        omega
      · exact e
/-- equal neighbours become one -/
def cpt : List Dt → List Dt
  | [] => []
  | [x] => [x]
  | x :: y :: l => if x.same y then cpt (y :: l) else x :: cpt (y :: l)
theorem cpt_head (x : Dt) : ∀ l : List Dt, ∃ m, cpt (x :: l) = x :: m
  | [] => ⟨[], rfl⟩
  | y :: l => by
    rw [cpt]
    split
    · rename_i h
      have e := (Dt.same_iff x y).1 h
      subst e
      exact cpt_head x l
    · exact ⟨_, rfl⟩
theorem mem_cpt (d : Dt) : ∀ l : List Dt, d ∈ cpt l ↔ d ∈ l
  | [] => Iff.rfl
  | [x] => Iff.rfl
  | x :: y :: l => by
    have ih := mem_cpt d (y :: l)
    rw [cpt]
    split
    · rename_i h
      have e := (Dt.same_iff x y).1 h
      subst e
      rw [ih]; simp
    · rw [List.mem_cons, ih, List.mem_cons (a := d) (b := x)]
theorem cpt_asc : ∀ l : List Dt, l.Pairwise (fun a b => cmpD a b ≤ 0) → AscD (cpt l)
  | [], _ => List.Pairwise.nil
  | [x], _ => by simp [AscD, cpt]
  | x :: y :: l, h => by
    rw [List.pairwise_cons] at h
    have ih := cpt_asc (y :: l) h.2
    rw [cpt]
    split
    · exact ih
    · rename_i hn
      rw [AscD, List.pairwise_cons]
      refine ⟨fun d hd => ?_, ih⟩
      rw [mem_cpt] at hd
      have h1 := h.1 y (by simp)
      have hne : cmpD x y ≠ 0 := fun e => hn ((Dt.same_iff x y).2 ((cmpD_zero x y).1 e))
      rcases List.mem_cons.1 hd with e | hd
      · subst e; omega
      · have h2 := (List.pairwise_cons.1 h.2).1 d hd
        have h3 := h.1 d (List.mem_cons_of_mem _ hd)
        by_cases e : cmpD x d = 0
        · have e' := (cmpD_zero x d).1 e
          subst e'
          have := cmpD_anti x y
          omega
        · omega
def leD (x y : Dt) : Bool := !decide (cmpD y x < 0)
def sortD (l : List Dt) : List Dt := l.mergeSort leD
theorem sortD_mem (l : List Dt) (d : Dt) : d ∈ sortD l ↔ d ∈ l := (List.mergeSort_perm l leD).mem_iff
theorem leD_iff (a b : Dt) : leD a b = true ↔ cmpD a b ≤ 0 := by
  have := cmpD_anti a b
  unfold leD
  rw [Bool.not_eq_true', decide_eq_false_iff_not]
  omega
theorem sortD_asc (l : List Dt) : (sortD l).Pairwise (fun a b => cmpD a b ≤ 0) := by
  have h := List.pairwise_mergeSort (le := leD) (fun a b c h1 h2 => by
    rw [leD_iff] at h1 h2 ⊢
    exact cmpD_trans a b c h1 h2) (fun a b => by
    have := cmpD_anti a b
    by_cases e : cmpD a b ≤ 0
    · rw [(leD_iff a b).2 e]; rfl
    · rw [(leD_iff b a).2 (by omega)]; simp) l
  exact h.imp fun {a b} h => (leD_iff a b).1 h
theorem sortD_len (l : List Dt) : (sortD l).length = l.length := List.length_mergeSort l
/-- a stock -/
def stockV (l : List Dt) : List Dt := cpt (sortD l)
theorem stock_asc (l : List Dt) : AscD (stockV l) := cpt_asc _ (sortD_asc l)
theorem stock_mem (l : List Dt) (d : Dt) : d ∈ stockV l ↔ d ∈ l := (mem_cpt d _).trans (sortD_mem l d)
theorem stock_same {l : List Dt} (h : AscD l) : stockV l = l := asc_unique _ _ (stock_asc l) h (stock_mem l)

/-- where the reference puts it: the elements from k on are greater -/
def insK (out : List Dt) (d : Dt) : Nat → Nat
  | 0 => 0
  | k + 1 => if 0 < cmpD (out.getD k d) d then insK out d k else k + 1
def insV (out : List Dt) (d : Dt) : List Dt :=
  if 0 < insK out d out.length ∧ (out.getD (insK out d out.length - 1) d).same d = true then out else out.take (insK out d out.length) ++ d :: out.drop (insK out d out.length)
theorem insK_le (out : List Dt) (d : Dt) : ∀ k, insK out d k ≤ k
  | 0 => Nat.le_refl _
  | k + 1 => by
    rw [insK]
    have := insK_le out d k
    split <;> omega
theorem insK_gt (out : List Dt) (d : Dt) : ∀ k x, insK out d k ≤ x → x < k → 0 < cmpD (out.getD x d) d
  | 0, x, _, h => by omega
  | k + 1, x, h1, h2 => by
    rw [insK] at h1
    split at h1
    · rename_i hp
      by_cases e : x = k
      · subst e; exact hp
      · exact insK_gt out d k x h1 (by omega)
    · omega
theorem insK_at (out : List Dt) (d : Dt) : ∀ k, 0 < insK out d k → cmpD (out.getD (insK out d k - 1) d) d ≤ 0
  | 0, h => by simp [insK] at h
  | k + 1, h => by
    rw [insK] at h ⊢
    split
    · rename_i hp
      rw [if_pos hp] at h
      exact insK_at out d k h
    · rename_i hp
      rw [Nat.add_sub_cancel]; omega
theorem asc_at {l : List Dt} (h : AscD l) (d : Dt) {x y : Nat} (hxy : x < y) (hy : y < l.length) : cmpD (l.getD x d) (l.getD y d) < 0 := by
  have := List.pairwise_iff_getElem.1 h x y (by omega) hy hxy
  rw [List.getD_eq_getElem?_getD, List.getD_eq_getElem?_getD, List.getElem?_eq_getElem hy, List.getElem?_eq_getElem (show x < l.length by omega)]
  exact this
theorem mem_getD {l : List Dt} {a : Dt} (h : a ∈ l) (d : Dt) : ∃ x, x < l.length ∧ l.getD x d = a := by
  obtain ⟨x, hx, e⟩ := List.mem_iff_getElem.1 h
  exact ⟨x, hx, by rw [List.getD_eq_getElem?_getD, List.getElem?_eq_getElem hx]; exact e⟩
theorem insV_mem {out : List Dt} (d e : Dt) : e ∈ insV out d ↔ e ∈ out ∨ e = d := by
  unfold insV
  split
  · rename_i h
    constructor
    · exact .inl
    · rintro (h' | rfl)
      · exact h'
      · have e' := (Dt.same_iff _ _).1 h.2
        have hk := insK_le out e out.length
        rw [List.getD_eq_getElem?_getD, List.getElem?_eq_getElem (show insK out e out.length - 1 < out.length by omega), Option.getD_some] at e'
        rw [← e']
        exact List.getElem_mem _
  · conv => rhs; rw [← List.take_append_drop (insK out d out.length) out]
    simp only [List.mem_append, List.mem_cons]
    constructor
    · rintro (h | h | h)
      · exact .inl (.inl h)
      · exact .inr h
      · exact .inl (.inr h)
    · rintro ((h | h) | h)
      · exact .inl h
      · exact .inr (.inr h)
      · exact .inr (.inl h)
theorem insV_asc {out : List Dt} (h : AscD out) (d : Dt) : AscD (insV out d) := by
  unfold insV
  split
  · exact h
  · rename_i hn
    have hk := insK_le out d out.length
    have hgt := insK_gt out d out.length
    have hat := insK_at out d out.length
    generalize insK out d out.length = k at *
    rw [AscD, List.pairwise_append, List.pairwise_cons]
    refine ⟨List.Pairwise.sublist (List.take_sublist _ _) h, ⟨fun b hb => ?_, List.Pairwise.sublist (List.drop_sublist _ _) h⟩, fun a ha b hb => ?_⟩
    · obtain ⟨x, hx, rfl⟩ := List.mem_iff_getElem.1 hb
      rw [List.getElem_drop]
      have hx' : x < out.length - k := by simpa using hx
      have := hgt (k + x) (by omega) (by omega)
      rw [List.getD_eq_getElem?_getD, List.getElem?_eq_getElem (show k + x < out.length by omega)] at this
      have ha := cmpD_anti d out[k + x]
      simp only [Option.getD_some] at this
      omega
    · have hlt : ∀ a ∈ out.take k, cmpD a d < 0 := by
        intro a ha
        obtain ⟨x, hx, rfl⟩ := List.mem_iff_getElem.1 ha
        have hx' : x < k := by simp at hx; omega
        rw [List.getElem_take]
        have hk0 := hat (by omega)
        have hkd : cmpD (out.getD (k - 1) d) d < 0 := by
          by_cases e : cmpD (out.getD (k - 1) d) d = 0
          · exfalso
            have e' := (cmpD_zero _ _).1 e
            exact hn ⟨by omega, (Dt.same_iff _ _).2 e'⟩
          · omega
        by_cases e : x = k - 1
        · subst e
          rw [List.getD_eq_getElem?_getD, List.getElem?_eq_getElem (show k - 1 < out.length by omega)] at hkd
          exact hkd
        · have := asc_at h d (show x < k - 1 by omega) (by omega)
          rw [List.getD_eq_getElem?_getD (i := x), List.getElem?_eq_getElem (show x < out.length by omega)] at this
          exact cmpD_lt_trans this hkd
      rcases List.mem_cons.1 hb with rfl | hb
      · exact hlt a ha
      · have h1 := hlt a ha
        obtain ⟨x, hx, rfl⟩ := List.mem_iff_getElem.1 hb
        have hx' : x < out.length - k := by simpa using hx
        have := hgt (k + x) (by omega) (by omega)
        rw [List.getD_eq_getElem?_getD, List.getElem?_eq_getElem (show k + x < out.length by omega)] at this
        have ha := cmpD_anti d out[k + x]
        simp only [Option.getD_some] at this
        rw [List.getElem_drop]
        exact cmpD_lt_trans h1 (by omega)
/-- the reference's merge -/
def insAll (l : List Dt) : Nat → List Dt
  | 0 => []
  | i + 1 => insV (insAll l i) (l.getD i ⟨0, 0, ⟨0, 0, 0, 0, 0, 0, 0⟩⟩)
theorem insAll_asc (l : List Dt) : ∀ i, AscD (insAll l i)
  | 0 => List.Pairwise.nil
  | i + 1 => insV_asc (insAll_asc l i) _
theorem insAll_mem (l : List Dt) (e : Dt) : ∀ i, i ≤ l.length → (e ∈ insAll l i ↔ e ∈ l.take i)
  | 0, _ => by simp [insAll]
  | i + 1, h => by
    rw [insAll, insV_mem, insAll_mem l e i (by omega), List.take_succ_eq_append_getElem (by omega), List.mem_append, List.mem_singleton, List.getD_eq_getElem?_getD, List.getElem?_eq_getElem (by omega)]
    rfl
theorem insAll_stock (l : List Dt) : insAll l l.length = stockV l := asc_unique _ _ (insAll_asc l _) (stock_asc l) fun d => by rw [insAll_mem l d _ (Nat.le_refl _), List.take_length, stock_mem]
theorem cpt_len : ∀ l : List Dt, (cpt l).length ≤ l.length
  | [] => Nat.le_refl _
  | [x] => Nat.le_refl _
  | x :: y :: l => by
    have := cpt_len (y :: l)
    rw [cpt]
    split
    · simp only [List.length_cons] at *; omega
    · simp only [List.length_cons] at *; omega
end Go.Proofs.Ytfnnoncdocghjaa
namespace Go.Proofs.Ytfnnoncdocghjaa
open Go.RowKit Go.Shelf Go.Lib Go.Sort
set_option linter.unusedVariables false
set_option maxRecDepth 100000

/-- a determinant and who holds it -/
structure Kn where
  d : Dt
  h : Int
def Kn.cells (k : Kn) : List Value := [.int .i64 k.d.proc, .int .i64 k.d.index, .int .i64 k.d.ev.kind, .int .i64 k.d.ev.inc, .int .i64 k.d.ev.frm, .int .i64 k.d.ev.sinc, .int .i64 k.d.ev.sidx, .int .i64 k.d.ev.ord, .int .i64 k.d.ev.val, .int .u32 k.h]
theorem Kn.len (k : Kn) : k.cells.length = 10 := rfl
theorem Kn.one (k : Kn) : ∀ u ∈ k.cells, u.oneCell' = true := by simp [Kn.cells, Value.oneCell']
abbrev KnSeg (w : World) (A : Option Addr) (l : List Kn) : Prop := Seg w 10 A l.length (l.flatMap Kn.cells)
theorem Kn.at_ {w : World} {A : Option Addr} {l : List Kn} (h : KnSeg w A l) {j : Nat} (hj : j < l.length) :
    ∃ b off, A = some ⟨b, off, none⟩ ∧ w.cell? ⟨b, off + j * 10, none⟩ = some (.int .i64 l[j].d.proc) ∧ w.cell? ⟨b, off + j * 10 + 1, none⟩ = some (.int .i64 l[j].d.index) ∧ w.cell? ⟨b, off + j * 10 + 2, none⟩ = some (.int .i64 l[j].d.ev.kind) ∧ w.cell? ⟨b, off + j * 10 + 3, none⟩ = some (.int .i64 l[j].d.ev.inc) ∧ w.cell? ⟨b, off + j * 10 + 4, none⟩ = some (.int .i64 l[j].d.ev.frm) ∧ w.cell? ⟨b, off + j * 10 + 5, none⟩ = some (.int .i64 l[j].d.ev.sinc) ∧ w.cell? ⟨b, off + j * 10 + 6, none⟩ = some (.int .i64 l[j].d.ev.sidx) ∧ w.cell? ⟨b, off + j * 10 + 7, none⟩ = some (.int .i64 l[j].d.ev.ord) ∧ w.cell? ⟨b, off + j * 10 + 8, none⟩ = some (.int .i64 l[j].d.ev.val) ∧ w.cell? ⟨b, off + j * 10 + 9, none⟩ = some (.int .u32 l[j].h) := by
  obtain ⟨b, off, hA, _, hc⟩ := Seg.at_ h Kn.len hj
  exact ⟨b, off, hA, hc 0 _ rfl, hc 1 _ rfl, hc 2 _ rfl, hc 3 _ rfl, hc 4 _ rfl, hc 5 _ rfl, hc 6 _ rfl, hc 7 _ rfl, hc 8 _ rfl, hc 9 _ rfl⟩

instance : Inhabited Kn := ⟨⟨⟨0, 0, ⟨0, 0, 0, 0, 0, 0, 0⟩⟩, 0⟩⟩
def cmpK (a b : Kn) : Int := cmpD a.d b.d
set_option maxHeartbeats 1600000 in
theorem compare_k (a b : Kn) (w : World) : Calls Try.prog 62 #[.agg #[.int .i64 a.d.proc, .int .i64 a.d.index, .int .i64 a.d.ev.kind, .int .i64 a.d.ev.inc, .int .i64 a.d.ev.frm, .int .i64 a.d.ev.sinc, .int .i64 a.d.ev.sidx, .int .i64 a.d.ev.ord, .int .i64 a.d.ev.val, .int .u32 a.h], .agg #[.int .i64 b.d.proc, .int .i64 b.d.index, .int .i64 b.d.ev.kind, .int .i64 b.d.ev.inc, .int .i64 b.d.ev.frm, .int .i64 b.d.ev.sinc, .int .i64 b.d.ev.sidx, .int .i64 b.d.ev.ord, .int .i64 b.d.ev.val, .int .u32 b.h]] w (fun e w' => e = .returned (.int .i64 (cmpK a b)) ∧ ExtD w w') := by
  have hXX := ((ExtD.refl w).allocs (.cells a.cells.toArray 34)).allocs (.cells b.cells.toArray 34)
  unfold cmpK
  go_enter Try.func62, Try.ntmps62
  go_wp2_with fail
  refine (compare_d a.d b.d _).mono ?_
  rintro e w1 ⟨rfl, hE⟩
  go_wp2_with fail
  go_ret
  exact ⟨rfl, ExtD.trans hXX hE⟩
theorem grown_of_extD {w w' : World} (h : ExtD w w') : ∃ q os', w' = grow (w.drewN q) os' := by
  obtain ⟨p, hp⟩ := regrown_of_below h.1
  refine ⟨w'.drawn - w.drawn, p.os, ?_⟩
  have e : w'.drawn = p.d := by rw [hp]; rfl
  have hd : redrawn w p.d = w.drewN (w'.drawn - w.drawn) := by
    have := h.2
    unfold redrawn World.drewN
    congr 1
    omega
  rw [hp]
  conv => lhs; rw [hd]
  rw [hp]
theorem ltK (x y : Kn) : ltOf cmpK x y = true ↔ cmpD x.d y.d < 0 := by
  unfold ltOf
  exact decide_eq_true_iff
theorem ltK' (x y : Kn) : ltOf cmpK x y = false ↔ ¬ cmpD x.d y.d < 0 := by
  unfold ltOf
  exact decide_eq_false_iff_not
theorem swoK : SWO (ltOf cmpK) where
  irrefl x := by
    have := cmpD_anti x.d x.d
    rw [ltK']
    omega
  trans x y z h1 h2 := by
    rw [ltK] at *
    exact cmpD_lt_trans h1 h2
  ntrans x y z h1 h2 := by
    rw [ltK'] at *
    have a1 := cmpD_anti x.d y.d
    have a2 := cmpD_anti y.d z.d
    have a3 := cmpD_anti x.d z.d
    have := cmpD_trans z.d y.d x.d (by omega) (by omega)
    omega
theorem cmpLaysK (blk off size : Nat) (w : World) : CmpLays Try.prog 62 #[] Kn.cells 10 cmpK blk off size w :=
  fun _ _ _ _ x y => (compare_k x y _).mono fun _ _ h => ⟨h.1, grown_of_extD h.2⟩
theorem isAggK (w : World) : (isAgg 34).run Try.prog w = .ok true w := by
  simp [isAgg, run_underlying, Try.underlying34]
theorem sizeK (w : World) : (Go.sizeOf 34).run Try.prog w = .ok 10 w := by
  obtain ⟨i0, hi, hz0, hz1, hz2⟩ := info_parts (show (Try.prog.info? 34).map (fun i => (i.zero, i.size, i.bytes)) = some (some (.agg #[.int .i64 0, .int .i64 0, .int .i64 0, .int .i64 0, .int .i64 0, .int .i64 0, .int .i64 0, .int .i64 0, .int .i64 0, .int .u32 0]), 10, 80) by kernel_rfl)
  simp [Go.sizeOf, typeInfo, hi, hz1]
theorem sort_known (blk cap : Nat) (l : List Kn) (w : World) (hH : HoldsK Kn.cells 10 w blk 0 l.toArray) (hblk : blk < w.heap.size) (hsz : l.length ≤ 1000) :
    Calls Try.prog 61 #[.slice (some ⟨blk, 0, none⟩) l.length cap, .func (.func 62) #[] #[]] w fun e w' => e = .returned (.tuple #[]) ∧ ∃ d' n os, PermIn 0 l.length l.toArray d' ∧ SortedIn (ltOf cmpK) 0 l.length d' ∧ w' = sortWorldK Kn.cells 10 w blk 0 n d' os := by
  have eg : ∀ args w, (callFunc 62 args).run Try.prog w = .ok (.enter 62 args) w := enters_of Try.func62 (by kernel_rfl) rfl
  exact AnyQ.slices_SortFunc Try.sortKn 10 isAggK sizeK Kn.cells Kn.len Kn.one cmpK swoK 62 #[] blk 0 cap l.toArray w eg (cmpLaysK blk 0 _ w) hH hblk (by simp; omega)
end Go.Proofs.Ytfnnoncdocghjaa
namespace Go.Proofs.Ytfnnoncdocghjaa
open Go.RowKit
set_option linter.unusedVariables false

def OwnPostK (l : List Kn) (w : World) (e : Ending) (w' : World) : Prop := ∃ v, e = .returned v ∧ w'.ownsRow w.heap.size 34 10 v l.length (l.flatMap Kn.cells) ∧ Ext w w'
def keepC (p k : Int) (d : Kn) : Bool := (d.d.proc != p) || decide (d.d.index ≤ k)
def keepD (p k : Int) (d : Kn) : Bool := (d.d.proc != p) || decide (k < d.d.index)
theorem filter_take (l : List Kn) (f : Kn → Bool) (j : Nat) (hj : j < l.length) : (l.take (j + 1)).filter f = if f l[j] then (l.take j).filter f ++ [l[j]] else (l.take j).filter f := by
  rw [List.take_succ_eq_append_getElem hj, List.filter_append]
  by_cases h : f l[j] = true
  · rw [if_pos h]; simp [h]
  · rw [if_neg h]; simp [h]
def FtRel (w : World) (l : List Kn) (f : Kn → Bool) (g : Nat) (v i : Value) (wr : World) : Prop := ∃ j : Nat, j ≤ l.length ∧ i = .int .i64 j ∧ g = l.length - j ∧ Ext w wr ∧ wr.ownsRow w.heap.size 34 10 v ((l.take j).filter f).length (((l.take j).filter f).flatMap Kn.cells)

set_option maxRecDepth 100000 in
set_option maxHeartbeats 1600000 in
theorem cut_any (A : Option Addr) (c : Nat) (l : List Kn) (p k : Int) (w : World) (hs : KnSeg w A l) (hn : l.length ≤ 1000) :
    Calls Try.prog 38 #[.slice A l.length c, .int .i64 p, .int .i64 k] w (OwnPostK (l.filter (keepC p k)) w) := by
  have hn' : (l.length : Int) ≤ 1000 := by omega
  go_enter Try.func38, Try.ntmps38
  go_wp2_with fail
  go_loopg [7, 12] l.length (fun g v i wr => FtRel w l (keepC p k) g v i wr)
  case atStart => exact ⟨0, Nat.zero_le _, rfl, rfl, Ext.refl w, own_nil _ _ _ _ _⟩
  case round =>
    obtain ⟨j, hj, rfl, rfl, hE, hown⟩ := hrel
    by_cases hlt : j < l.length
    · obtain ⟨b, off, rfl, p0, p1, p2, p3, p4, p5, p6, p7, p8, p9⟩ := Kn.at_ (hs.ext hE) hlt
      have HT := Lib.hid (filter_take l (keepC p k) j hlt)
      have HL := List.length_filter_le (keepC p k) (l.take j)
      rw [List.length_take] at HL
      obtain ⟨x, hx⟩ : ∃ x, l[j] = x := ⟨_, rfl⟩
      rw [hx] at p0 p1 p2 p3 p4 p5 p6 p7 p8 p9 HT
      clear hx
      have hz := hE.size
      obtain ⟨L, hL⟩ : ∃ L, (l.take j).filter (keepC p k) = L := ⟨_, rfl⟩
      rw [hL] at HT HL hown
      clear hL
      have HKD : Hid (keepC p k x = ((x.d.proc != p) || decide (x.d.index ≤ k))) := rfl
      by_cases hp : x.d.proc = p
      · have hp' : (x.d.proc != p) = false := by simp [hp]
        by_cases hi : x.d.index ≤ k
        · have hi' : decide (x.d.index ≤ k) = true := decide_eq_true hi
          have HK : Hid (keepC p k x = true) := by show keepC p k x = true; rw [HKD.out, hp', hi']; rfl
          clear HKD hp
          go_wp2_with (at_builtin; refine wpList_push_at Kn.cells 10 80 Kn.len Kn.one (by omega) rfl _ _ _ rfl w.heap.size 34 Try.underlying26 (by kernel_rfl) u7 L x (wr.heap.size + 1) rfl (hown.alloc _) rfl (by first | rfl | simp) (by unfold maxLen; omega) (by omega) (by simp; omega) ?_; intro v' w6 hown6 hg6)
          have hE6 : Ext w w6 := Ext.own (hE.allocs _) (hown.alloc _) (Nat.le_refl _) hg6
          go_roundg (l.length - (j + 1))
          case measure => omega
          case rel => exact ⟨j + 1, by omega, by go_num, rfl, hE6, by rw [HT.out, HK.out]; exact hown6⟩
        · have hi' : decide (x.d.index ≤ k) = false := decide_eq_false hi
          have HK : Hid (keepC p k x = false) := by show keepC p k x = false; rw [HKD.out, hp', hi']; rfl
          clear HKD hp
          go_wp2_with fail
          go_roundg (l.length - (j + 1))
          case measure => omega
          case rel => exact ⟨j + 1, by omega, by go_num, rfl, hE.allocs _, by rw [HT.out, HK.out]; exact hown.alloc _⟩
      · have hp' : (x.d.proc != p) = true := by simp [hp]
        have HK : Hid (keepC p k x = true) := by show keepC p k x = true; rw [HKD.out, hp']; rfl
        clear HKD hp
        go_wp2_with (at_builtin; refine wpList_push_at Kn.cells 10 80 Kn.len Kn.one (by omega) rfl _ _ _ rfl w.heap.size 34 Try.underlying26 (by kernel_rfl) u7 L x (wr.heap.size + 1) rfl (hown.alloc _) rfl (by first | rfl | simp) (by unfold maxLen; omega) (by omega) (by simp; omega) ?_; intro v' w6 hown6 hg6)
        have hE6 : Ext w w6 := Ext.own (hE.allocs _) (hown.alloc _) (Nat.le_refl _) hg6
        go_roundg (l.length - (j + 1))
        case measure => omega
        case rel => exact ⟨j + 1, by omega, by go_num, rfl, hE6, by rw [HT.out, HK.out]; exact hown6⟩
    · obtain rfl : j = l.length := by omega
      rw [List.take_of_length_le (Nat.le_refl _)] at hown
      go_wp2_with fail
      go_ret
      exact ⟨_, rfl, hown, hE⟩

set_option maxRecDepth 100000 in
set_option maxHeartbeats 1600000 in
theorem discard_any (A : Option Addr) (c : Nat) (l : List Kn) (p k : Int) (w : World) (hs : KnSeg w A l) (hn : l.length ≤ 1000) :
    Calls Try.prog 40 #[.slice A l.length c, .int .i64 p, .int .i64 k] w (OwnPostK (l.filter (keepD p k)) w) := by
  have hn' : (l.length : Int) ≤ 1000 := by omega
  go_enter Try.func40, Try.ntmps40
  go_wp2_with fail
  go_loopg [7, 12] l.length (fun g v i wr => FtRel w l (keepD p k) g v i wr)
  case atStart => exact ⟨0, Nat.zero_le _, rfl, rfl, Ext.refl w, own_nil _ _ _ _ _⟩
  case round =>
    obtain ⟨j, hj, rfl, rfl, hE, hown⟩ := hrel
    by_cases hlt : j < l.length
    · obtain ⟨b, off, rfl, p0, p1, p2, p3, p4, p5, p6, p7, p8, p9⟩ := Kn.at_ (hs.ext hE) hlt
      have HT := Lib.hid (filter_take l (keepD p k) j hlt)
      have HL := List.length_filter_le (keepD p k) (l.take j)
      rw [List.length_take] at HL
      obtain ⟨x, hx⟩ : ∃ x, l[j] = x := ⟨_, rfl⟩
      rw [hx] at p0 p1 p2 p3 p4 p5 p6 p7 p8 p9 HT
      clear hx
      have hz := hE.size
      obtain ⟨L, hL⟩ : ∃ L, (l.take j).filter (keepD p k) = L := ⟨_, rfl⟩
      rw [hL] at HT HL hown
      clear hL
      have HKD : Hid (keepD p k x = ((x.d.proc != p) || decide (k < x.d.index))) := rfl
      by_cases hp : x.d.proc = p
      · have hp' : (x.d.proc != p) = false := by simp [hp]
        by_cases hi : k < x.d.index
        · have hi' : decide (k < x.d.index) = true := decide_eq_true hi
          have HK : Hid (keepD p k x = true) := by show keepD p k x = true; rw [HKD.out, hp', hi']; rfl
          clear HKD hp
          go_wp2_with (at_builtin; refine wpList_push_at Kn.cells 10 80 Kn.len Kn.one (by omega) rfl _ _ _ rfl w.heap.size 34 Try.underlying26 (by kernel_rfl) u7 L x (wr.heap.size + 1) rfl (hown.alloc _) rfl (by first | rfl | simp) (by unfold maxLen; omega) (by omega) (by simp; omega) ?_; intro v' w6 hown6 hg6)
          have hE6 : Ext w w6 := Ext.own (hE.allocs _) (hown.alloc _) (Nat.le_refl _) hg6
          go_roundg (l.length - (j + 1))
          case measure => omega
          case rel => exact ⟨j + 1, by omega, by go_num, rfl, hE6, by rw [HT.out, HK.out]; exact hown6⟩
        · have hi' : decide (k < x.d.index) = false := decide_eq_false hi
          have HK : Hid (keepD p k x = false) := by show keepD p k x = false; rw [HKD.out, hp', hi']; rfl
          clear HKD hp
          go_wp2_with fail
          go_roundg (l.length - (j + 1))
          case measure => omega
          case rel => exact ⟨j + 1, by omega, by go_num, rfl, hE.allocs _, by rw [HT.out, HK.out]; exact hown.alloc _⟩
      · have hp' : (x.d.proc != p) = true := by simp [hp]
        have HK : Hid (keepD p k x = true) := by show keepD p k x = true; rw [HKD.out, hp']; rfl
        clear HKD hp
        go_wp2_with (at_builtin; refine wpList_push_at Kn.cells 10 80 Kn.len Kn.one (by omega) rfl _ _ _ rfl w.heap.size 34 Try.underlying26 (by kernel_rfl) u7 L x (wr.heap.size + 1) rfl (hown.alloc _) rfl (by first | rfl | simp) (by unfold maxLen; omega) (by omega) (by simp; omega) ?_; intro v' w6 hown6 hg6)
        have hE6 : Ext w w6 := Ext.own (hE.allocs _) (hown.alloc _) (Nat.le_refl _) hg6
        go_roundg (l.length - (j + 1))
        case measure => omega
        case rel => exact ⟨j + 1, by omega, by go_num, rfl, hE6, by rw [HT.out, HK.out]; exact hown6⟩
    · obtain rfl : j = l.length := by omega
      rw [List.take_of_length_le (Nat.le_refl _)] at hown
      go_wp2_with fail
      go_ret
      exact ⟨_, rfl, hown, hE⟩
set_option maxRecDepth 100000 in
set_option maxHeartbeats 1600000 in
theorem rcut_any (A : Option Addr) (c : Nat) (l : List Kn) (p k : Int) (w : World) (hs : KnSeg w A l) (hn : l.length ≤ 1000) :
    Calls Try.prog 39 #[.slice A l.length c, .int .i64 p, .int .i64 k] w (OwnPostK (l.filter (keepC p k)) w) := by
  have hn' : (l.length : Int) ≤ 1000 := by omega
  go_enter Try.func39, Try.ntmps39
  go_wp2_with fail
  go_loopg [7, 8] l.length (fun g v i wr => FtRel w l (keepC p k) g v i wr)
  case atStart => exact ⟨0, Nat.zero_le _, rfl, rfl, Ext.refl w, own_nil _ _ _ _ _⟩
  case round =>
    obtain ⟨j, hj, rfl, rfl, hE, hown⟩ := hrel
    by_cases hlt : j < l.length
    · obtain ⟨b, off, rfl, p0, p1, p2, p3, p4, p5, p6, p7, p8, p9⟩ := Kn.at_ (hs.ext hE) hlt
      have HT := Lib.hid (filter_take l (keepC p k) j hlt)
      have HL := List.length_filter_le (keepC p k) (l.take j)
      rw [List.length_take] at HL
      obtain ⟨x, hx⟩ : ∃ x, l[j] = x := ⟨_, rfl⟩
      rw [hx] at p0 p1 p2 p3 p4 p5 p6 p7 p8 p9 HT
      clear hx
      have hz := hE.size
      obtain ⟨L, hL⟩ : ∃ L, (l.take j).filter (keepC p k) = L := ⟨_, rfl⟩
      rw [hL] at HT HL hown
      clear hL
      have HKD : Hid (keepC p k x = ((x.d.proc != p) || decide (x.d.index ≤ k))) := rfl
      by_cases hp : x.d.proc = p
      · have hp' : (x.d.proc != p) = false := by simp [hp]
        by_cases hi : x.d.index ≤ k
        · have hi' : decide (x.d.index ≤ k) = true := decide_eq_true hi
          have HK : Hid (keepC p k x = true) := by show keepC p k x = true; rw [HKD.out, hp', hi']; rfl
          clear HKD hp
          go_wp2_with (at_builtin; refine wpList_push_at Kn.cells 10 80 Kn.len Kn.one (by omega) rfl _ _ _ rfl w.heap.size 34 Try.underlying26 (by kernel_rfl) u7 L x wr.heap.size rfl hown rfl rfl (by unfold maxLen; omega) (by omega) (by omega) ?_; intro v' w6 hown6 hg6)
          have hE6 : Ext w w6 := Ext.own hE hown (Nat.le_refl _) hg6
          go_roundg (l.length - (j + 1))
          case measure => omega
          case rel => exact ⟨j + 1, by omega, by go_num, rfl, hE6, by rw [HT.out, HK.out]; exact hown6⟩
        · have hi' : decide (x.d.index ≤ k) = false := decide_eq_false hi
          have HK : Hid (keepC p k x = false) := by show keepC p k x = false; rw [HKD.out, hp', hi']; rfl
          clear HKD hp
          go_wp2_with fail
          go_roundg (l.length - (j + 1))
          case measure => omega
          case rel => exact ⟨j + 1, by omega, by go_num, rfl, hE, by rw [HT.out, HK.out]; exact hown⟩
      · have hp' : (x.d.proc != p) = true := by simp [hp]
        have HK : Hid (keepC p k x = true) := by show keepC p k x = true; rw [HKD.out, hp']; rfl
        clear HKD hp
        go_wp2_with (at_builtin; refine wpList_push_at Kn.cells 10 80 Kn.len Kn.one (by omega) rfl _ _ _ rfl w.heap.size 34 Try.underlying26 (by kernel_rfl) u7 L x wr.heap.size rfl hown rfl rfl (by unfold maxLen; omega) (by omega) (by omega) ?_; intro v' w6 hown6 hg6)
        have hE6 : Ext w w6 := Ext.own hE hown (Nat.le_refl _) hg6
        go_roundg (l.length - (j + 1))
        case measure => omega
        case rel => exact ⟨j + 1, by omega, by go_num, rfl, hE6, by rw [HT.out, HK.out]; exact hown6⟩
    · obtain rfl : j = l.length := by omega
      rw [List.take_of_length_le (Nat.le_refl _)] at hown
      go_wp2_with fail
      go_ret
      exact ⟨_, rfl, hown, hE⟩

set_option maxRecDepth 100000 in
set_option maxHeartbeats 1600000 in
theorem rdiscard_any (A : Option Addr) (c : Nat) (l : List Kn) (p k : Int) (w : World) (hs : KnSeg w A l) (hn : l.length ≤ 1000) :
    Calls Try.prog 41 #[.slice A l.length c, .int .i64 p, .int .i64 k] w (OwnPostK (l.filter (keepD p k)) w) := by
  have hn' : (l.length : Int) ≤ 1000 := by omega
  go_enter Try.func41, Try.ntmps41
  go_wp2_with fail
  go_loopg [7, 8] l.length (fun g v i wr => FtRel w l (keepD p k) g v i wr)
  case atStart => exact ⟨0, Nat.zero_le _, rfl, rfl, Ext.refl w, own_nil _ _ _ _ _⟩
  case round =>
    obtain ⟨j, hj, rfl, rfl, hE, hown⟩ := hrel
    by_cases hlt : j < l.length
    · obtain ⟨b, off, rfl, p0, p1, p2, p3, p4, p5, p6, p7, p8, p9⟩ := Kn.at_ (hs.ext hE) hlt
      have HT := Lib.hid (filter_take l (keepD p k) j hlt)
      have HL := List.length_filter_le (keepD p k) (l.take j)
      rw [List.length_take] at HL
      obtain ⟨x, hx⟩ : ∃ x, l[j] = x := ⟨_, rfl⟩
      rw [hx] at p0 p1 p2 p3 p4 p5 p6 p7 p8 p9 HT
      clear hx
      have hz := hE.size
      obtain ⟨L, hL⟩ : ∃ L, (l.take j).filter (keepD p k) = L := ⟨_, rfl⟩
      rw [hL] at HT HL hown
      clear hL
      have HKD : Hid (keepD p k x = ((x.d.proc != p) || decide (k < x.d.index))) := rfl
      by_cases hp : x.d.proc = p
      · have hp' : (x.d.proc != p) = false := by simp [hp]
        by_cases hi : k < x.d.index
        · have hi' : decide (k < x.d.index) = true := decide_eq_true hi
          have HK : Hid (keepD p k x = true) := by show keepD p k x = true; rw [HKD.out, hp', hi']; rfl
          clear HKD hp
          go_wp2_with (at_builtin; refine wpList_push_at Kn.cells 10 80 Kn.len Kn.one (by omega) rfl _ _ _ rfl w.heap.size 34 Try.underlying26 (by kernel_rfl) u7 L x wr.heap.size rfl hown rfl rfl (by unfold maxLen; omega) (by omega) (by omega) ?_; intro v' w6 hown6 hg6)
          have hE6 : Ext w w6 := Ext.own hE hown (Nat.le_refl _) hg6
          go_roundg (l.length - (j + 1))
          case measure => omega
          case rel => exact ⟨j + 1, by omega, by go_num, rfl, hE6, by rw [HT.out, HK.out]; exact hown6⟩
        · have hi' : decide (k < x.d.index) = false := decide_eq_false hi
          have HK : Hid (keepD p k x = false) := by show keepD p k x = false; rw [HKD.out, hp', hi']; rfl
          clear HKD hp
          go_wp2_with fail
          go_roundg (l.length - (j + 1))
          case measure => omega
          case rel => exact ⟨j + 1, by omega, by go_num, rfl, hE, by rw [HT.out, HK.out]; exact hown⟩
      · have hp' : (x.d.proc != p) = true := by simp [hp]
        have HK : Hid (keepD p k x = true) := by show keepD p k x = true; rw [HKD.out, hp']; rfl
        clear HKD hp
        go_wp2_with (at_builtin; refine wpList_push_at Kn.cells 10 80 Kn.len Kn.one (by omega) rfl _ _ _ rfl w.heap.size 34 Try.underlying26 (by kernel_rfl) u7 L x wr.heap.size rfl hown rfl rfl (by unfold maxLen; omega) (by omega) (by omega) ?_; intro v' w6 hown6 hg6)
        have hE6 : Ext w w6 := Ext.own hE hown (Nat.le_refl _) hg6
        go_roundg (l.length - (j + 1))
        case measure => omega
        case rel => exact ⟨j + 1, by omega, by go_num, rfl, hE6, by rw [HT.out, HK.out]; exact hown6⟩
    · obtain rfl : j = l.length := by omega
      rw [List.take_of_length_le (Nat.le_refl _)] at hown
      go_wp2_with fail
      go_ret
      exact ⟨_, rfl, hown, hE⟩

end Go.Proofs.Ytfnnoncdocghjaa
namespace Go.Proofs.Ytfnnoncdocghjaa
open Go.RowKit
set_option linter.unusedVariables false
set_option maxRecDepth 100000

theorem Kn.ones (l : List Kn) : ∀ u ∈ l.flatMap Kn.cells, u.oneCell' = true := by
  intro u hu
  obtain ⟨c, _, hc⟩ := List.mem_flatMap.1 hu
  exact Kn.one c u hc


theorem infoKn : (Try.prog.info? 34).map (fun i => (i.zero, i.size, i.bytes)) = some (some (.agg #[.int .i64 0, .int .i64 0, .int .i64 0, .int .i64 0, .int .i64 0, .int .i64 0, .int .i64 0, .int .i64 0, .int .i64 0, .int .u32 0]), 10, 80) := by kernel_rfl
/-- append of a slice that reads as determinants -/
theorem run_cat (base : Nat) (ty : TypeId) (v : Value) (a b : List Kn) (w : World) (hown : w.ownsRow base 34 10 v a.length (a.flatMap Kn.cells)) (B : Option Addr) (c : Nat) (hb : KnSeg w B b) (hl : a.length + b.length ≤ 2000) (hbase : base ≤ w.heap.size) :
    ∃ v' w', (Builtin.append_ #[26, 26] ty #[v, .slice B b.length c]).run Try.prog w = .ok v' w' ∧ w'.ownsRow base 34 10 v' (a ++ b).length ((a ++ b).flatMap Kn.cells) ∧ w.grownBy w' v.ownBlock := by
  obtain ⟨i0, hi, hz0, hz1, hz2⟩ := info_parts infoKn
  cases B with
  | none =>
    have hl0 : b = [] := by
      cases b with
      | nil => rfl
      | cons x b =>
        obtain ⟨_, _, h, _⟩ := hb.2 (by simp)
        cases h
    subst hl0
    obtain ⟨A, cA, rfl, _, hle, _⟩ := own_slice hown
    refine ⟨_, _, run_append_nothing w _ _ ty _ i0 Try.underlying26 hi A a.length cA hle _ (Src.ofNil w Try.underlying26 c), by rw [List.append_nil]; exact hown, World.grownBy.refl w _⟩
  | some ad =>
    have hnews : ∀ k u, (b.flatMap Kn.cells)[k]? = some u → w.cell? (ad.add k) = some u := by
      intro k u hu
      have hk := (List.getElem?_eq_some_iff.1 hu).1
      rw [flat_len Kn.cells 10 Kn.len] at hk
      obtain ⟨x, off, h, _, hc⟩ := hb.2 (by omega)
      injection h with h
      subst h
      have hadd : (⟨x, off, none⟩ : Addr).add k = ⟨x, off + k, none⟩ := by unfold Addr.add; split <;> simp_all
      rw [hadd]
      exact hc k u hu
    obtain ⟨v', w', hr, h2, h3, _, _⟩ := run_append_own_at (P := Try.prog) w base _ ty _ i0 _ 10 80 Try.underlying26 hi hz0 hz1 hz2 rfl (by omega) v a.length _ hown ad b.length c (b.flatMap Kn.cells) (flat_len Kn.cells 10 Kn.len b) hnews (Kn.ones b) (by unfold maxLen; omega) (by omega) hbase
    exact ⟨v', w', hr, by rw [List.length_append, List.flatMap_append]; exact h2, h3⟩
theorem wpList_cat {ops : Array Oper} {rest : List Oper} {o : Oper} {ac : Act} {Q : Exit → Act → World → Prop} (w : World) (hgd : o.guard = none) (s x : Operand) (ho : o.op = .call { callee := .builtin .append, args := #[s, x], argTypes := #[26, 26] })
    (base : Nat) (v : Value) (a b : List Kn) (hs : ac.eval s = v) (hown : w.ownsRow base 34 10 v a.length (a.flatMap Kn.cells)) (B : Option Addr) (c : Nat) (hx : ac.eval x = .slice B b.length c) (hb : KnSeg w B b) (hl : a.length + b.length ≤ 2000) (hbase : base ≤ w.heap.size)
    (h : ∀ v' w', w'.ownsRow base 34 10 v' (a ++ b).length ((a ++ b).flatMap Kn.cells) → w.grownBy w' v.ownBlock → wpList Try.prog ops Q rest (ac.put o.dst v') w') : wpList Try.prog ops Q (o :: rest) ac w := by
  refine wpList_plain hgd fun K hK => ?_
  obtain ⟨v', w', hr, h2, h3⟩ := run_cat base o.type v a b w hown B c hb hl hbase
  unfold Oper.wp execOp
  simp only [ho, resolve, invoke, builtin, Sem.run_bind, Sem.run_pure, Result.andThen_ok, List.map_toArray, List.map_cons, List.map_nil, hs, hx, hr]
  exact hK _ _ (h v' w' h2 h3)
set_option maxRecDepth 100000 in
set_option maxHeartbeats 800000 in
theorem clone_any (A : Option Addr) (c : Nat) (l : List Kn) (w : World) (hs : KnSeg w A l) (hn : l.length ≤ 1000) :
    Calls Try.prog 55 #[.slice A l.length c] w (OwnPostK l w) := by
  cases A with
  | none =>
    have hl0 : l = [] := by
      cases l with
      | nil => rfl
      | cons x b =>
        obtain ⟨_, _, h, _⟩ := hs.2 (by simp)
        cases h
    subst hl0
    have heq := fun w => Lib.run_eql_slice_nil (P := Try.prog) w 26 34 none 0 c 0 0 Try.underlying26
    go_enter Try.func55, Try.ntmps55
    go_wp2_with fail
    go_ret
    exact ⟨.slice none 0 0, rfl, World.ownsRow_nil _ _ _ _, Ext.refl w⟩
  | some ad =>
    have hm := World.ownsRow_made (base := w.heap.size) (e := 34) (size := 10) w #[] 0 (Nat.le_refl _) (by unfold maxLen; omega) rfl
    have HM := Lib.hid hm
    clear hm
    have heq := fun w => Lib.run_eql_slice_nil (P := Try.prog) w 26 34 (some ad) l.length c 0 0 Try.underlying26
    go_enter Try.func55, Try.ntmps55
    go_wp2_with (at_builtin; refine wpList_cat _ rfl _ _ rfl w.heap.size _ [] l rfl HM.out (some ad) c rfl (hs.alloc _) (by simp; omega) (by simp) ?_; intro v' w' hown' hg')
    have hE : Ext w w' := Ext.own ((Ext.refl w).allocs _) HM.out (Nat.le_refl _) hg'
    go_ret
    exact ⟨v', rfl, hown', hE⟩


theorem zero_sizeK (n : Nat) : (Builtin.zeroCells (Value.agg #[.int .i64 0, .int .i64 0, .int .i64 0, .int .i64 0, .int .i64 0, .int .i64 0, .int .i64 0, .int .i64 0, .int .i64 0, .int .u32 0]).cells n).size = n * 10 := by
  simp [Builtin.zeroCells, Value.cells]
theorem grow_any (n : Nat) (hn : n ≤ 2000) (w : World) : Calls Try.prog 73 #[.slice none 0 0, .int .i64 n] w (OwnPostK [] w) := by
  obtain ⟨i0, hi, hz0, hz1, hz2⟩ := info_parts infoKn
  by_cases h0 : n = 0
  · subst h0
    refine Calls.mono (Any8.slices_Grow_room Try.growKn none 0 0 0 w (by omega) (by omega) (by omega) (by omega)) ?_
    rintro e w' ⟨rfl, rfl⟩
    exact ⟨_, rfl, World.ownsRow_nil _ _ _ _, Ext.refl _⟩
  · refine Calls.mono (Any8.slices_Grow_grow Try.growKn i0 _ hi hz0 (by rw [hz1]; omega) none 0 0 n [] w (by omega) (by omega) (by rw [hz2]; omega) (by omega) (by simp) (fun _ => rfl) (fun a h => by cases h)) ?_
    rintro e w' ⟨rfl, rfl⟩
    have hge := grownCap_ge w (0 + n) 0 34
    have hcm := grownCap_le_maxLen w (0 + n) 0 34 (by unfold maxLen; omega)
    refine ⟨_, rfl, ?_, Ext.allocs (Below.drew (Ext.refl w)) _⟩
    refine World.ownsRow_made (base := w.heap.size) (e := 34) (size := 10) w.drew _ _ (Nat.le_refl _) hcm ?_
    rw [Array.size_append, Array.size_append, zero_sizeK, zero_sizeK]
    simp only [List.size_toArray, List.length_nil]
    show 0 + (0 + n - 0) * 10 + (grownCap w (0 + n) 0 34 - (0 + n)) * 10 = grownCap w (0 + n) 0 34 * 10
    omega
def CcRel (w : World) (a b : List Kn) (g : Nat) (sv iv : Value) (wr : World) : Prop := ∃ k : Nat, k ≤ 2 ∧ iv = .int .i64 k ∧ g = 2 - k ∧ wr = w ∧ sv = .int .i64 ((if k = 0 then 0 else if k = 1 then a.length else a.length + b.length : Nat) : Int)
def CdRel (w : World) (gS : Nat) (cs : Array Value) (a b : List Kn) (g : Nat) (v iv : Value) (wr : World) : Prop := ∃ k : Nat, k ≤ 2 ∧ iv = .int .i64 k ∧ g = 2 - k ∧ Ext w wr ∧ wr.ownsRow w.heap.size 34 10 v (if k = 0 then [] else if k = 1 then a else a ++ b).length ((if k = 0 then [] else if k = 1 then a else a ++ b).flatMap Kn.cells)
set_option maxRecDepth 100000 in
set_option maxHeartbeats 1600000 in
theorem concat_two (gS : Nat) (A B : Option Addr) (ca cb : Nat) (a b : List Kn) (w : World) (hS : Blk w gS 26 #[.slice A a.length ca, .slice B b.length cb]) (ha : KnSeg w A a) (hb : KnSeg w B b) (hla : a.length ≤ 700) (hlb : b.length ≤ 300) :
    Calls Try.prog 60 #[.slice (some ⟨gS, 0, none⟩) 2 2] w (OwnPostK (a ++ b) w) := by
  have hla' : (a.length : Int) ≤ 700 := by omega
  have hlb' : (b.length : Int) ≤ 300 := by omega
  have s0 := hS.cell 0
  have s1 := hS.cell 1
  simp only [List.getElem?_toArray, List.getElem?_cons_zero, List.getElem?_cons_succ] at s0 s1
  go_enter Try.func60, Try.ntmps60
  go_wp2_with fail
  go_loopg [3, 11] 2 (fun g sv iv wr => CcRel w a b g sv iv wr)
  case atStart => exact ⟨0, by omega, rfl, rfl, rfl, rfl⟩
  case round =>
    obtain ⟨k, hk, rfl, rfl, rfl, rfl⟩ := hrel
    have hk3 : k = 0 ∨ k = 1 ∨ k = 2 := by omega
    rcases hk3 with rfl | rfl | rfl
    · simp only [if_true]
      go_wp2_with fail
      go_roundg (2 - (0 + 1))
      case measure => omega
      case rel => exact ⟨1, by omega, rfl, rfl, rfl, by simp⟩
    · simp only [if_true, if_neg (show ¬ (1 : Nat) = 0 by omega)]
      go_wp2_with fail
      go_roundg (2 - (1 + 1))
      case measure => omega
      case rel => exact ⟨2, by omega, rfl, rfl, rfl, by go_num⟩
    · simp only [if_neg (show ¬ (2 : Nat) = 0 by omega), if_neg (show ¬ (2 : Nat) = 1 by omega)]
      have hg := grow_any (a.length + b.length) (by omega) wr
      simp only [Int.natCast_add] at hg
      go_wp2_with fail
      refine hg.mono ?_
      rintro e w2 ⟨v, rfl, hown, hE2⟩
      have hsz := hE2.size
      have HS := Lib.hid hS
      clear hg s0 s1 hS
      obtain ⟨w0, hw0⟩ : ∃ w0, wr = w0 := ⟨_, rfl⟩
      rw [hw0] at hE2 hown hsz HS ha hb ⊢
      have HW0 := Lib.hid hw0
      clear hw0
      go_wp2_with fail
      go_loopg [6, 27] 2 (fun g v iv wr => CdRel w0 gS #[] a b g v iv wr)
      case atStart => exact ⟨0, by omega, rfl, rfl, hE2, hown⟩
      case round =>
        clear hown hE2
        obtain ⟨k, hk, rfl, rfl, hE, hown⟩ := hrel
        have hsz2 := hE.size
        have s0 := (HS.out.ext hE).cell 0
        have s1 := (HS.out.ext hE).cell 1
        simp only [List.getElem?_toArray, List.getElem?_cons_zero, List.getElem?_cons_succ] at s0 s1
        have hk3 : k = 0 ∨ k = 1 ∨ k = 2 := by omega
        rcases hk3 with rfl | rfl | rfl
        · simp only [if_true] at hown
          have HOWN := Lib.hid hown
          clear hown
          go_wp2_with (at_builtin; refine wpList_cat _ rfl _ _ rfl w0.heap.size _ [] a rfl HOWN.out A ca rfl (ha.ext hE) (by simp; omega) hsz2 ?_; intro v' w' hown' hg')
          have hE' : Ext w0 w' := Ext.own hE HOWN.out (Nat.le_refl _) hg'
          go_roundg (2 - (0 + 1))
          case measure => omega
          case rel => exact ⟨1, by omega, rfl, rfl, hE', by simpa using hown'⟩
        · simp only [if_true, if_neg (show ¬ (1 : Nat) = 0 by omega)] at hown
          have HOWN := Lib.hid hown
          clear hown
          go_wp2_with (at_builtin; refine wpList_cat _ rfl _ _ rfl w0.heap.size _ a b rfl HOWN.out B cb rfl (hb.ext hE) (by omega) hsz2 ?_; intro v' w' hown' hg')
          have hE' : Ext w0 w' := Ext.own hE HOWN.out (Nat.le_refl _) hg'
          go_roundg (2 - (1 + 1))
          case measure => omega
          case rel => exact ⟨2, by omega, rfl, rfl, hE', hown'⟩
        · simp only [if_neg (show ¬ (2 : Nat) = 0 by omega), if_neg (show ¬ (2 : Nat) = 1 by omega)] at hown
          go_wp2_with fail
          go_ret
          exact ⟨_, rfl, by rw [HW0.out]; exact hown, by rw [HW0.out]; exact hE⟩
end Go.Proofs.Ytfnnoncdocghjaa
namespace Go.Proofs.Ytfnnoncdocghjaa
open Go.RowKit Go.Shelf Go.Lib Go.Sort
set_option linter.unusedVariables false
set_option maxRecDepth 100000

def CellRow (w : World) (g : Nat) (xs : List Value) : Prop := g < w.heap.size ∧ ∀ j u, xs[j]? = some u → w.cell? ⟨g, j, none⟩ = some u ∧ w.frozen? ⟨g, j, none⟩ = false
abbrev Row (w : World) (g : Nat) (l : List Kn) : Prop := CellRow w g (l.flatMap Kn.cells)
theorem size_setCells (g : Nat) : ∀ (vs : List Value) (o : Nat) (w : World), (w.setCells g o vs).heap.size = w.heap.size
  | [], _, _ => rfl
  | v :: r, o, w => by rw [World.setCells, size_setCells g r]; simp
theorem setAll_len : ∀ (vs : List Value) (xs : List Value) (o : Nat), (setAll xs o vs).length = xs.length
  | [], _, _ => rfl
  | v :: vs, xs, o => by rw [setAll, setAll_len vs]; simp
theorem CellRow.sets {w : World} {g : Nat} {xs : List Value} (h : CellRow w g xs) (vs : List Value) (o : Nat) (hl : o + vs.length ≤ xs.length) : CellRow (w.setCells g o vs) g (setAll xs o vs) := by
  refine ⟨by rw [size_setCells]; exact h.1, fun j u hu => ?_⟩
  have hj : j < xs.length := by
    have := (List.getElem?_eq_some_iff.1 hu).1
    rwa [setAll_len] at this
  refine ⟨?_, by rw [World.frozen?_setCells]; exact (h.2 j xs[j] (List.getElem?_eq_getElem hj)).2⟩
  rw [setAll_get] at hu
  by_cases hin : o ≤ j ∧ j < o + vs.length
  · rw [if_pos ⟨hin.1, hin.2, hj⟩] at hu
    have := World.cell?_setCells_in g vs o w (fun i hi => by rw [(h.2 (o + i) (xs[o + i]'(by omega)) (List.getElem?_eq_getElem (by omega))).1]; rfl) (j - o) (by omega)
    rw [show o + (j - o) = j by omega] at this
    rw [this, ← List.getElem?_eq_getElem]; exact hu
  · rw [if_neg (fun hh => hin ⟨hh.1, hh.2.1⟩)] at hu
    rw [World.cell?_setCells_out _ _ _ _ _ (fun _ _ => by show j < o ∨ o + vs.length ≤ j; omega)]
    exact (h.2 j u hu).1
theorem Row.put {w : World} {g : Nat} {l : List Kn} (h : Row w g l) {i : Nat} (hi : i < l.length) (d : Kn) : Row (w.setCells g (i * 10) d.cells) g (l.set i d) := by
  have := CellRow.sets h d.cells (i * 10) (by rw [flat_len Kn.cells 10 Kn.len, Kn.len]; omega)
  rwa [setAll_flat Kn.cells 10 (by omega) Kn.len l i d hi] at this
theorem CellRow.ext {w w' : World} {g : Nat} {xs : List Value} (h : CellRow w g xs) (hE : Ext w w') : CellRow w' g xs :=
  ⟨Nat.lt_of_lt_of_le h.1 hE.size, fun j u hu => ⟨(hE.cell (p := ⟨g, j, none⟩) h.1).trans (h.2 j u hu).1, (hE.frozen (p := ⟨g, j, none⟩) h.1).trans (h.2 j u hu).2⟩⟩
theorem take_flat (l : List Kn) (k : Nat) (hk : k ≤ l.length) : (l.take k).flatMap Kn.cells = (l.flatMap Kn.cells).take (k * 10) := by
  have e : l.flatMap Kn.cells = (l.take k).flatMap Kn.cells ++ (l.drop k).flatMap Kn.cells := by rw [← List.flatMap_append, List.take_append_drop]
  have hA : ((l.take k).flatMap Kn.cells).length = k * 10 := by rw [flat_len Kn.cells 10 Kn.len, List.length_take, Nat.min_eq_left hk]
  rw [e, ← hA]
  exact List.take_left.symm
theorem Row.pre {w : World} {g : Nat} {l : List Kn} (h : Row w g l) {k : Nat} (hk : k ≤ l.length) : Row w g (l.take k) :=
  ⟨h.1, fun j u hu => by
    rw [take_flat l k hk] at hu
    have hj := (List.getElem?_eq_some_iff.1 hu).1
    rw [List.getElem?_take_of_lt (by rw [List.length_take] at hj; omega)] at hu
    exact h.2 j u hu⟩
theorem Row.seg {w : World} {g : Nat} {l : List Kn} (h : Row w g l) : KnSeg w (some ⟨g, 0, none⟩) l :=
  ⟨flat_len Kn.cells 10 Kn.len l, fun _ => ⟨g, 0, rfl, h.1, fun j u hu => by rw [Nat.zero_add]; exact (h.2 j u hu).1⟩⟩
theorem Ext.grownRow {w0 w w' : World} {g : Nat} (h : Ext w0 w) (hg : w0.heap.size ≤ g) (hw : w.grownBy w' (some g)) : Ext w0 w' :=
  ⟨hw.os.trans h.os, hw.tape.trans h.tape, hw.output.trans h.output, Nat.le_trans h.size hw.size, fun k hk => (hw.block k (Nat.lt_of_lt_of_le hk h.size) (fun e => by injection e; omega)).trans (h.block k hk)⟩
theorem os_set (w : World) (a : Addr) (v : Value) : (w.setCell a v).os = w.os ∧ (w.setCell a v).tape = w.tape ∧ (w.setCell a v).output = w.output := by
  unfold World.setCell
  split <;> exact ⟨rfl, rfl, rfl⟩
theorem grownRow_sets (w : World) (g o : Nat) (vs : List Value) : w.grownBy (w.setCells g o vs) (some g) := by
  have : ∀ (vs : List Value) (o : Nat) (w : World), (w.setCells g o vs).os = w.os ∧ (w.setCells g o vs).tape = w.tape ∧ (w.setCells g o vs).output = w.output := by
    intro vs
    induction vs with
    | nil => intro o w; exact ⟨rfl, rfl, rfl⟩
    | cons v r ih =>
      intro o w
      rw [World.setCells]
      obtain ⟨a, b, c⟩ := ih (o + 1) (w.setCell ⟨g, o, none⟩ v)
      have hk := os_set w ⟨g, o, none⟩ v
      exact ⟨a.trans hk.1, b.trans hk.2.1, c.trans hk.2.2⟩
  obtain ⟨h1, h2, h3⟩ := this vs o w
  exact ⟨h1, h2, h3, by rw [size_setCells]; omega, fun k hk hne => World.heap_setCells_other w g o vs hk (fun e => hne (by rw [e]))⟩
theorem heap_sets {g : Nat} {t : TypeId} : ∀ (vs : List Value) (o : Nat) (w : World) (cs : List Value), w.heap[g]? = some (.cells cs.toArray t (0, 0)) → (w.setCells g o vs).heap[g]? = some (.cells (setAll cs o vs).toArray t (0, 0))
  | [], _, _, _, h => h
  | v :: vs, o, w, cs, h => by
    rw [World.setCells, setAll]
    refine heap_sets vs (o + 1) _ (cs.set o v) ?_
    rw [setCell_eq_setRow w g o cs.toArray t (0, 0) v h]
    have := setRow_heap w g cs.toArray (cs.toArray.setIfInBounds o v) t (0, 0) h
    simpa using this
/-- a block of the heap is a row of so many cells -/
def Shp (w : World) (g N : Nat) : Prop := ∃ cur : Array Value, w.heap[g]? = some (.cells cur 34 (0, 0)) ∧ cur.size = N
theorem Shp.ext {w w' : World} {g N : Nat} (h : Shp w g N) (hE : Ext w w') : Shp w' g N := by
  obtain ⟨cur, hh, hs⟩ := h
  exact ⟨cur, (hE.block g (Array.getElem?_eq_some_iff.1 hh).1).trans hh, hs⟩
theorem Shp.sets {w : World} {g N : Nat} (h : Shp w g N) (o : Nat) (vs : List Value) : Shp (w.setCells g o vs) g N := by
  obtain ⟨cur, hh, hs⟩ := h
  exact ⟨_, heap_sets vs o w cur.toList hh, by simp only [List.size_toArray, setAll_len, Array.length_toList]; exact hs⟩
/-- a row changed, its block did not grow -/
def GrownS (w w' : World) (g : Nat) : Prop := w.grownBy w' (some g) ∧ ∀ N, Shp w g N → Shp w' g N
theorem gs_ext {w w' : World} (h : Ext w w') (g : Nat) : GrownS w w' g := ⟨⟨h.os, h.tape, h.output, h.size, fun k hk _ => h.block k hk⟩, fun _ s => s.ext h⟩
theorem gs_trans {a b c : World} {g : Nat} (h : GrownS a b g) (k : GrownS b c g) : GrownS a c g :=
  ⟨⟨k.1.os.trans h.1.os, k.1.tape.trans h.1.tape, k.1.output.trans h.1.output, Nat.le_trans h.1.size k.1.size, fun i hi hne => (k.1.block i (Nat.lt_of_lt_of_le hi h.1.size) hne).trans (h.1.block i hi hne)⟩, fun N s => k.2 N (h.2 N s)⟩
theorem gs_sets (w : World) (g o : Nat) (vs : List Value) : GrownS w (w.setCells g o vs) g := ⟨grownRow_sets w g o vs, fun _ s => s.sets o vs⟩
/-- a row whose block is known is the call's own -/
theorem own_of_row {w : World} {g cap base : Nat} {l : List Kn} (h : Row w g l) (s : Shp w g (cap * 10)) (hl : l.length ≤ cap) (hcm : cap ≤ maxLen) (hb : base ≤ g) : w.ownsRow base 34 10 (.slice (some ⟨g, 0, none⟩) l.length cap) l.length (l.flatMap Kn.cells) := by
  obtain ⟨cur, hh, hs⟩ := s
  have hfl := flat_len Kn.cells 10 Kn.len l
  refine ⟨hfl, .inr ⟨g, cap, cur, rfl, hb, hh, hl, hcm, hs, ?_⟩⟩
  apply List.ext_getElem?
  intro j
  by_cases hj : j < l.length * 10
  · rw [List.getElem?_take_of_lt hj]
    obtain ⟨u, hu⟩ : ∃ u, (l.flatMap Kn.cells)[j]? = some u := ⟨_, List.getElem?_eq_getElem (by rw [hfl]; exact hj)⟩
    rw [hu, ← (h.2 j u hu).1]
    simp [World.cell?, hh]
  · rw [List.getElem?_eq_none (by rw [List.length_take]; omega), List.getElem?_eq_none (by omega)]
theorem flatK_list (l : List Kn) : (flatK Kn.cells 10 l.toArray).toList = l.flatMap Kn.cells := by
  apply List.ext_getElem?
  intro q
  by_cases hq : q < l.length * 10
  · have hd : q / 10 < l.length := by omega
    have hm : q % 10 < 10 := Nat.mod_lt _ (by omega)
    have e : q / 10 * 10 + q % 10 = q := by omega
    have h1 := flat_get Kn.cells 10 Kn.len l (q / 10) (q % 10) l[q / 10] (List.getElem?_eq_getElem hd) hm
    rw [e] at h1
    rw [h1]
    have hs : q < (flatK Kn.cells 10 l.toArray).size := by rw [size_flatK]; simpa using hq
    have h2 := get_flatK Kn.cells 10 l.toArray q (by simpa using hq)
    rw [getElem!_pos _ q hs] at h2
    rw [Array.getElem?_toList, Array.getElem?_eq_getElem hs, h2, getElem!_pos l.toArray (q / 10) (by simpa using hd)]
    have hc : q % 10 < (l.toArray[q / 10]'(by simpa using hd)).cells.length := by rw [Kn.len]; exact hm
    rw [getElem!_pos (l.toArray[q / 10]'(by simpa using hd)).cells (q % 10) hc, ← List.getElem?_eq_getElem]
    simp
  · rw [List.getElem?_eq_none (by rw [Array.length_toList, size_flatK]; simp; omega), List.getElem?_eq_none (by rw [flat_len Kn.cells 10 Kn.len]; omega)]
theorem Row.holds {w : World} {g : Nat} {l : List Kn} (h : Row w g l) : HoldsK Kn.cells 10 w g 0 l.toArray := fun j hj => by
  have hs := hj
  rw [size_flatK] at hj
  have e : (l.flatMap Kn.cells)[j]? = some ((flatK Kn.cells 10 l.toArray)[j]!) := by
    rw [← flatK_list, Array.getElem?_toList, Array.getElem?_eq_getElem hs, getElem!_pos _ j hs]
  rw [Nat.zero_add]
  exact h.2 j _ e
theorem Row.of_holds {w : World} {g : Nat} {l : List Kn} (hg : g < w.heap.size) (h : HoldsK Kn.cells 10 w g 0 l.toArray) : Row w g l := ⟨hg, fun j u hu => by
  have hj : j < (flatK Kn.cells 10 l.toArray).size := by
    have := (List.getElem?_eq_some_iff.1 hu).1
    rw [size_flatK]
    rw [flat_len Kn.cells 10 Kn.len] at this
    simpa using this
  have := h j hj
  rw [Nat.zero_add] at this
  rw [← flatK_list, Array.getElem?_toList, Array.getElem?_eq_getElem hj] at hu
  injection hu with hu
  rw [getElem!_pos _ j hj, hu] at this
  exact this⟩
theorem sort_rowK (g cap : Nat) (l : List Kn) (w : World) (h : Row w g l) (hsz : l.length ≤ 1000) :
    Calls Try.prog 61 #[.slice (some ⟨g, 0, none⟩) l.length cap, .func (.func 62) #[] #[]] w fun e w' => e = .returned (.tuple #[]) ∧ GrownS w w' g ∧ ∃ l' : List Kn, l'.Perm l ∧ l'.Pairwise (fun a b => cmpD a.d b.d ≤ 0) ∧ Row w' g l' := by
  refine (sort_known g cap l w h.holds h.1 hsz).mono ?_
  rintro e w' ⟨rfl, d', n, os, hp, hs, rfl⟩
  have hlen : d'.size = l.toArray.size := hp.1
  have hlen' : d'.size = l.length := by simpa using hlen
  have hperm : d'.toList.Perm l := by
    have h3 := hp.2.2
    rw [← hlen', Array.extract_size] at h3
    rw [hlen', show l.length = l.toArray.size by simp, Array.extract_size] at h3
    simpa using h3
  have hpw : d'.toList.Pairwise (fun a b => cmpD a.d b.d ≤ 0) := by
    refine List.pairwise_iff_getElem.2 fun i j hi hj hij => ?_
    have hi' : i < d'.size := by simpa using hi
    have hj' : j < d'.size := by simpa using hj
    have h4 := hs i j (Nat.zero_le _) hij (by omega)
    rw [getElem!_pos d' i hi', getElem!_pos d' j hj', ltK'] at h4
    have := cmpD_anti d'[j].d d'[i].d
    simp only [Array.getElem_toList]
    omega
  refine ⟨rfl, ?_, d'.toList, hperm, hpw, Row.of_holds (Nat.lt_of_lt_of_le h.1 (size_sortWorldK_c Kn.cells 10 w g 0 n _ os)) (by rw [Array.toArray_toList]; exact holdsK_sortWorldK_c Kn.cells 10 w g 0 l.toArray _ n os h.holds h.1 hlen)⟩
  unfold sortWorldK putRowK
  have e := putRow_eq_setCells id w g 0 (flatK Kn.cells 10 l.toArray) (flatK Kn.cells 10 d').toList n h.holds (by rw [Array.length_toList, size_flatK, size_flatK, hlen])
  rw [Array.toArray_toList] at e
  rw [e]
  have k := gs_sets (w.drewN n) g 0 ((flatK Kn.cells 10 d').toList.map id)
  have hbl : ∀ i, i < w.heap.size → (grow ((w.drewN n).setCells g 0 ((flatK Kn.cells 10 d').toList.map id)) os).heap[i]? = ((w.drewN n).setCells g 0 ((flatK Kn.cells 10 d').toList.map id)).heap[i]? := fun i hi => by
    have h2 : i < ((w.drewN n).setCells g 0 ((flatK Kn.cells 10 d').toList.map id)).heap.size := by rw [size_setCells]; exact hi
    exact Array.getElem?_append_left h2
  refine ⟨⟨k.1.os, k.1.tape, k.1.output, by rw [size_grow]; exact Nat.le_trans k.1.size (Nat.le_add_right _ _), fun i hi hne => (hbl i hi).trans (k.1.block i hi hne)⟩, fun N hN => ?_⟩
  obtain ⟨cur, hh, hs⟩ := k.2 N hN
  exact ⟨cur, (hbl g h.1).trans hh, hs⟩
theorem row_of_own {w : World} {base g n c : Nat} {xs : List Value} (h : w.ownsRow base 34 10 (.slice (some ⟨g, 0, none⟩) n c) n xs) : CellRow w g xs ∧ base ≤ g := by
  rcases h.2 with ⟨hv, _⟩ | ⟨g', cap, cur, hv, hb, hh, _, _, hs, ht⟩
  · injection hv with hv; cases hv
  · injection hv with hv _ _
    injection hv with hv
    injection hv with hv _
    subst hv
    refine ⟨⟨(Array.getElem?_eq_some_iff.1 hh).1, fun j u hu => ?_⟩, hb⟩
    have hl := (List.getElem?_eq_some_iff.1 hu).1
    rw [← ht] at hu hl
    rw [List.length_take] at hl
    rw [List.getElem?_take_of_lt (by omega)] at hu
    refine ⟨?_, ?_⟩
    · simp only [World.cell?, hh]
      simpa using hu
    · simp [World.frozen?, hh]
theorem shp_of_own {w : World} {base g n c : Nat} {xs : List Value} (h : w.ownsRow base 34 10 (.slice (some ⟨g, 0, none⟩) n c) n xs) : Shp w g (c * 10) := by
  rcases h.2 with ⟨hv, _⟩ | ⟨g', cap, cur, hv, hb, hh, _, _, hs, ht⟩
  · injection hv with hv; cases hv
  · injection hv with hv _ hc
    injection hv with hv
    injection hv with hv _
    subst hv hc
    exact ⟨cur, hh, hs⟩
end Go.Proofs.Ytfnnoncdocghjaa
namespace Go.Proofs.Ytfnnoncdocghjaa
set_option linter.unusedVariables false

def popI : Nat → Nat → Nat
  | 0, _ => 0
  | n + 1, a => a % 2 + popI n (a / 2)
theorem popI_zero : ∀ n, popI n 0 = 0
  | 0 => rfl
  | n + 1 => by rw [popI, popI_zero n]
theorem popI_last : ∀ n a, popI (n + 1) a = popI n a + a / 2 ^ n % 2
  | 0, a => by simp [popI]
  | n + 1, a => by
    rw [popI, popI_last n (a / 2), popI, Nat.div_div_eq_div_mul, show 2 * 2 ^ n = 2 ^ (n + 1) by rw [Nat.pow_succ]; omega]
    omega
theorem and_half (a b : Nat) : (a &&& b) / 2 = a / 2 &&& b / 2 := by
  apply Nat.eq_of_testBit_eq
  intro i
  simp [Nat.testBit_div_two]
theorem or_half (a b : Nat) : (a ||| b) / 2 = a / 2 ||| b / 2 := by
  apply Nat.eq_of_testBit_eq
  intro i
  simp [Nat.testBit_div_two]
theorem and_par (a b : Nat) : (a &&& b) % 2 = (a % 2) * (b % 2) := by
  have h := Nat.testBit_and a b 0
  simp only [Nat.testBit_zero] at h
  rcases Nat.mod_two_eq_zero_or_one a with h1 | h1 <;> rcases Nat.mod_two_eq_zero_or_one b with h2 | h2 <;> rcases Nat.mod_two_eq_zero_or_one (a &&& b) with h3 | h3 <;> simp_all
theorem or_par (a b : Nat) : (a ||| b) % 2 + (a % 2) * (b % 2) = a % 2 + b % 2 := by
  have h := Nat.testBit_or a b 0
  simp only [Nat.testBit_zero] at h
  rcases Nat.mod_two_eq_zero_or_one a with h1 | h1 <;> rcases Nat.mod_two_eq_zero_or_one b with h2 | h2 <;> rcases Nat.mod_two_eq_zero_or_one (a ||| b) with h3 | h3 <;> simp_all
theorem popI_add : ∀ n a b, popI n (a ||| b) + popI n (a &&& b) = popI n a + popI n b
  | 0, _, _ => rfl
  | n + 1, a, b => by
    rw [popI, popI, popI, popI, and_half, or_half, and_par]
    have h1 := popI_add n (a / 2) (b / 2)
    have h2 := or_par a b
    omega
theorem popI_drop : ∀ n a, 0 < a → a < 2 ^ n → popI n a = popI n (a &&& (a - 1)) + 1
  | 0, a, h0, h1 => by simp at h1; omega
  | n + 1, a, h0, h1 => by
    rw [popI, popI, and_half, and_par]
    rcases Nat.mod_two_eq_zero_or_one a with h2 | h2
    · have e : (a - 1) / 2 = a / 2 - 1 := by omega
      rw [e, h2, popI_drop n (a / 2) (by omega) (by rw [Nat.pow_succ] at h1; omega)]
      omega
    · have e : (a - 1) / 2 = a / 2 := by omega
      have e2 : (a - 1) % 2 = 0 := by omega
      rw [e, e2, h2, Nat.and_self]
      omega
theorem popI_le : ∀ n a, popI n a ≤ n
  | 0, _ => Nat.le_refl _
  | n + 1, a => by
    rw [popI]
    have := popI_le n (a / 2)
    omega
/-- the number of bits of a number of 32 bits -/
def cnt (z : Int) : Nat := popI 32 z.toNat
theorem cnt_zero : cnt 0 = 0 := popI_zero 32
theorem cnt_def (z : Int) : cnt z = popI 32 z.toNat := rfl
theorem cnt_le (z : Int) : cnt z ≤ 32 := popI_le 32 _
theorem wraps_u32' (n : Int) (h₀ : 0 ≤ n) (h₁ : n < 2 ^ 32) : IntKind.u32.wrap n = n := by rw [IntKind.wrap_u32]; omega
theorem bits_u32 {x y : Int} (hx : 0 ≤ x) (hx1 : x < 4294967296) (hy : 0 ≤ y) (hy1 : y < 4294967296) :
    (bits .and .u32 x y = ((x.toNat &&& y.toNat : Nat) : Int) ∧ 0 ≤ bits .and .u32 x y ∧ bits .and .u32 x y < 4294967296) ∧ (bits .or .u32 x y = ((x.toNat ||| y.toNat : Nat) : Int) ∧ 0 ≤ bits .or .u32 x y ∧ bits .or .u32 x y < 4294967296) := by
  have h := bits_nat .u32 32 (by decide) wraps_u32' x.toNat y.toNat (by omega) (by omega)
  rw [show ((x.toNat : Nat) : Int) = x by omega, show ((y.toNat : Nat) : Int) = y by omega] at h
  have h1 := Nat.and_lt_two_pow (n := 32) x.toNat (show y.toNat < 2 ^ 32 by omega)
  have h2 := Nat.or_lt_two_pow (n := 32) (show x.toNat < 2 ^ 32 by omega) (show y.toNat < 2 ^ 32 by omega)
  exact ⟨⟨h.1, by rw [h.1]; omega, by rw [h.1]; omega⟩, ⟨h.2, by rw [h.2]; omega, by rw [h.2]; omega⟩⟩
theorem cnt_drop {x : Int} (h0 : 0 < x) (h1 : x < 4294967296) : cnt x = cnt (bits .and .u32 x (x - 1)) + 1 := by
  rw [(bits_u32 (by omega) h1 (by omega) (by omega)).1.1]
  unfold cnt
  rw [Int.toNat_natCast, show (x - 1).toNat = x.toNat - 1 by omega]
  exact popI_drop 32 _ (by omega) (by omega)
theorem cnt_add {x y : Int} (hx : 0 ≤ x) (hx1 : x < 4294967296) (hy : 0 ≤ y) (hy1 : y < 4294967296) : cnt x + cnt y = cnt (bits .or .u32 x y) + cnt (bits .and .u32 x y) := by
  obtain ⟨⟨h1, _⟩, h2, _⟩ := bits_u32 hx hx1 hy hy1
  rw [h1, h2]
  unfold cnt
  rw [Int.toNat_natCast, Int.toNat_natCast]
  exact (popI_add 32 _ _).symm
end Go.Proofs.Ytfnnoncdocghjaa
namespace Go.Proofs.Ytfnnoncdocghjaa
open Go.RowKit
set_option linter.unusedVariables false

def okH (z : Int) : Prop := 0 ≤ z ∧ z < 4294967296
def bitH (k : Kn) (i : Nat) : Bool := k.h.toNat.testBit i
/-- a list is the memory of the elements of another -/
structure MemOf (l out : List Kn) : Prop where
  asc : AscD (out.map Kn.d)
  dets : ∀ d, (∃ k ∈ out, k.d = d) ↔ ∃ k ∈ l, k.d = d
  ok : ∀ k ∈ out, okH k.h
  bits : ∀ k ∈ out, ∀ i, bitH k i = true ↔ ∃ x ∈ l, x.d = k.d ∧ bitH x i = true
theorem MemOf.congr {l l' out : List Kn} (h : MemOf l out) (hl : ∀ x, x ∈ l ↔ x ∈ l') : MemOf l' out :=
  ⟨h.asc, fun d => (h.dets d).trans ⟨fun ⟨k, hk, e⟩ => ⟨k, (hl k).1 hk, e⟩, fun ⟨k, hk, e⟩ => ⟨k, (hl k).2 hk, e⟩⟩, h.ok, fun k hk i => (h.bits k hk i).trans ⟨fun ⟨x, hx, e⟩ => ⟨x, (hl x).1 hx, e⟩, fun ⟨x, hx, e⟩ => ⟨x, (hl x).2 hx, e⟩⟩⟩
theorem okH_eq {a b : Int} (ha : okH a) (hb : okH b) (h : ∀ i, a.toNat.testBit i = b.toNat.testBit i) : a = b := by
  have := Nat.eq_of_testBit_eq h
  have h1 := ha.1
  have h2 := hb.1
  omega
theorem kn_ext {a b : Kn} (h1 : a.d = b.d) (h2 : a.h = b.h) : a = b := by
  cases a; cases b; simp_all
theorem MemOf.unique {l a b : List Kn} (ha : MemOf l a) (hb : MemOf l b) : a = b := by
  have hd : a.map Kn.d = b.map Kn.d := asc_unique _ _ ha.asc hb.asc fun d => by
    simp only [List.mem_map]
    exact (ha.dets d).trans (hb.dets d).symm
  have hlen : a.length = b.length := by simpa using congrArg List.length hd
  refine List.ext_getElem hlen fun i h1 h2 => ?_
  have e : a[i].d = b[i].d := by
    have h3 : (a.map Kn.d)[i]? = (b.map Kn.d)[i]? := by rw [hd]
    rw [List.getElem?_map, List.getElem?_map, List.getElem?_eq_getElem h1, List.getElem?_eq_getElem h2] at h3
    simpa using h3
  refine kn_ext e (okH_eq (ha.ok _ (List.getElem_mem h1)) (hb.ok _ (List.getElem_mem h2)) fun j => ?_)
  have h3 := ha.bits _ (List.getElem_mem h1) j
  have h4 := hb.bits _ (List.getElem_mem h2) j
  rw [e] at h3
  exact Bool.eq_iff_iff.2 (h3.trans h4.symm)
theorem MemOf.nil : MemOf [] [] := ⟨List.Pairwise.nil, (fun d => by simp), (fun k hk => absurd hk (List.not_mem_nil)), (fun k hk => absurd hk (List.not_mem_nil))⟩
/-- one more, behind all -/
theorem MemOf.push {l o : List Kn} (h : MemOf l o) {k : Kn} (hk : okH k.h) (hlt : ∀ x ∈ o, cmpD x.d k.d < 0) : MemOf (l ++ [k]) (o ++ [k]) := by
  have hnew : ∀ x ∈ l, x.d ≠ k.d := fun x hx e => by
    obtain ⟨y, hy, ey⟩ := (h.dets x.d).2 ⟨x, hx, rfl⟩
    have h1 := hlt y hy
    rw [ey, e] at h1
    have := cmpD_anti k.d k.d
    omega
  refine ⟨?_, fun d => ?_, fun x hx => ?_, fun x hx i => ?_⟩
  · rw [List.map_append]
    refine List.pairwise_append.2 ⟨h.asc, List.pairwise_singleton _ _, fun a ha b hb => ?_⟩
    obtain ⟨x, hx, rfl⟩ := List.mem_map.1 ha
    simp only [List.map_cons, List.map_nil, List.mem_singleton] at hb
    subst hb
    exact hlt x hx
  · simp only [List.mem_append, List.mem_singleton]
    constructor
    · rintro ⟨x, hx | hx, e⟩
      · obtain ⟨y, hy, ey⟩ := (h.dets d).1 ⟨x, hx, e⟩
        exact ⟨y, .inl hy, ey⟩
      · exact ⟨x, .inr hx, e⟩
    · rintro ⟨x, hx | hx, e⟩
      · obtain ⟨y, hy, ey⟩ := (h.dets d).2 ⟨x, hx, e⟩
        exact ⟨y, .inl hy, ey⟩
      · exact ⟨x, .inr hx, e⟩
  · rcases List.mem_append.1 hx with hx | hx
    · exact h.ok x hx
    · rw [List.mem_singleton] at hx; subst hx; exact hk
  · rcases List.mem_append.1 hx with hxo | hxo
    · rw [h.bits x hxo i]
      constructor
      · rintro ⟨y, hy, e⟩; exact ⟨y, List.mem_append_left _ hy, e⟩
      · rintro ⟨y, hy, e, hb⟩
        rcases List.mem_append.1 hy with hy | hy
        · exact ⟨y, hy, e, hb⟩
        · rw [List.mem_singleton] at hy
          subst hy
          have h1 := hlt x hxo
          rw [e] at h1
          have := cmpD_anti x.d x.d
          omega
    · rw [List.mem_singleton] at hxo
      subst hxo
      constructor
      · intro hb; exact ⟨x, List.mem_append_right _ (List.mem_singleton.2 rfl), rfl, hb⟩
      · rintro ⟨y, hy, e, hb⟩
        rcases List.mem_append.1 hy with hy | hy
        · exact absurd e (hnew y hy)
        · rw [List.mem_singleton] at hy; subst hy; exact hb
def orK (x k : Kn) : Kn := ⟨x.d, bits .or .u32 x.h k.h⟩
theorem orK_bit {x k : Kn} (hx : okH x.h) (hk : okH k.h) (i : Nat) : bitH (orK x k) i = (bitH x i || bitH k i) := by
  have h := (bits_u32 hx.1 hx.2 hk.1 hk.2).2.1
  unfold bitH orK
  dsimp only
  rw [h, Int.toNat_natCast, Nat.testBit_or]
theorem orK_ok {x k : Kn} (hx : okH x.h) (hk : okH k.h) : okH (orK x k).h := (bits_u32 hx.1 hx.2 hk.1 hk.2).2.2
/-- one more, with a determinant that is there -/
theorem MemOf.join {l : List Kn} {a b : List Kn} {x : Kn} (h : MemOf l (a ++ x :: b)) {k : Kn} (hk : okH k.h) (e : x.d = k.d) : MemOf (l ++ [k]) (a ++ orK x k :: b) := by
  have hx := h.ok x (by simp)
  have hmem : ∀ y, y ∈ a ++ orK x k :: b → (y = orK x k) ∨ (y ∈ a ++ x :: b ∧ y.d ≠ x.d) := fun y hy => by
    have hasc := h.asc
    rw [List.map_append, List.map_cons] at hasc
    obtain ⟨_, h2, h3⟩ := List.pairwise_append.1 hasc
    have hself := cmpD_anti x.d x.d
    rcases List.mem_append.1 hy with hy | hy
    · refine .inr ⟨List.mem_append_left _ hy, fun e2 => ?_⟩
      have := h3 y.d (List.mem_map.2 ⟨y, hy, rfl⟩) x.d (List.mem_cons_self ..)
      rw [e2] at this
      omega
    · rcases List.mem_cons.1 hy with hy | hy
      · exact .inl hy
      · refine .inr ⟨List.mem_append_right _ (List.mem_cons_of_mem _ hy), fun e2 => ?_⟩
        have := (List.pairwise_cons.1 h2).1 y.d (List.mem_map.2 ⟨y, hy, rfl⟩)
        rw [e2] at this
        omega
  refine ⟨?_, fun d => ?_, fun y hy => ?_, fun y hy i => ?_⟩
  · have := h.asc
    rw [List.map_append, List.map_cons] at this ⊢
    exact this
  · constructor
    · rintro ⟨y, hy, ey⟩
      rcases hmem y hy with rfl | ⟨hy, _⟩
      · exact ⟨k, by simp, by rw [← ey]; exact e.symm⟩
      · obtain ⟨z, hz, ez⟩ := (h.dets d).1 ⟨y, hy, ey⟩
        exact ⟨z, List.mem_append_left _ hz, ez⟩
    · rintro ⟨z, hz, ez⟩
      have hd : ∃ z ∈ l, z.d = d := by
        rcases List.mem_append.1 hz with hz | hz
        · exact ⟨z, hz, ez⟩
        · rw [List.mem_singleton] at hz
          subst hz
          exact (h.dets d).1 ⟨x, by simp, by rw [e]; exact ez⟩
      obtain ⟨y, hy, ey⟩ := (h.dets d).2 hd
      rcases List.mem_append.1 hy with hy | hy
      · exact ⟨y, List.mem_append_left _ hy, ey⟩
      · rcases List.mem_cons.1 hy with hy | hy
        · subst hy
          exact ⟨orK y k, by simp, ey⟩
        · exact ⟨y, List.mem_append_right _ (List.mem_cons_of_mem _ hy), ey⟩
  · rcases hmem y hy with rfl | ⟨hy, _⟩
    · exact orK_ok hx hk
    · exact h.ok y hy
  · rcases hmem y hy with rfl | ⟨hy, hne⟩
    · rw [orK_bit hx hk, Bool.or_eq_true, h.bits x (by simp) i]
      show _ ↔ ∃ z ∈ l ++ [k], z.d = x.d ∧ bitH z i = true
      constructor
      · rintro (⟨z, hz, ez, hb⟩ | hb)
        · exact ⟨z, List.mem_append_left _ hz, ez, hb⟩
        · exact ⟨k, by simp, e.symm, hb⟩
      · rintro ⟨z, hz, ez, hb⟩
        rcases List.mem_append.1 hz with hz | hz
        · exact .inl ⟨z, hz, ez, hb⟩
        · rw [List.mem_singleton] at hz; subst hz; exact .inr hb
    · rw [h.bits y hy i]
      constructor
      · rintro ⟨z, hz, ez, hb⟩; exact ⟨z, List.mem_append_left _ hz, ez, hb⟩
      · rintro ⟨z, hz, ez, hb⟩
        rcases List.mem_append.1 hz with hz | hz
        · exact ⟨z, hz, ez, hb⟩
        · rw [List.mem_singleton] at hz
          subst hz
          exact absurd (ez.symm.trans e.symm) hne
end Go.Proofs.Ytfnnoncdocghjaa
namespace Go.Proofs.Ytfnnoncdocghjaa
open Go.RowKit
set_option linter.unusedVariables false

/-- one more, in the middle -/
theorem MemOf.put {l a b : List Kn} (h : MemOf l (a ++ b)) {k : Kn} (hk : okH k.h) (hlt : ∀ x ∈ a, cmpD x.d k.d < 0) (hgt : ∀ x ∈ b, cmpD k.d x.d < 0) : MemOf (l ++ [k]) (a ++ k :: b) := by
  have hnew : ∀ x ∈ l, x.d ≠ k.d := fun x hx e => by
    obtain ⟨y, hy, ey⟩ := (h.dets x.d).2 ⟨x, hx, rfl⟩
    have hs := cmpD_anti k.d k.d
    rcases List.mem_append.1 hy with hy | hy
    · have h1 := hlt y hy
      rw [ey, e] at h1
      omega
    · have h1 := hgt y hy
      rw [ey, e] at h1
      omega
  have hasc := h.asc
  rw [List.map_append] at hasc
  obtain ⟨a1, a2, a3⟩ := List.pairwise_append.1 hasc
  have hold : ∀ x, x ∈ a ++ k :: b → x = k ∨ (x ∈ a ++ b ∧ x.d ≠ k.d) := fun x hx => by
    have hs := cmpD_anti k.d k.d
    rcases List.mem_append.1 hx with hx | hx
    · refine .inr ⟨List.mem_append_left _ hx, fun e => ?_⟩
      have h1 := hlt x hx
      rw [e] at h1
      omega
    · rcases List.mem_cons.1 hx with hx | hx
      · exact .inl hx
      · refine .inr ⟨List.mem_append_right _ hx, fun e => ?_⟩
        have h1 := hgt x hx
        rw [e] at h1
        omega
  refine ⟨?_, fun d => ?_, fun x hx => ?_, fun x hx i => ?_⟩
  · rw [List.map_append, List.map_cons]
    refine List.pairwise_append.2 ⟨a1, List.pairwise_cons.2 ⟨fun y hy => ?_, a2⟩, fun x hx y hy => ?_⟩
    · obtain ⟨z, hz, rfl⟩ := List.mem_map.1 hy
      exact hgt z hz
    · obtain ⟨z, hz, rfl⟩ := List.mem_map.1 hx
      rcases List.mem_cons.1 hy with rfl | hy
      · exact hlt z hz
      · exact a3 _ hx _ hy
  · constructor
    · rintro ⟨x, hx, e⟩
      rcases hold x hx with rfl | ⟨hx, _⟩
      · exact ⟨x, by simp, e⟩
      · obtain ⟨y, hy, ey⟩ := (h.dets d).1 ⟨x, hx, e⟩
        exact ⟨y, List.mem_append_left _ hy, ey⟩
    · rintro ⟨x, hx, e⟩
      rcases List.mem_append.1 hx with hx | hx
      · obtain ⟨y, hy, ey⟩ := (h.dets d).2 ⟨x, hx, e⟩
        refine ⟨y, ?_, ey⟩
        rcases List.mem_append.1 hy with hy | hy
        · exact List.mem_append_left _ hy
        · exact List.mem_append_right _ (List.mem_cons_of_mem _ hy)
      · rw [List.mem_singleton] at hx
        subst hx
        exact ⟨x, by simp, e⟩
  · rcases hold x hx with rfl | ⟨hx, _⟩
    · exact hk
    · exact h.ok x hx
  · rcases hold x hx with rfl | ⟨hxo, hne⟩
    · constructor
      · intro hb; exact ⟨x, by simp, rfl, hb⟩
      · rintro ⟨y, hy, e, hb⟩
        rcases List.mem_append.1 hy with hy | hy
        · exact absurd e (hnew y hy)
        · rw [List.mem_singleton] at hy; subst hy; exact hb
    · rw [h.bits x hxo i]
      constructor
      · rintro ⟨y, hy, e⟩; exact ⟨y, List.mem_append_left _ hy, e⟩
      · rintro ⟨y, hy, e, hb⟩
        rcases List.mem_append.1 hy with hy | hy
        · exact ⟨y, hy, e, hb⟩
        · rw [List.mem_singleton] at hy
          subst hy
          exact absurd e.symm hne
/-- a determinant put in its place -/
def memIns : List Kn → Kn → List Kn
  | [], k => [k]
  | x :: r, k => if cmpD k.d x.d < 0 then k :: x :: r else if cmpD k.d x.d = 0 then orK x k :: r else x :: memIns r k
/-- the memory of a list -/
def memV (l : List Kn) : List Kn := l.foldl memIns []
theorem memIns_cases : ∀ (o : List Kn) (k : Kn), AscD (o.map Kn.d) →
    (∃ a b, o = a ++ b ∧ memIns o k = a ++ k :: b ∧ (∀ x ∈ a, cmpD x.d k.d < 0) ∧ ∀ x ∈ b, cmpD k.d x.d < 0) ∨
    ∃ a x b, o = a ++ x :: b ∧ memIns o k = a ++ orK x k :: b ∧ x.d = k.d
  | [], k, _ => .inl ⟨[], [], rfl, rfl, by simp, by simp⟩
  | x :: r, k, h => by
    rw [List.map_cons] at h
    obtain ⟨h1, h2⟩ := List.pairwise_cons.1 h
    unfold memIns
    by_cases hc : cmpD k.d x.d < 0
    · rw [if_pos hc]
      refine .inl ⟨[], x :: r, rfl, rfl, by simp, fun y hy => ?_⟩
      rcases List.mem_cons.1 hy with rfl | hy
      · exact hc
      · exact cmpD_lt_trans hc (h1 _ (List.mem_map.2 ⟨y, hy, rfl⟩))
    · rw [if_neg hc]
      by_cases h0 : cmpD k.d x.d = 0
      · rw [if_pos h0]
        exact .inr ⟨[], x, r, rfl, rfl, ((cmpD_zero _ _).1 h0).symm⟩
      · rw [if_neg h0]
        have hxk : cmpD x.d k.d < 0 := by have := cmpD_anti k.d x.d; omega
        rcases memIns_cases r k h2 with ⟨a, b, e1, e2, e3, e4⟩ | ⟨a, y, b, e1, e2, e3⟩
        · refine .inl ⟨x :: a, b, by rw [e1]; rfl, by rw [e2]; rfl, fun z hz => ?_, e4⟩
          rcases List.mem_cons.1 hz with rfl | hz
          · exact hxk
          · exact e3 z hz
        · exact .inr ⟨x :: a, y, b, by rw [e1]; rfl, by rw [e2]; rfl, e3⟩
theorem MemOf.ins {l o : List Kn} (h : MemOf l o) {k : Kn} (hk : okH k.h) : MemOf (l ++ [k]) (memIns o k) := by
  rcases memIns_cases o k h.asc with ⟨a, b, e1, e2, e3, e4⟩ | ⟨a, x, b, e1, e2, e3⟩
  · rw [e2]; rw [e1] at h; exact h.put hk e3 e4
  · rw [e2]; rw [e1] at h; exact h.join hk e3
theorem memV_snoc (l : List Kn) (k : Kn) : memV (l ++ [k]) = memIns (memV l) k := by
  unfold memV; rw [List.foldl_append]; rfl
theorem memV_of (l : List Kn) (hok : ∀ k ∈ l, okH k.h) : MemOf l (memV l) := by
  have key : ∀ n, n ≤ l.length → MemOf (l.take n) (memV (l.take n)) := by
    intro n
    induction n with
    | zero => intro _; exact MemOf.nil
    | succ n ih =>
      intro hn
      have hk := List.getElem_mem (l := l) (n := n) (by omega)
      rw [List.take_succ_eq_append_getElem (by omega), memV_snoc]
      exact (ih (by omega)).ins (hok _ hk)
  have := key l.length (Nat.le_refl _)
  rwa [List.take_length] at this
theorem MemOf.eqV {l o : List Kn} (h : MemOf l o) (hok : ∀ k ∈ l, okH k.h) : o = memV l := h.unique (memV_of l hok)
theorem memIns_len (k : Kn) : ∀ o : List Kn, (memIns o k).length ≤ o.length + 1
  | [] => Nat.le_refl _
  | x :: r => by
    have := memIns_len k r
    unfold memIns
    split
    · simp
    · split
      · simp
      · simp only [List.length_cons]; omega
theorem memV_len (l : List Kn) : (memV l).length ≤ l.length := by
  unfold memV
  have key : ∀ (l o : List Kn), (l.foldl memIns o).length ≤ o.length + l.length := by
    intro l
    induction l with
    | nil => intro o; exact Nat.le_refl _
    | cons x l ih =>
      intro o
      rw [List.foldl_cons, List.length_cons]
      have h1 := ih (memIns o x)
      have h2 := memIns_len x o
      omega
  have := key l []
  simpa using this
/-- more holders -/
def orB (b : Int) (k : Kn) : Kn := ⟨k.d, bits .or .u32 k.h b⟩
theorem orB_ok {b : Int} {k : Kn} (hb : okH b) (hk : okH k.h) : okH (orB b k).h := (bits_u32 hk.1 hk.2 hb.1 hb.2).2.2
theorem orB_bit {b : Int} {k : Kn} (hb : okH b) (hk : okH k.h) (i : Nat) : bitH (orB b k) i = (bitH k i || b.toNat.testBit i) := by
  have h := (bits_u32 hk.1 hk.2 hb.1 hb.2).2.1
  unfold bitH orB
  dsimp only
  rw [h, Int.toNat_natCast, Nat.testBit_or]
theorem orB_zero {k : Kn} (hk : okH k.h) : orB 0 k = k := by
  refine kn_ext rfl ?_
  show bits .or .u32 k.h 0 = k.h
  rw [(bits_u32 hk.1 hk.2 (Int.le_refl 0) (by omega)).2.1, show (0 : Int).toNat = 0 from rfl, Nat.or_zero]
  have := hk.1
  omega
end Go.Proofs.Ytfnnoncdocghjaa
namespace Go.Proofs.Ytfnnoncdocghjaa
set_option linter.unusedVariables false

section
variable {P : Program} {ops : Array Oper} {Q : Exit → Act → World → Prop} {md : Region.Mode} {S : World → Prop}

/-- whatever order is picked; S holds behind each operation ahead of number n -/
def wpAnyT (P : Program) (md : Region.Mode) (ops : Array Oper) (Q : Exit → Act → World → Prop) (n : Nat) (S : World → Prop) : Nat → Array Bool → Act → World → Prop
  | 0, listed, a, w => Region.ready md ops listed = [] ∧ Q .normal a w
  | fuel + 1, listed, a, w =>
    (Region.ready md ops listed = [] → Q .normal a w) ∧
    ∀ i ∈ Region.ready md ops listed, wpOp P ops Q i (fun a' w' => (i < n → S w') ∧ wpAnyT P md ops Q n S fuel (listed.setIfInBounds i true) a' w') a w

theorem wpAny_of_T {n : Nat} : ∀ (fuel : Nat) (listed : Array Bool) (a : Act) (w : World), wpAnyT P md ops Q n S fuel listed a w → wpAny P md ops Q fuel listed a w
  | 0, _, _, _, h => h
  | fuel + 1, _, _, _, h => ⟨h.1, fun i hi => wpOp_mono (fun a' w' h' => wpAny_of_T fuel _ a' w' h'.2) (h.2 i hi)⟩

theorem wpAnyT_first {n i : Nat} {oi : Oper} {v : Value} (hi : ops[i]? = some oi) (hsel : ∀ (j : Nat) (o : Oper) cs b, ops[j]? = some o → o.op ≠ .select cs b)
    (hQ : ∀ c a (d : Option Tmp) v w, Q (.panic c) (Act.put a d v) w → Q (.panic c) a w) (hs : Region.sinkB md ops n = true) (hc : Region.chainB md ops n = true) (hn : n < ops.size) (hin : i < n) :
    ∀ (fuel : Nat) (listed : Array Bool) (a : Act) (w : World), HeadInv md ops n listed →
      (∀ j oj, ops[j]? = some oj → j ≠ i → listed.getD j true = false → (∀ e ∈ oj.after, Region.binds md e = true → e.on ≠ i) → oi.apart ops oj = true) →
      i ∈ Region.ready md ops listed → YieldsIf P ops S oi v a → S w →
      wpAnyT P md ops Q n S fuel (listed.setIfInBounds i true) (a.put oi.dst v) w → wpAnyT P md ops Q n S (fuel + 1) listed a w := by
  intro fuel
  induction fuel with
  | zero =>
    intro listed a w inv _ hr hy hS H
    refine ⟨fun h => (by rw [h] at hr; cases hr), fun j hj => ?_⟩
    by_cases hji : j = i
    · subst hji; exact hy.wpOp hi hS ⟨fun _ => hS, H⟩
    · have := ready_mono hj hji
      rw [H.1] at this
      cases this
  | succ fuel ih =>
    intro listed a w inv hfree hr hy hS H
    refine ⟨fun h => (by rw [h] at hr; cases hr), fun j hj => ?_⟩
    by_cases hji : j = i
    · subst hji; exact hy.wpOp hi hS ⟨fun _ => hS, H⟩
    · have hjn : j < n := by
        rcases Nat.lt_or_ge j n with h | h
        · exact h
        · exact absurd hj (tail_waits hs hc hn inv (n - i) i rfl hin (mem_ready.1 hr).1 j h)
      have h1 := H.2 j (ready_mono hj hji)
      obtain ⟨hjun, oj, hoj, hall⟩ := mem_ready.1 hj
      have hnot : ∀ e ∈ oj.after, Region.binds md e = true → e.on ≠ i := fun e he hb heq => by
        have h1 := hall e he hb
        rw [heq, getD_both (mem_ready.1 hr).1] at h1
        cases h1
      have h2 := wpOp_putIf hoj (hfree j oj hoj hji hjun hnot) (fun cs b => hsel i oi cs b hi) (fun cs b => hsel j oj cs b hoj) (fun c a w h => hQ c a _ _ w h) hy h1
      have hfree' : ∀ k ok, ops[k]? = some ok → k ≠ i → (listed.setIfInBounds j true).getD k true = false →
          (∀ e ∈ ok.after, Region.binds md e = true → e.on ≠ i) → oi.apart ops ok = true := fun k ok hk hki hun hno => by
        refine hfree k ok hk hki ?_ hno
        by_cases hjk : j = k
        · subst hjk; exact hjun
        · rw [getD_set_ne true hjk] at hun; exact hun
      refine wpOp_mono (fun a' w' h3 => ⟨fun _ => h3.2.1 hjn, ih (listed.setIfInBounds j true) a' w' (inv.set hj hjn) hfree' (ready_mono hr (Ne.symm hji)) h3.1 (h3.2.1 hjn) ?_⟩) h2
      rw [Array.setIfInBounds_comm _ _ hji]
      exact h3.2.2

/-- the schedule fits: a read may come up and is apart from what may come ahead of it; all else is the only one that may come up -/
def schedOk (md : Region.Mode) (ops : Array Oper) (n : Nat) : List (Nat × Bool) → Array Bool → Bool
  | [], listed => (Region.ready md ops listed).isEmpty
  | (i, true) :: rest, listed => decide (i < n) && Region.free md ops listed i && (Region.ready md ops listed).contains i && schedOk md ops n rest (listed.setIfInBounds i true)
  | (i, false) :: rest, listed => (Region.ready md ops listed == [i]) && (decide (i < n) || rest.all (fun x => !x.2)) && schedOk md ops n rest (listed.setIfInBounds i true)

def wpSched (P : Program) (ops : Array Oper) (Q : Exit → Act → World → Prop) (n : Nat) (S : World → Prop) : List (Nat × Bool) → Act → World → Prop
  | [], a, w => Q .normal a w
  | (i, true) :: rest, a, w => S w ∧ ∃ o v, ops[i]? = some o ∧ YieldsIf P ops S o v a ∧ wpSched P ops Q n S rest (a.put o.dst v) w
  | (i, false) :: rest, a, w => wpOp P ops Q i (fun a' w' => (i < n → S w') ∧ wpSched P ops Q n S rest a' w') a w

theorem wpAnyT_of_sched {n : Nat} (hsel : Region.noSelect ops = true) (hQ : ∀ c a (d : Option Tmp) v w, Q (.panic c) (Act.put a d v) w → Q (.panic c) a w) (hs : Region.sinkB md ops n = true) (hc : Region.chainB md ops n = true) (hn : n < ops.size) :
    ∀ (order : List (Nat × Bool)) (listed : Array Bool) (a : Act) (w : World), schedOk md ops n order listed = true → (HeadInv md ops n listed ∨ order.all (fun x => !x.2) = true) →
      wpSched P ops Q n S order a w → wpAnyT P md ops Q n S order.length listed a w
  | [], listed, a, w, hk, _, h => ⟨by simpa [schedOk] using hk, h⟩
  | (i, true) :: rest, listed, a, w, hk, hinv, h => by
    simp only [schedOk, Bool.and_eq_true, decide_eq_true_eq] at hk
    obtain ⟨⟨⟨hin, hf⟩, hr⟩, hrest⟩ := hk
    obtain ⟨hS, o, v, ho, hy, hw⟩ := h
    have inv : HeadInv md ops n listed := by
      rcases hinv with h | h
      · exact h
      · simp at h
    have hr' : i ∈ Region.ready md ops listed := by simpa using hr
    exact wpAnyT_first ho (Region.noSelect_spec hsel) hQ hs hc hn hin rest.length listed a w inv (Region.free_spec ho hf) hr' hy hS
      (wpAnyT_of_sched hsel hQ hs hc hn rest _ _ _ hrest (.inl (inv.set hr' hin)) hw)
  | (i, false) :: rest, listed, a, w, hk, hinv, h => by
    simp only [schedOk, Bool.and_eq_true, beq_iff_eq] at hk
    obtain ⟨⟨hr, hd⟩, hrest⟩ := hk
    have hr' : i ∈ Region.ready md ops listed := by rw [hr]; simp
    have hnext : HeadInv md ops n (listed.setIfInBounds i true) ∨ rest.all (fun x => !x.2) = true := by
      rcases hinv with inv | h
      · rcases Nat.lt_or_ge i n with hin | hin
        · exact .inl (inv.set hr' hin)
        · right
          simp only [Bool.or_eq_true, decide_eq_true_eq] at hd
          rcases hd with hd | hd
          · omega
          · exact hd
      · right
        simpa using h
    refine ⟨fun h0 => (by rw [h0] at hr; cases hr), fun j hj => ?_⟩
    rw [hr, List.mem_singleton] at hj
    subst hj
    exact wpOp_mono (fun a' w' h' => ⟨h'.1, wpAnyT_of_sched hsel hQ hs hc hn rest _ _ _ hrest hnext h'.2⟩) h

def schedB (ops : Array Oper) (n : Nat) (order : List (Nat × Bool)) : Bool :=
  Region.noSelect ops && Region.sinkB .any ops n && Region.chainB .any ops n && decide (n < ops.size) && (order.length == ops.size) && schedOk .any ops n order (Array.replicate ops.size false)

theorem wp_region_sched {id : Nat} {a : Act} {w : World} (hm : P.follows .mixedOrders = true) (n : Nat) (order : List (Nat × Bool)) (S : World → Prop) (hB : schedB ops n order = true)
    (hQ : ∀ c a (d : Option Tmp) v w, Q (.panic c) (Act.put a d v) w → Q (.panic c) a w) (hS : S w.drew) (h : S w.drew → wpSched P ops Q n S order a w.drew) : (Code.region id ops true).wp P Q a w := by
  simp only [schedB, Bool.and_eq_true, decide_eq_true_eq, beq_iff_eq] at hB
  obtain ⟨⟨⟨⟨⟨h1, h2⟩, h3⟩, h4⟩, h5⟩, h6⟩ := hB
  refine wp_region_any hm (wpAny_of_T (n := n) (S := S) _ _ _ _ ?_)
  have key := wpAnyT_of_sched (md := .any) (S := S) h1 hQ h2 h3 h4 order (Array.replicate ops.size false) a w.drew h6 (.inl ⟨by simp, fun j oj _ hl => (by rw [getD_replicate_false] at hl; cases hl), fun t _ ht => (by simp [ht])⟩) (h hS)
  rw [h5] at key
  exact key

/-- the operation with this number, written out -/
def opAt : List Oper → Nat → Option Oper
  | [], _ => none
  | x :: _, 0 => some x
  | _ :: xs, i + 1 => opAt xs i
theorem opAt_spec : ∀ (l : List Oper) (i : Nat) (o : Oper), opAt l i = some o → l.toArray[i]? = some o
  | [], _, _, h => by cases h
  | x :: xs, 0, o, h => by simpa [opAt] using h
  | x :: xs, i + 1, o, h => by
    have := opAt_spec xs i o h
    simpa using this
variable {l : List Oper}
theorem sched_read {n i : Nat} {rest : List (Nat × Bool)} {o : Oper} {v : Value} {a : Act} {w : World} (ho : opAt l i = some o) (hy : YieldsIf P l.toArray S o v a) (hS : S w) (h : wpSched P l.toArray Q n S rest (a.put o.dst v) w) : wpSched P l.toArray Q n S ((i, true) :: rest) a w :=
  ⟨hS, o, v, opAt_spec l i o ho, hy, h⟩
theorem sched_eff {n i : Nat} {rest : List (Nat × Bool)} {o : Oper} {a : Act} {w : World} (ho : opAt l i = some o)
    (h : ∀ K' : Act → World → Prop, Shut (∀ a w, S w → (S w → wpSched P l.toArray Q n S rest a w) → K' a w) → if Region.wanted o (yielded l.toArray a.tmps) = true then Oper.wp P o a w K' Q else K' (a.put o.dst undef) w) : wpSched P l.toArray Q n S ((i, false) :: rest) a w :=
  wpOp_step (opAt_spec l i o ho) fun K' hK => h K' fun a w hS hW => hK a w ⟨fun _ => hS, hW hS⟩
theorem sched_tail {n i : Nat} {rest : List (Nat × Bool)} {o : Oper} {a : Act} {w : World} (ho : opAt l i = some o) (hn : n ≤ i)
    (h : ∀ K' : Act → World → Prop, Shut (∀ a w, wpSched P l.toArray Q n S rest a w → K' a w) → if Region.wanted o (yielded l.toArray a.tmps) = true then Oper.wp P o a w K' Q else K' (a.put o.dst undef) w) : wpSched P l.toArray Q n S ((i, false) :: rest) a w :=
  wpOp_step (opAt_spec l i o ho) fun K' hK => h K' fun a w hW => hK a w ⟨fun h => absurd h (by omega), hW⟩
theorem sched_done {n : Nat} {a : Act} {w : World} (h : Q .normal a w) : wpSched P ops Q n S [] a w := h
end
end Go.Proofs.Ytfnnoncdocghjaa
namespace Go.Proofs.Ytfnnoncdocghjaa
open Go.RowKit
set_option linter.unusedVariables false

def CnRel (ch : Nat) (w : World) (g : Nat) (hv nv : Value) (wr : World) : Prop :=
  ∃ (x : Int) (n : Nat), hv = .int .u32 x ∧ nv = .int .i64 n ∧ Hid (g = cnt x) ∧ 0 ≤ x ∧ x < 4294967296 ∧ wr = w ∧ Hid (n + cnt x = ch)
set_option maxHeartbeats 800000 in
theorem count_any (h : Int) (w : World) (h0 : 0 ≤ h) (h1 : h < 4294967296) : Calls Try.prog 13 #[.int .u32 h] w fun e w' => e = .returned (.int .i64 (cnt h)) ∧ w = w' := by
  go_enter Try.func13, Try.ntmps13
  have hch32 := cnt_le h
  obtain ⟨ch, hch⟩ : ∃ ch, cnt h = ch := ⟨_, rfl⟩
  rw [hch] at hch32 ⊢
  have hs : Hid (0 + cnt h = ch) := by show 0 + cnt h = ch; rw [hch]; exact Nat.zero_add ch
  go_wp2_with fail
  go_loopg [0, 3] ch (fun g hv nv wr => CnRel ch w g hv nv wr)
  case atStart => exact ⟨h, 0, rfl, rfl, Lib.hid hch.symm, h0, h1, rfl, hs⟩
  case round =>
    obtain ⟨x, n, rfl, rfl, HG, hx0, hx1, rfl, HN⟩ := hrel
    by_cases hz : x = 0
    · subst hz
      have hn : (n : Int) = (ch : Int) := by
        have := HN.out
        have e := cnt_zero
        rw [e] at this
        omega
      go_wp2_with fail
      go_ret
      exact ⟨ret_int hn, rfl⟩
    · have hne : (x != 0) = true := by simp [hz]
      have hw : IntKind.u32.wrap (x - 1) = x - 1 := wraps_u32' _ (by omega) (by omega)
      have hd := cnt_drop (x := x) (by omega) hx1
      have hb := (bits_u32 (x := x) (y := x - 1) hx0 hx1 (by omega) (by omega)).1.2
      have hn := HN.out
      have HD := Lib.hid hd
      have HB := Lib.hid hb
      clear hd hb hn
      obtain ⟨z, hzz⟩ : ∃ z, bits .and .u32 x (x - 1) = z := ⟨_, rfl⟩
      rw [hzz] at HD HB
      have hn32 : n ≤ 32 := by have h2 := HN.out; generalize cnt x = cx at *; omega
      go_wp2_with fail
      go_roundg (cnt z)
      case measure => have h2 := HD.out; have h3 := HG.out; generalize cnt z = cz at *; generalize cnt x = cx at *; omega
      case rel => exact ⟨z, n + 1, rfl, by go_num, Lib.hid rfl, HB.out.1, HB.out.2, rfl, Lib.hid (by have h1 := HN.out; have h2 := HD.out; generalize cnt z = cz at *; generalize cnt x = cx at *; omega)⟩
def CrRel (h : Int) (w : World) (g : Nat) (nv iv : Value) (wr : World) : Prop :=
  ∃ i n : Nat, i ≤ 32 ∧ nv = .int .i64 n ∧ iv = .int .i64 i ∧ g = 32 - i ∧ wr = w ∧ Hid (n = popI i h.toNat)
set_option maxHeartbeats 800000 in
theorem count_ref (h : Int) (w : World) (h0 : 0 ≤ h) (h1 : h < 4294967296) : Calls Try.prog 14 #[.int .u32 h] w fun e w' => e = .returned (.int .i64 (cnt h)) ∧ w = w' := by
  go_enter Try.func14, Try.ntmps14
  go_wp2_with fail
  go_loopg [3, 4] 32 (fun g nv iv wr => CrRel h w g nv iv wr)
  case atStart => exact ⟨0, 0, Nat.zero_le _, rfl, rfl, rfl, rfl, (rfl : 0 = popI 0 h.toNat)⟩
  case round =>
    obtain ⟨i, n, hi, rfl, rfl, rfl, rfl, HN⟩ := hrel
    have hn32 : n ≤ 32 := by have := popI_le i h.toNat; have := HN.out; omega
    by_cases hlt : i < 32
    · have hi0 : (0 : Int) ≤ (i : Int) := by omega
      have hi1 : (i : Int) < 32 := by omega
      have HL := Lib.hid (popI_last i h.toNat)
      obtain ⟨b, hb⟩ : ∃ b, (bits .and .u32 (h / 2 ^ i) 1 == 1) = b := ⟨_, rfl⟩
      have HB : Hid (h.toNat / 2 ^ i % 2 = if b then 1 else 0) := by
        have hle : h.toNat / 2 ^ i ≤ h.toNat := Nat.div_le_self _ _
        have e : h / 2 ^ i = ((h.toNat / 2 ^ i : Nat) : Int) := by
          rw [Int.natCast_ediv, Int.natCast_pow, show ((h.toNat : Nat) : Int) = h by omega]
          rfl
        show h.toNat / 2 ^ i % 2 = _
        obtain ⟨dq, hdq⟩ : ∃ dq, h.toNat / 2 ^ i = dq := ⟨_, rfl⟩
        rw [hdq] at e hle ⊢
        have h2 := bits_mask .u32 32 (by decide) wraps_u32' 1 (by decide) (dq : Int) (by omega) (by omega)
        rw [show ((2 : Int) ^ 1 - 1) = 1 by decide, show ((2 : Int) ^ 1) = 2 by decide] at h2
        rw [e, h2] at hb
        cases b with
        | false => rw [beq_eq_false_iff_ne] at hb; simp only [Bool.false_eq_true, if_false]; omega
        | true => rw [beq_iff_eq] at hb; simp only [if_true]; omega
      cases b with
      | false =>
        have HN' : Hid (n = popI (i + 1) h.toNat) := by show _ = _; rw [HL.out, HB.out, ← HN.out]; rfl
        go_wp2_with fail
        go_roundg (32 - (i + 1))
        case measure => omega
        case rel => exact ⟨i + 1, n, by omega, rfl, by go_num, rfl, rfl, HN'⟩
      | true =>
        have HN' : Hid (n + 1 = popI (i + 1) h.toNat) := by show _ = _; rw [HL.out, HB.out, ← HN.out]; rfl
        go_wp2_with fail
        go_roundg (32 - (i + 1))
        case measure => omega
        case rel => exact ⟨i + 1, n + 1, by omega, by go_num, by go_num, rfl, rfl, HN'⟩
    · obtain rfl : i = 32 := by omega
      go_wp2_with fail
      go_ret
      exact ⟨ret_int (by rw [HN.out, cnt_def]), rfl⟩
end Go.Proofs.Ytfnnoncdocghjaa
namespace Go.Proofs.Ytfnnoncdocghjaa
open Go.RowKit
set_option linter.unusedVariables false

theorem or_low {i : Nat} (hi : i < 32) : bits .or .u32 ((2 : Int) ^ i - 1) ((2 : Int) ^ i % 4294967296) = 2 ^ (i + 1) - 1 := by
  have h : ∀ i : Fin 32, bits .or .u32 ((2 : Int) ^ i.val - 1) ((2 : Int) ^ i.val % 4294967296) = 2 ^ (i.val + 1) - 1 := by decide
  exact h ⟨i, hi⟩
def AlRel (w : World) (m : Nat) (g : Nat) (ov iv : Value) (wr : World) : Prop :=
  ∃ i : Nat, i ≤ m ∧ ov = .int .u32 ((2 : Int) ^ i - 1) ∧ iv = .int .i64 i ∧ g = m - i ∧ wr = w
set_option maxHeartbeats 800000 in
theorem all_any (n : Int) (m : Nat) (hm : min (max n 0) 32 = (m : Int)) (w : World) : Calls Try.prog 56 #[.int .i64 n] w fun e w' => e = .returned (.int .u32 ((2 : Int) ^ m - 1)) ∧ w = w' := by
  have hm32 : m ≤ 32 := by omega
  go_enter Try.func56, Try.ntmps56
  go_wp2_with fail
  go_loopg [3, 4] m (fun g ov iv wr => AlRel w m g ov iv wr)
  case atStart => exact ⟨0, Nat.zero_le _, rfl, rfl, rfl, rfl⟩
  case round =>
    obtain ⟨i, hi, rfl, rfl, rfl, rfl⟩ := hrel
    by_cases hlt : i < m
    · have hmin : (i : Int) < min n 32 := by omega
      have HO := Lib.hid (or_low (i := i) (by omega))
      have hi0 : (0 : Int) ≤ (i : Int) := by omega
      have hi1 : (i : Int) < 32 := by omega
      have dm : decide ((i : Int) < min n 32) = true := decide_eq_true hmin
      go_wp2_with fail
      all_goals
        go_roundg (m - (i + 1))
        case measure => omega
        case rel => exact ⟨i + 1, by omega, by rw [HO.out], by go_num, rfl, rfl⟩
    · obtain rfl : i = m := by omega
      have hmin : ¬ (i : Int) < min n 32 := by omega
      have dm : decide ((i : Int) < min n 32) = false := decide_eq_false hmin
      go_wp2_with fail
      all_goals
        go_ret
        exact ⟨rfl, rfl⟩
/-- the bit of a process -/
def bitV (p : Int) : Int := if p < 0 ∨ 31 < p then 0 else 2 ^ p.toNat
set_option maxHeartbeats 800000 in
theorem bit_any (p : Int) (w : World) : Calls Try.prog 47 #[.int .i64 p] w fun e w' => e = .returned (.int .u32 (bitV p)) ∧ w = w' := by
  by_cases h0 : p < 0
  · have HV : Hid (bitV p = 0) := by show bitV p = 0; unfold bitV; rw [if_pos (.inl h0)]
    go_enter Try.func47, Try.ntmps47
    go_wp2_with fail
    go_ret
    exact ⟨by rw [HV.out]; rfl, rfl⟩
  · by_cases h1 : 31 < p
    · have HV : Hid (bitV p = 0) := by show bitV p = 0; unfold bitV; rw [if_pos (.inr h1)]
      go_enter Try.func47, Try.ntmps47
      go_wp2_with fail
      go_ret
      exact ⟨by rw [HV.out]; rfl, rfl⟩
    · have HV : Hid (bitV p = (2 : Int) ^ p.toNat % 4294967296) := by
        show bitV p = _
        unfold bitV
        rw [if_neg (by omega)]
        obtain ⟨q, rfl⟩ : ∃ q : Nat, p = (q : Int) := ⟨p.toNat, by omega⟩
        have h : ∀ i : Fin 32, (2 : Int) ^ i.val = (2 : Int) ^ i.val % 4294967296 := by decide
        rw [Int.toNat_natCast]
        exact h ⟨q, by omega⟩
      obtain ⟨q, hq⟩ : ∃ q : Nat, p = (q : Int) := ⟨p.toNat, by omega⟩
      subst hq
      have hq0 : (0 : Int) ≤ (q : Int) := by omega
      rw [Int.toNat_natCast] at HV
      go_enter Try.func47, Try.ntmps47
      go_wp2_with fail
      go_ret
      exact ⟨by rw [HV.out]; rfl, rfl⟩
end Go.Proofs.Ytfnnoncdocghjaa
