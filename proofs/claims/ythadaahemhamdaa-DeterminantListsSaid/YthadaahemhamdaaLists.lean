/- The walk of the law DeterminantLists. -/
import Derived.Test.YthadaahemhamdaaAwake27t
import Derived.Test.YthadaahemhamdaaScene27
import Derived.Test.YthadaahemhamdaaDets
import Derived.Test.YthadaahemhamdaaArgs27
import Derived.Test.YthadaahemhamdaaAdd27
import Derived.Test.YthadaahemhamdaaUnionPlain
import Derived.Test.YthadaahemhamdaaHasC27
import Derived.Test.YthadaahemhamdaaRCuts27
import Derived.Test.YthadaahemhamdaaNextDet
namespace Go.Proofs.Ythadaahemhamdaa
open Go.RowKit Go.Sort
set_option linter.unusedVariables false

theorem Blk.sets9 {w : World} {g : Nat} {t : TypeId} {d : Dt} (h : Blk w g t d.cells.toArray) (y : Dt) : Blk (((((((((w.setCell ⟨g, 0, none⟩ (.int .i64 y.proc)).setCell ⟨g, 1, none⟩ (.int .i64 y.index)).setCell ⟨g, 2, none⟩ (.int .i64 y.ev.kind)).setCell ⟨g, 3, none⟩ (.int .i64 y.ev.inc)).setCell ⟨g, 4, none⟩ (.int .i64 y.ev.frm)).setCell ⟨g, 5, none⟩ (.int .i64 y.ev.sinc)).setCell ⟨g, 6, none⟩ (.int .i64 y.ev.sidx)).setCell ⟨g, 7, none⟩ (.int .i64 y.ev.ord)).setCell ⟨g, 8, none⟩ (.int .i64 y.ev.val)) g t y.cells.toArray := by
  unfold Blk at *
  simp [Dt.cells, World.setCell, Array.getElem?_modify, h]
theorem grown_set1 (w : World) (g o : Nat) (v : Value) : w.grownBy (w.setCell ⟨g, o, none⟩ v) (some g) :=
  ⟨rfl, rfl, rfl, by simp [World.setCell], fun k hk hne => Below.heap_setCell _ _ _ _ (fun e => hne (by rw [e]))⟩
theorem grown_sets9 (w : World) (g : Nat) (y : Dt) : w.grownBy (((((((((w.setCell ⟨g, 0, none⟩ (.int .i64 y.proc)).setCell ⟨g, 1, none⟩ (.int .i64 y.index)).setCell ⟨g, 2, none⟩ (.int .i64 y.ev.kind)).setCell ⟨g, 3, none⟩ (.int .i64 y.ev.inc)).setCell ⟨g, 4, none⟩ (.int .i64 y.ev.frm)).setCell ⟨g, 5, none⟩ (.int .i64 y.ev.sinc)).setCell ⟨g, 6, none⟩ (.int .i64 y.ev.sidx)).setCell ⟨g, 7, none⟩ (.int .i64 y.ev.ord)).setCell ⟨g, 8, none⟩ (.int .i64 y.ev.val)) (some g) :=
  grownBy_trans (grownBy_trans (grownBy_trans (grownBy_trans (grownBy_trans (grownBy_trans (grownBy_trans (grownBy_trans (grown_set1 _ _ _ _) (grown_set1 _ _ _ _)) (grown_set1 _ _ _ _)) (grown_set1 _ _ _ _)) (grown_set1 _ _ _ _)) (grown_set1 _ _ _ _)) (grown_set1 _ _ _ _)) (grown_set1 _ _ _ _)) (grown_set1 _ _ _ _)
/-- the blocks of two determinants -/
def Bl2 (W : World) (g g' : Nat) (a b : Dt) : Prop := Blk W g 39 a.cells.toArray ∧ Blk W g' 39 b.cells.toArray
theorem Bl2.ext {W W' : World} {g g' : Nat} {a b : Dt} (h : Bl2 W g g' a b) (hE : Ext W W') : Bl2 W' g g' a b := ⟨h.1.ext hE, h.2.ext hE⟩
theorem Bl2.drews {W : World} {g g' : Nat} {a b : Dt} (h : Bl2 W g g' a b) : Bl2 W.drew g g' a b := ⟨h.1.drews, h.2.drews⟩
theorem Bl2.drewNs {W : World} {g g' : Nat} {a b : Dt} (h : Bl2 W g g' a b) (n : Nat) : Bl2 (W.drewN n) g g' a b := ⟨h.1.drewNs n, h.2.drewNs n⟩
theorem Bl2.keep {W : World} {g g' : Nat} {a b : Dt} (h : Bl2 W g g' a b) : (W.cell? ⟨g, 0, none⟩ = some (.int .i64 a.proc) ∧ W.cell? ⟨g, 1, none⟩ = some (.int .i64 a.index) ∧ W.cell? ⟨g, 2, none⟩ = some (.int .i64 a.ev.kind) ∧ W.cell? ⟨g, 3, none⟩ = some (.int .i64 a.ev.inc) ∧ W.cell? ⟨g, 4, none⟩ = some (.int .i64 a.ev.frm) ∧ W.cell? ⟨g, 5, none⟩ = some (.int .i64 a.ev.sinc) ∧ W.cell? ⟨g, 6, none⟩ = some (.int .i64 a.ev.sidx) ∧ W.cell? ⟨g, 7, none⟩ = some (.int .i64 a.ev.ord) ∧ W.cell? ⟨g, 8, none⟩ = some (.int .i64 a.ev.val)) ∧ (W.cell? ⟨g', 0, none⟩ = some (.int .i64 b.proc) ∧ W.cell? ⟨g', 1, none⟩ = some (.int .i64 b.index) ∧ W.cell? ⟨g', 2, none⟩ = some (.int .i64 b.ev.kind) ∧ W.cell? ⟨g', 3, none⟩ = some (.int .i64 b.ev.inc) ∧ W.cell? ⟨g', 4, none⟩ = some (.int .i64 b.ev.frm) ∧ W.cell? ⟨g', 5, none⟩ = some (.int .i64 b.ev.sinc) ∧ W.cell? ⟨g', 6, none⟩ = some (.int .i64 b.ev.sidx) ∧ W.cell? ⟨g', 7, none⟩ = some (.int .i64 b.ev.ord) ∧ W.cell? ⟨g', 8, none⟩ = some (.int .i64 b.ev.val)) := ⟨blk9 h.1, blk9 h.2⟩
theorem Blk.ext' {w w' : World} {g c : Nat} {t : TypeId} {cs : Array Value} (h : Blk w g t cs) (hg : w.grownBy w' (some c)) (hne : g < c) : Blk w' g t cs :=
  (hg.block g h.lt (fun e => by injection e; omega)).trans h
theorem Seg.grown_other {w w' : World} {s : Nat} {b off n : Nat} {xs : List Value} {g : Nat} (h : Seg w s (some ⟨b, off, none⟩) n xs) (hg : w.grownBy w' (some g)) (hne : g ≠ b) : Seg w' s (some ⟨b, off, none⟩) n xs :=
  h.grown hg (fun _ ad hA e => by injection hA with hA; subst hA; injection e with e; exact hne e.symm)

set_option maxRecDepth 100000 in
set_option maxHeartbeats 12800000 in
theorem lists_walk (a0 : Option Addr) (cap0 : Nat) (dl : List Dt) (d : Dt) (a2 : Option Addr) (cap2 : Nat) (bs : List Int) (x3 x4 : Int) (w : World)
    (h0 : DtSeg w a0 dl ∧ dl.length ≤ cap0 ∧ cap0 ≤ maxLen ∧ ∀ d ∈ dl, d.ok) (hd : d.ok)
    (h2 : Seg w 1 a2 bs.length (bs.map (Value.int .u8)) ∧ bs.length ≤ cap2 ∧ cap2 ≤ maxLen ∧ ∀ b ∈ bs, 0 ≤ b ∧ b < 256) (h3 : (Lit.int .i64 x3).wf = true) (h4 : (Lit.int .i64 x4).wf = true) :
    Calls Try.prog 10 #[.slice a0 dl.length cap0, d.val, .slice a2 bs.length cap2, .int .i64 x3, .int .i64 x4] w fun e w' => e = .returned (.bool true) ∧ Below w.heap.size w w' := by
  obtain ⟨hs0, hc0, hm0, hok0⟩ := h0
  obtain ⟨hs2, hc2, hm2, hok2⟩ := h2
  have O2 := Lib.hid hok2
  clear hok0 hok2 h3 h4
  have hm0' := hm0
  unfold maxLen at hm0'
  unfold Dt.val
  have hB := Blk.new w 39 d.cells.toArray
  have hs01 := hs0.alloc (.cells d.cells.toArray 39)
  have hs21 := hs2.alloc (.cells d.cells.toArray 39)
  have hX := (Ext.refl w).allocs (.cells d.cells.toArray 39)
  have hzb : w.heap.size < (w.alloc (.cells d.cells.toArray 39)).heap.size := by simp
  obtain ⟨w0, hw0⟩ : ∃ w0, w.alloc (.cells d.cells.toArray 39) = w0 := ⟨_, rfl⟩
  rw [hw0] at hB hs01 hs21 hX hzb
  have HW := Lib.hid hw0
  clear hw0 hs0 hs2
  by_cases l0 : 60 < dl.length
  · have d0 : decide ((60 : Int) < (dl.length : Int)) = true := decide_eq_true (by omega)
    go_enter Try.func10, Try.ntmps10
    go_wp2_with fail
    have e := HW.out
    unfold Dt.cells at e
    rw [e]
    clear e HW
    refine (awake_any w0).mono ?_
    rintro e w1 ⟨rfl, hE⟩
    go_wp2_with fail
    go_ret
    exact ⟨rfl, Ext.trans hX hE⟩
  have d0 : decide ((60 : Int) < (dl.length : Int)) = false := decide_eq_false (by omega)
  go_enter Try.func10, Try.ntmps10
  go_wp2_with fail
  have e := HW.out
  unfold Dt.cells at e
  rw [e]
  clear e HW
  refine (awake_any w0).mono ?_
  rintro e w1 ⟨rfl, hE1⟩
  go_wp2_with fail
  refine (new_any a2 cap2 bs 200 w1 (hs21.ext hE1) hc2 hm2 (by omega) O2.out).mono ?_
  rintro e w2 ⟨rfl, hC, hE2⟩
  generalize bs.take 200 = cs at *
  have hcl := hC.lt
  have hX2 := Ext.trans hE1 hE2
  obtain ⟨c, hc⟩ : ∃ c, w1.heap.size = c := ⟨_, rfl⟩
  have hwc : w0.heap.size ≤ c := by rw [← hc]; exact hE1.size
  rw [hc] at hC hcl ⊢
  clear hc hE1 hE2 hs21 O2
  go_wp2_with fail
  refine (dets_any c cs 0 w2 hC 12 (by omega)).mono ?_
  rintro e w3 ⟨v3, xs, rfl, hown3, hl3, hok3, hg3, k3, hC3, _, _⟩
  have hX3 := Ext.grownRow hX2 hwc hg3
  have hcl3 := hC3.lt
  go_wp2_with fail
  refine (dets_any c cs k3 w3 hC3 6 (by omega)).mono ?_
  rintro e w4 ⟨v4, ys, rfl, hown4, hl4, hok4, hg4, k4, hC4, _, _⟩
  have hX4 := Ext.grownRow hX3 hwc hg4
  have hown34 := kept_c hown3 hg4 hcl
  obtain ⟨A4, c4, rfl, hs4, _, _⟩ := own_slice hown4
  have hz24 : w2.heap.size ≤ w4.heap.size := Nat.le_trans hg3.size hg4.size
  have HOKM : Hid (∀ z ∈ xs ++ ys, z.ok) := fun z hz => by
    rcases List.mem_append.1 hz with h | h
    · exact hok3 z h
    · exact hok4 z h
  clear hown3 hown4 hg3 hg4 hC hC3 hX2 hX3 hok3 hok4
  have hlm : (xs ++ ys).length ≤ 18 := by rw [List.length_append]; omega
  obtain ⟨m, hm⟩ : ∃ m, xs ++ ys = m := ⟨_, rfl⟩
  rw [hm] at HOKM hlm
  by_cases hmp : 0 < m.length
  · have hmd : decide ((0 : Int) < (m.length : Int)) = true := decide_eq_true (by omega)
    go_wp2_with (at_builtin; refine wpList_cat w4 rfl _ _ rfl w2.heap.size v3 xs ys rfl hown34 A4 c4 rfl hs4 (by omega) hz24 ?_; intro v5 w5 hown5 hg5; rw [hm] at hown5; have hC5 : Codes w5 c cs k4 := hC4.grown hg5 (fun r hr => by have := (hown34.lt r hr).1; omega); have hX5 : Ext w0 w5 := Ext.own hX4 hown34 (by omega) hg5; have hz5 : w2.heap.size ≤ w5.heap.size := Nat.le_trans hz24 hg5.size; obtain ⟨A5, c5, rfl, hs5, _, hcm⟩ := own_slice hown5)
    have hcl2 : c < w2.heap.size := hcl
    clear hg5 hown34 hC4 hX4 hs4 hs5 hm
    refine (next_any' c cs k4 w5 hC5 m.length (by omega) (by omega)).mono ?_
    rintro e w6 ⟨r6, rfl, ⟨hr0, hr1⟩, hg6, k6, hC6, _, _⟩
    have hown6 := kept_c hown5 hg6 hcl2
    have hX6 := Ext.grownRow hX5 hwc hg6
    have hz6 : w2.heap.size ≤ w6.heap.size := Nat.le_trans hz5 hg6.size
    obtain ⟨r, rfl⟩ : ∃ r : Nat, r6 = r := ⟨r6.toNat, by omega⟩
    have hrm : r < m.length := by omega
    obtain ⟨b, off, rfl, p0, p1, p2, p3, p4, p5, p6, p7, p8⟩ := Dt.at_ (Seg.of_own hown6) hrm
    obtain ⟨z, hz⟩ : ∃ z, m[r] = z := ⟨_, rfl⟩
    rw [hz] at p0 p1 p2 p3 p4 p5 p6 p7 p8
    have HOK2 : Hid (∀ x ∈ m ++ [z], x.ok) := all_snoc HOKM.out (by rw [← hz]; exact HOKM.out _ (List.getElem_mem hrm))
    clear hz hown5 hC5 hX5 hg6 HOKM
    obtain ⟨m2, hm2⟩ : ∃ m2, m ++ [z] = m2 := ⟨_, rfl⟩
    have hm2l : m2.length = m.length + 1 := by rw [← hm2]; simp
    rw [hm2] at HOK2
    have hmd2 : decide ((0 : Int) < (m2.length : Int)) = true := decide_eq_true (by omega)
    have HM2 := Lib.hid hm2
    have HM2L := Lib.hid hm2l
    have hm2b : m2.length ≤ 19 := by omega
    have hm2p : 1 ≤ m2.length := by omega
    clear hm2 hm2l
    go_wp2_with (at_builtin; refine wpList_push_at Dt.cells 9 72 Dt.len Dt.one (by omega) rfl _ _ _ rfl w2.heap.size 39 Try.underlying24 (by kernel_rfl) (.slice (some ⟨b, off, none⟩) m.length c5) m z w6.heap.size rfl hown6 rfl rfl (by unfold maxLen; omega) (by omega) (by omega) ?_; intro v7 w7 hown7 hg7; have e7 := HM2.out; rw [e7] at hown7; clear e7; have hC7 : Codes w7 c cs k6 := hC6.grown hg7 (fun r hr => by have := (hown6.lt r hr).1; omega); have hX7 : Ext w0 w7 := Ext.own hX6 hown6 (by omega) hg7; have hz7 : w2.heap.size ≤ w7.heap.size := Nat.le_trans hz6 hg7.size; obtain ⟨A7, c7, rfl, hs7, _, hcm7⟩ := own_slice hown7; obtain ⟨b0, b1, b2, b3, b4, b5, b6, b7, b8⟩ := blk9 (hB.ext hX7))
    clear b0 b1 b2 b3 b4 b5 b6 b7 b8 p0 p1 p2 p3 p4 p5 p6 p7 p8 hown6 hg7 hC6 hX6 HM2 hmp hmd hlm
    have hXa := (Ext.refl w7).allocs (.cells d.cells.toArray 39)
    have hBx := Blk.new w7 39 d.cells.toArray
    have hBd := (hB.ext hX7).ext hXa
    have hS0 := (hs01.ext hX7).ext hXa
    have hown8 := hown7.alloc (.cells d.cells.toArray 39)
    have hC8 := hC7.ext hXa
    have hX8 := Ext.trans hX7 hXa
    have hz8 : w7.heap.size < (w7.alloc (.cells d.cells.toArray 39)).heap.size := by simp
    obtain ⟨W8, hW8⟩ : ∃ W8, w7.alloc (.cells d.cells.toArray 39) = W8 := ⟨_, rfl⟩
    rw [hW8] at hBx hBd hS0 hown8 hC8 hX8 hz8
    have HLT7 : Hid (∀ ad, A7 = some ad → ad.block < w7.heap.size) := fun ad e => (hown7.lt ad.block (by rw [e]; rfl)).2
    have HWX := Lib.hid hW8
    clear hW8 hs7 hown7 hC7 hX7 hXa
    obtain ⟨gx, hgx⟩ : ∃ gx, w7.heap.size = gx := ⟨_, rfl⟩
    rw [hgx] at hBx HLT7 hz8 hz7
    rw [hgx]
    clear hgx
    have hcgx : c < gx := by omega
    have hbgx : w.heap.size < gx := by omega
    -- the element that is taken
    have hnb := nextV_bd (k := k6) hC8.bytes (show (1 : Int) ≤ (m2.length : Int) by omega)
    have HN := Lib.hid (fun W h => next_det c cs k6 W h (m2.length : Int) (by omega) (by omega))
    obtain ⟨q9, hq9⟩ : ∃ q, nextV cs k6 (m2.length : Int) = q := ⟨_, rfl⟩
    rw [hq9] at hnb HN
    clear hq9
    obtain ⟨hnb0, hnb1⟩ := hnb
    obtain ⟨r9, rfl⟩ : ∃ r : Nat, q9 = r := ⟨q9.toNat, by omega⟩
    have hr9 : r9 < m2.length := by omega
    have hsl := Seg.of_own hown8
    obtain ⟨bz, oz, rfl, p0, p1, p2, p3, p4, p5, p6, p7, p8⟩ := Dt.at_ hsl hr9
    have hbz : bz < gx := HLT7.out ⟨bz, oz, none⟩ rfl
    obtain ⟨z9, hz9⟩ : ∃ z, m2[r9] = z := ⟨_, rfl⟩
    rw [hz9] at p0 p1 p2 p3 p4 p5 p6 p7 p8
    have hok9 : z9.ok := by rw [← hz9]; exact HOK2.out _ (List.getElem_mem hr9)
    have HZ9 := Lib.hid hz9
    clear hz9 HOK2 HLT7
    have t1 : True := trivial
    have t2 : True := trivial
    have e := HWX.out
    unfold Dt.cells at e
    rw [e]
    clear e HWX
    go_region_held3 (fun w' => w'.cell? ⟨bz, oz + r9 * 9, none⟩ = some (.int .i64 z9.proc) ∧ w'.cell? ⟨bz, oz + r9 * 9 + 1, none⟩ = some (.int .i64 z9.index) ∧ w'.cell? ⟨bz, oz + r9 * 9 + 2, none⟩ = some (.int .i64 z9.ev.kind) ∧ w'.cell? ⟨bz, oz + r9 * 9 + 3, none⟩ = some (.int .i64 z9.ev.inc) ∧ w'.cell? ⟨bz, oz + r9 * 9 + 4, none⟩ = some (.int .i64 z9.ev.frm) ∧ w'.cell? ⟨bz, oz + r9 * 9 + 5, none⟩ = some (.int .i64 z9.ev.sinc) ∧ w'.cell? ⟨bz, oz + r9 * 9 + 6, none⟩ = some (.int .i64 z9.ev.sidx) ∧ w'.cell? ⟨bz, oz + r9 * 9 + 7, none⟩ = some (.int .i64 z9.ev.ord) ∧ w'.cell? ⟨bz, oz + r9 * 9 + 8, none⟩ = some (.int .i64 z9.ev.val))
      (first | (refine Dt.cells_at ?_ hr9 HZ9.out; (repeat (first | with_reducible refine Seg.alloc ?_ _ | with_reducible refine Seg.drew ?_ | with_reducible refine Seg.drewN ?_ _)); (first | with_reducible exact hsl | with_reducible exact hslA | with_reducible exact hslB | with_reducible exact hslC | with_reducible exact hslD | with_reducible exact hslE)))
      (first
        | (go_at_call 31; have _t := t1; refine (HN.out _ (hC8.ext (Below.drew (Ext.refl W8)))).mono ?_; rintro e w9 ⟨rfl, hg9, k9, hC9, _, _⟩; have hg89 : W8.grownBy w9 (some c) := grownBy_trans (grownBy_ext (Below.drew (Ext.refl W8))) hg9; have hown9 := kept_c hown8 hg89 hcl2; have hslA := Seg.of_own hown9; have hBx9 := hBx.grown hg89 hcgx; have hBd9 : Blk w9 w.heap.size 39 d.cells.toArray := hBd.ext' hg89 (by omega); have hX9 := Ext.grownRow hX8 hwc hg89; clear t1)
        | (go_at_call 31; have _t := t2; refine (next_any' c cs k9 w9 hC9 12 (by omega) (by omega)).mono ?_; rintro e w10 ⟨r10, rfl, ⟨hr100, hr101⟩, hg10, k10, hC10, _, _⟩; have hown10 := kept_c hown9 hg10 hcl2; have hslB := Seg.of_own hown10; have hBx10 := hBx9.grown hg10 hcgx; have hBd10 : Blk w10 w.heap.size 39 d.cells.toArray := hBd9.ext' hg10 (by omega); have hX10 := Ext.grownRow hX9 hwc hg10; clear t2)
        | (go_at_call 31; refine (next_any' c cs k10 w10 hC10 3 (by omega) (by omega)).mono ?_; rintro e w11 ⟨r11, rfl, ⟨hr110, hr111⟩, hg11, k11, hC11, _, _⟩; have hown11 := kept_c hown10 hg11 hcl2; have hslC := Seg.of_own hown11; have hBx11 := hBx10.grown hg11 hcgx; have hBd11 : Blk w11 w.heap.size 39 d.cells.toArray := hBd10.ext' hg11 (by omega); have hX11 := Ext.grownRow hX10 hwc hg11)
        | (go_at_call 20; refine (near_any z9 r10 r11 _ hok9 (inI r11 (by omega) (by omega))).mono ?_; rintro e w12 ⟨y, rfl, hoky, hE12⟩; have hslD := hslC.ext hE12; have hBx12 := hBx11.ext hE12; have hBd12 := hBd11.ext hE12; have hX12 := Ext.trans hX11 hE12; obtain ⟨c0, c1, c2, c3, c4, c5, c6, c7, c8⟩ := blk9 hBx12; obtain ⟨f0, f1, f2, f3, f4, f5, f6, f7, f8⟩ := blk9f hBx12; have hslE := Seg.grown_other hslD (grown_sets9 w12 gx y) (by omega)))
    have hBx := hBx12.sets9 y
    have hBd := hBd12.ext' (grown_sets9 w12 gx y) hbgx
    have hXg := grown_sets9 w12 gx y
    have hXw : Ext w0 (((((((((w12.setCell ⟨gx, 0, none⟩ (.int .i64 y.proc)).setCell ⟨gx, 1, none⟩ (.int .i64 y.index)).setCell ⟨gx, 2, none⟩ (.int .i64 y.ev.kind)).setCell ⟨gx, 3, none⟩ (.int .i64 y.ev.inc)).setCell ⟨gx, 4, none⟩ (.int .i64 y.ev.frm)).setCell ⟨gx, 5, none⟩ (.int .i64 y.ev.sinc)).setCell ⟨gx, 6, none⟩ (.int .i64 y.ev.sidx)).setCell ⟨gx, 7, none⟩ (.int .i64 y.ev.ord)).setCell ⟨gx, 8, none⟩ (.int .i64 y.ev.val)) := Ext.grownRow hX12 (by omega) hXg
    have hS0 := hs01.ext hXw
    have hSm := hslE
    have hXW := Ext.trans hX hXw
    clear hX8 hX9 hX10 hX11 hX12 hslA hslB hslC hslD hslE hsl hBx9 hBx10 hBx11 hBx12 hBd9 hBd10 hBd11 hBd12 hown8 hown9 hown10 hown11 hg89 hg10 hg11 hC8 hC9 hC10 hC11 hE12 hXg hXw HN hok9 HZ9 c0 c1 c2 c3 c4 c5 c6 c7 c8 f0 f1 f2 f3 f4 f5 f6 f7 f8
    obtain ⟨W0, hW0⟩ : ∃ W0, (((((((((w12.setCell ⟨gx, 0, none⟩ (.int .i64 y.proc)).setCell ⟨gx, 1, none⟩ (.int .i64 y.index)).setCell ⟨gx, 2, none⟩ (.int .i64 y.ev.kind)).setCell ⟨gx, 3, none⟩ (.int .i64 y.ev.inc)).setCell ⟨gx, 4, none⟩ (.int .i64 y.ev.frm)).setCell ⟨gx, 5, none⟩ (.int .i64 y.ev.sinc)).setCell ⟨gx, 6, none⟩ (.int .i64 y.ev.sidx)).setCell ⟨gx, 7, none⟩ (.int .i64 y.ev.ord)).setCell ⟨gx, 8, none⟩ (.int .i64 y.ev.val)) = W0 := ⟨_, rfl⟩
    rw [hW0] at hBx hBd hS0 hSm hXW ⊢
    clear hW0
    obtain ⟨Am, hAm⟩ : ∃ Am, some (⟨bz, oz, none⟩ : Addr) = Am := ⟨_, rfl⟩
    rw [hAm] at hSm ⊢
    clear hAm
    obtain ⟨cm, rfl⟩ : ∃ cm, cm = c7 := ⟨_, rfl⟩
    obtain ⟨m, rfl⟩ : ∃ mm, mm = m2 := ⟨_, rfl⟩
    go_wp2_with fail
    refine (mod_any x3 3 W0 (by omega) (by omega)).mono ?_
    rintro e w' ⟨rfl, rfl⟩
    go_wp2_with fail
    refine (mod_any x4 8 W0 (by omega) (by omega)).mono ?_
    rintro e w' ⟨rfl, rfl⟩
    generalize modv x3 3 = p at *
    generalize modv x4 8 = k at *
    have hml : m.length ≤ 19 := by omega
    have hsl0 := stock_lenU (dl ++ [d])
    have hsl1 := stock_lenU (m ++ [y])
    rw [List.length_append] at hsl0 hsl1
    have hone : [d].length = 1 := rfl
    have hone' : [y].length = 1 := rfl
    have hfc0 := List.length_filter_le (keepC x3 x4) dl
    have hfd0 := List.length_filter_le (keepD x3 x4) dl
    have hfc1 := List.length_filter_le (keepC p k) m
    have hfd1 := List.length_filter_le (keepD p k) m
    have HA0 := Lib.hid (fun W h => add_any a0 cap0 dl d W h (by omega))
    have HA1 := Lib.hid (fun W h => add_any Am cm m y W h (by omega))
    have HB0 := Lib.hid (fun W h => radd_any a0 cap0 dl d W h (by omega))
    have HB1 := Lib.hid (fun W h => radd_any Am cm m y W h (by omega))
    have HC0 := Lib.hid (fun W h => has_code a0 cap0 dl d W h (by omega))
    have HC1 := Lib.hid (fun W h => has_code Am cm m y W h (by omega))
    have HD0 := Lib.hid (fun W h => has_ref a0 cap0 dl d W h (by omega))
    have HD1 := Lib.hid (fun W h => has_ref Am cm m y W h (by omega))
    have HE0 := Lib.hid (fun W h => cut_any a0 cap0 dl x3 x4 W h (by omega))
    have HE1 := Lib.hid (fun W h => cut_any Am cm m p k W h (by omega))
    have HF0 := Lib.hid (fun W h => rcut_any a0 cap0 dl x3 x4 W h (by omega))
    have HF1 := Lib.hid (fun W h => rcut_any Am cm m p k W h (by omega))
    have HG0 := Lib.hid (fun W h => discard_any a0 cap0 dl x3 x4 W h (by omega))
    have HG1 := Lib.hid (fun W h => discard_any Am cm m p k W h (by omega))
    have HH0 := Lib.hid (fun W h => rdiscard_any a0 cap0 dl x3 x4 W h (by omega))
    have HH1 := Lib.hid (fun W h => rdiscard_any Am cm m p k W h (by omega))
    generalize stockV (dl ++ [d]) = S0 at *
    generalize stockV (m ++ [y]) = S1 at *
    generalize hasB dl d = hb0 at *
    generalize hasB m y = hb1 at *
    generalize dl.filter (keepC x3 x4) = cF0 at *
    generalize dl.filter (keepD x3 x4) = dF0 at *
    generalize m.filter (keepC p k) = cF1 at *
    generalize m.filter (keepD p k) = dF1 at *
    
    have t0 : True := trivial
    have t1 : True := trivial
    have t2 : True := trivial
    have t3 : True := trivial
    have t4 : True := trivial
    have t5 : True := trivial
    have t6 : True := trivial
    have t7 : True := trivial
    have t8 : True := trivial
    have t9 : True := trivial
    have t10 : True := trivial
    have t11 : True := trivial
    have t12 : True := trivial
    have t13 : True := trivial
    have t14 : True := trivial
    have t15 : True := trivial
    have t16 : True := trivial
    have t17 : True := trivial
    have t18 : True := trivial
    have t19 : True := trivial
    have t20 : True := trivial
    have t21 : True := trivial
    have hK : Bl2 W0 w.heap.size gx d y := ⟨hBd, hBx⟩
    have E0 := Below.drew (Ext.refl W0)
    have hbb0 : (hb0 == hb0) = true := beq_self_eq_true _
    have hbb1 : (hb1 == hb1) = true := beq_self_eq_true _
    clear hBd hBx
    go_upto_region 11 with fail
    simp only [List.append_eq, List.cons_append, List.nil_append]
    go_region_held3 (fun w' => (w'.cell? ⟨w.heap.size, 0, none⟩ = some (.int .i64 d.proc) ∧ w'.cell? ⟨w.heap.size, 1, none⟩ = some (.int .i64 d.index) ∧ w'.cell? ⟨w.heap.size, 2, none⟩ = some (.int .i64 d.ev.kind) ∧ w'.cell? ⟨w.heap.size, 3, none⟩ = some (.int .i64 d.ev.inc) ∧ w'.cell? ⟨w.heap.size, 4, none⟩ = some (.int .i64 d.ev.frm) ∧ w'.cell? ⟨w.heap.size, 5, none⟩ = some (.int .i64 d.ev.sinc) ∧ w'.cell? ⟨w.heap.size, 6, none⟩ = some (.int .i64 d.ev.sidx) ∧ w'.cell? ⟨w.heap.size, 7, none⟩ = some (.int .i64 d.ev.ord) ∧ w'.cell? ⟨w.heap.size, 8, none⟩ = some (.int .i64 d.ev.val)) ∧ (w'.cell? ⟨gx, 0, none⟩ = some (.int .i64 y.proc) ∧ w'.cell? ⟨gx, 1, none⟩ = some (.int .i64 y.index) ∧ w'.cell? ⟨gx, 2, none⟩ = some (.int .i64 y.ev.kind) ∧ w'.cell? ⟨gx, 3, none⟩ = some (.int .i64 y.ev.inc) ∧ w'.cell? ⟨gx, 4, none⟩ = some (.int .i64 y.ev.frm) ∧ w'.cell? ⟨gx, 5, none⟩ = some (.int .i64 y.ev.sinc) ∧ w'.cell? ⟨gx, 6, none⟩ = some (.int .i64 y.ev.sidx) ∧ w'.cell? ⟨gx, 7, none⟩ = some (.int .i64 y.ev.ord) ∧ w'.cell? ⟨gx, 8, none⟩ = some (.int .i64 y.ev.val)))
      (first | (refine Bl2.keep ?_; (repeat (first | with_reducible refine Bl2.drews ?_ | with_reducible refine Bl2.drewNs ?_ _)); (first | with_reducible exact hK | with_reducible exact hKa0 | with_reducible exact hKb0 | with_reducible exact hKa1 | with_reducible exact hKb1 | with_reducible exact hKa2 | with_reducible exact hKb2 | with_reducible exact hKa3 | with_reducible exact hKb3 | with_reducible exact hKa4 | with_reducible exact hKb4 | with_reducible exact hKa5 | with_reducible exact hKb5 | with_reducible exact hKa6 | with_reducible exact hKb6 | with_reducible exact hKa7 | with_reducible exact hKb7)))
      (first
        | (go_at_call 32; have _t := t0; refine (HA0.out _ (hS0.ext E0)).mono ?_; rintro e p0 ⟨P0, pc0, rfl, hp0, _, _, hG0⟩; have G0 := Ext.trans E0 hG0; have hKa0 := hK.ext G0; clear t0)
        | (go_at_call 33; have _t := t1; refine (HB0.out _ (hS0.ext G0)).mono ?_; rintro e q0 ⟨Q0, qc0, rfl, hq0, _, _, hI0⟩; have I0 := Ext.trans G0 hI0; have hKb0 := hK.ext I0; clear t1)
        | (go_at_call 14; have _t := t2; refine (sameDets P0 Q0 pc0 qc0 S0 q0 (hp0.ext hI0) hq0 (by omega)).mono ?_; rintro e r0 ⟨rfl, n0, rfl⟩; have E1 := Ext.trans I0 (Ext.drewn q0 n0); clear t2)
        | (go_at_call 32; have _t := t3; refine (HA1.out _ (hSm.ext E1)).mono ?_; rintro e p1 ⟨P1, pc1, rfl, hp1, _, _, hG1⟩; have G1 := Ext.trans E1 hG1; have hKa1 := hK.ext G1; clear t3)
        | (go_at_call 33; have _t := t4; refine (HB1.out _ (hSm.ext G1)).mono ?_; rintro e q1 ⟨Q1, qc1, rfl, hq1, _, _, hI1⟩; have I1 := Ext.trans G1 hI1; have hKb1 := hK.ext I1; clear t4)
        | (go_at_call 14; have _t := t5; refine (sameDets P1 Q1 pc1 qc1 S1 q1 (hp1.ext hI1) hq1 (by omega)).mono ?_; rintro e r1 ⟨rfl, n1, rfl⟩; have E2 := Ext.trans I1 (Ext.drewn q1 n1); clear t5)
        | (go_at_call 34; have _t := t6; refine (HC0.out _ (hS0.ext E2)).mono ?_; rintro e p2 ⟨rfl, hG2⟩; have G2 := Ext.trans E2 hG2; have hKa2 := hK.ext G2; clear t6)
        | (go_at_call 35; have _t := t7; refine (HD0.out _ (hS0.ext G2)).mono ?_; rintro e q2 ⟨rfl, hI2⟩; have E3 := Ext.trans G2 hI2; have hKb2 := hK.ext E3; clear t7)
        | (go_at_call 34; have _t := t8; refine (HC1.out _ (hSm.ext E3)).mono ?_; rintro e p3 ⟨rfl, hG3⟩; have G3 := Ext.trans E3 hG3; have hKa3 := hK.ext G3; clear t8)
        | (go_at_call 35; have _t := t9; refine (HD1.out _ (hSm.ext G3)).mono ?_; rintro e q3 ⟨rfl, hI3⟩; have E4 := Ext.trans G3 hI3; have hKb3 := hK.ext E4; clear t9)
        | (go_at_call 29; have _t := t10; refine (HE0.out _ (hS0.ext E4)).mono ?_; rintro e p4 ⟨v4, rfl, ho4, hG4⟩; obtain ⟨P4, pc4, rfl, hp4, _, _⟩ := own_slice ho4; have G4 := Ext.trans E4 hG4; have hKa4 := hK.ext G4; clear t10)
        | (go_at_call 36; have _t := t11; refine (HF0.out _ (hS0.ext G4)).mono ?_; rintro e q4 ⟨v4, rfl, hoq4, hI4⟩; obtain ⟨Q4, qc4, rfl, hq4, _, _⟩ := own_slice hoq4; have I4 := Ext.trans G4 hI4; have hKb4 := hK.ext I4; clear t11)
        | (go_at_call 14; have _t := t12; refine (sameDets P4 Q4 pc4 qc4 cF0 q4 (hp4.ext hI4) hq4 (by omega)).mono ?_; rintro e r4 ⟨rfl, n4, rfl⟩; have E5 := Ext.trans I4 (Ext.drewn q4 n4); clear t12)
        | (go_at_call 29; have _t := t13; refine (HE1.out _ (hSm.ext E5)).mono ?_; rintro e p5 ⟨v5, rfl, ho5, hG5⟩; obtain ⟨P5, pc5, rfl, hp5, _, _⟩ := own_slice ho5; have G5 := Ext.trans E5 hG5; have hKa5 := hK.ext G5; clear t13)
        | (go_at_call 36; have _t := t14; refine (HF1.out _ (hSm.ext G5)).mono ?_; rintro e q5 ⟨v5, rfl, hoq5, hI5⟩; obtain ⟨Q5, qc5, rfl, hq5, _, _⟩ := own_slice hoq5; have I5 := Ext.trans G5 hI5; have hKb5 := hK.ext I5; clear t14)
        | (go_at_call 14; have _t := t15; refine (sameDets P5 Q5 pc5 qc5 cF1 q5 (hp5.ext hI5) hq5 (by omega)).mono ?_; rintro e r5 ⟨rfl, n5, rfl⟩; have E6 := Ext.trans I5 (Ext.drewn q5 n5); clear t15)
        | (go_at_call 30; have _t := t16; refine (HG0.out _ (hS0.ext E6)).mono ?_; rintro e p6 ⟨v6, rfl, ho6, hG6⟩; obtain ⟨P6, pc6, rfl, hp6, _, _⟩ := own_slice ho6; have G6 := Ext.trans E6 hG6; have hKa6 := hK.ext G6; clear t16)
        | (go_at_call 37; have _t := t17; refine (HH0.out _ (hS0.ext G6)).mono ?_; rintro e q6 ⟨v6, rfl, hoq6, hI6⟩; obtain ⟨Q6, qc6, rfl, hq6, _, _⟩ := own_slice hoq6; have I6 := Ext.trans G6 hI6; have hKb6 := hK.ext I6; clear t17)
        | (go_at_call 14; have _t := t18; refine (sameDets P6 Q6 pc6 qc6 dF0 q6 (hp6.ext hI6) hq6 (by omega)).mono ?_; rintro e r6 ⟨rfl, n6, rfl⟩; have E7 := Ext.trans I6 (Ext.drewn q6 n6); clear t18)
        | (go_at_call 30; have _t := t19; refine (HG1.out _ (hSm.ext E7)).mono ?_; rintro e p7 ⟨v7, rfl, ho7, hG7⟩; obtain ⟨P7, pc7, rfl, hp7, _, _⟩ := own_slice ho7; have G7 := Ext.trans E7 hG7; have hKa7 := hK.ext G7; clear t19)
        | (go_at_call 37; have _t := t20; refine (HH1.out _ (hSm.ext G7)).mono ?_; rintro e q7 ⟨v7, rfl, hoq7, hI7⟩; obtain ⟨Q7, qc7, rfl, hq7, _, _⟩ := own_slice hoq7; have I7 := Ext.trans G7 hI7; have hKb7 := hK.ext I7; clear t20)
        | (go_at_call 14; have _t := t21; refine (sameDets P7 Q7 pc7 qc7 dF1 q7 (hp7.ext hI7) hq7 (by omega)).mono ?_; rintro e r7 ⟨rfl, n7, rfl⟩; have E8 := Ext.trans I7 (Ext.drewn q7 n7); clear t21))
    go_wp2_with fail
    go_ret
    exact ⟨rfl, Ext.trans hXW E8⟩
  · have hmd : decide ((0 : Int) < (m.length : Int)) = false := decide_eq_false (by omega)
    go_wp2_with (at_builtin; refine wpList_cat w4 rfl _ _ rfl w2.heap.size v3 xs ys rfl hown34 A4 c4 rfl hs4 (by omega) hz24 ?_; intro v5 w5 hown5 hg5; rw [hm] at hown5; have hC5 : Codes w5 c cs k4 := hC4.grown hg5 (fun r hr => by have := (hown34.lt r hr).1; omega); have hX5 : Ext w0 w5 := Ext.own hX4 hown34 (by omega) hg5; have hz5 : w2.heap.size ≤ w5.heap.size := Nat.le_trans hz24 hg5.size; obtain ⟨A5, c5, rfl, hs5, _, hcm⟩ := own_slice hown5; obtain ⟨b0, b1, b2, b3, b4, b5, b6, b7, b8⟩ := blk9 (hB.ext hX5))
    have hXa := (Ext.refl w5).allocs (.cells d.cells.toArray 39)
    have hBx := Blk.new w5 39 d.cells.toArray
    have hBd := (hB.ext hX5).ext hXa
    have hS0 := (hs01.ext hX5).ext hXa
    have hSm := hs5.ext hXa
    have hXW := Ext.trans hX (Ext.trans hX5 hXa)
    obtain ⟨W0, hW0⟩ : ∃ W0, w5.alloc (.cells d.cells.toArray 39) = W0 := ⟨_, rfl⟩
    rw [hW0] at hBx hBd hS0 hSm hXW
    have HWX := Lib.hid hW0
    clear hW0 hs5 hown5 hg5 hC5 hX5 hz5 hXa b0 b1 b2 b3 b4 b5 b6 b7 b8 hown34 hC4 hX4 hs4 hz24 hs01 hB hX hm
    obtain ⟨gx, hgx⟩ : ∃ gx, w5.heap.size = gx := ⟨_, rfl⟩
    rw [hgx] at hBx
    rw [hgx]
    clear hgx
    have e := HWX.out
    unfold Dt.cells at e
    rw [e]
    clear e HWX
    obtain ⟨Am, rfl⟩ : ∃ Am, Am = A5 := ⟨_, rfl⟩
    obtain ⟨cm, rfl⟩ : ∃ cm, cm = c5 := ⟨_, rfl⟩
    refine (mod_any x3 3 W0 (by omega) (by omega)).mono ?_
    rintro e w' ⟨rfl, rfl⟩
    go_wp2_with fail
    refine (mod_any x4 8 W0 (by omega) (by omega)).mono ?_
    rintro e w' ⟨rfl, rfl⟩
    generalize modv x3 3 = p at *
    generalize modv x4 8 = k at *
    have hml : m.length ≤ 19 := by omega
    have hsl0 := stock_lenU (dl ++ [d])
    have hsl1 := stock_lenU (m ++ [d])
    rw [List.length_append] at hsl0 hsl1
    have hone : [d].length = 1 := rfl
    have hone' : [d].length = 1 := rfl
    have hfc0 := List.length_filter_le (keepC x3 x4) dl
    have hfd0 := List.length_filter_le (keepD x3 x4) dl
    have hfc1 := List.length_filter_le (keepC p k) m
    have hfd1 := List.length_filter_le (keepD p k) m
    have HA0 := Lib.hid (fun W h => add_any a0 cap0 dl d W h (by omega))
    have HA1 := Lib.hid (fun W h => add_any Am cm m d W h (by omega))
    have HB0 := Lib.hid (fun W h => radd_any a0 cap0 dl d W h (by omega))
    have HB1 := Lib.hid (fun W h => radd_any Am cm m d W h (by omega))
    have HC0 := Lib.hid (fun W h => has_code a0 cap0 dl d W h (by omega))
    have HC1 := Lib.hid (fun W h => has_code Am cm m d W h (by omega))
    have HD0 := Lib.hid (fun W h => has_ref a0 cap0 dl d W h (by omega))
    have HD1 := Lib.hid (fun W h => has_ref Am cm m d W h (by omega))
    have HE0 := Lib.hid (fun W h => cut_any a0 cap0 dl x3 x4 W h (by omega))
    have HE1 := Lib.hid (fun W h => cut_any Am cm m p k W h (by omega))
    have HF0 := Lib.hid (fun W h => rcut_any a0 cap0 dl x3 x4 W h (by omega))
    have HF1 := Lib.hid (fun W h => rcut_any Am cm m p k W h (by omega))
    have HG0 := Lib.hid (fun W h => discard_any a0 cap0 dl x3 x4 W h (by omega))
    have HG1 := Lib.hid (fun W h => discard_any Am cm m p k W h (by omega))
    have HH0 := Lib.hid (fun W h => rdiscard_any a0 cap0 dl x3 x4 W h (by omega))
    have HH1 := Lib.hid (fun W h => rdiscard_any Am cm m p k W h (by omega))
    generalize stockV (dl ++ [d]) = S0 at *
    generalize stockV (m ++ [d]) = S1 at *
    generalize hasB dl d = hb0 at *
    generalize hasB m d = hb1 at *
    generalize dl.filter (keepC x3 x4) = cF0 at *
    generalize dl.filter (keepD x3 x4) = dF0 at *
    generalize m.filter (keepC p k) = cF1 at *
    generalize m.filter (keepD p k) = dF1 at *
    
    have t0 : True := trivial
    have t1 : True := trivial
    have t2 : True := trivial
    have t3 : True := trivial
    have t4 : True := trivial
    have t5 : True := trivial
    have t6 : True := trivial
    have t7 : True := trivial
    have t8 : True := trivial
    have t9 : True := trivial
    have t10 : True := trivial
    have t11 : True := trivial
    have t12 : True := trivial
    have t13 : True := trivial
    have t14 : True := trivial
    have t15 : True := trivial
    have t16 : True := trivial
    have t17 : True := trivial
    have t18 : True := trivial
    have t19 : True := trivial
    have t20 : True := trivial
    have t21 : True := trivial
    have hK : Bl2 W0 w.heap.size gx d d := ⟨hBd, hBx⟩
    have E0 := Below.drew (Ext.refl W0)
    have hbb0 : (hb0 == hb0) = true := beq_self_eq_true _
    have hbb1 : (hb1 == hb1) = true := beq_self_eq_true _
    clear hBd hBx
    go_upto_region 11 with fail
    simp only [List.append_eq, List.cons_append, List.nil_append]
    go_region_held3 (fun w' => (w'.cell? ⟨w.heap.size, 0, none⟩ = some (.int .i64 d.proc) ∧ w'.cell? ⟨w.heap.size, 1, none⟩ = some (.int .i64 d.index) ∧ w'.cell? ⟨w.heap.size, 2, none⟩ = some (.int .i64 d.ev.kind) ∧ w'.cell? ⟨w.heap.size, 3, none⟩ = some (.int .i64 d.ev.inc) ∧ w'.cell? ⟨w.heap.size, 4, none⟩ = some (.int .i64 d.ev.frm) ∧ w'.cell? ⟨w.heap.size, 5, none⟩ = some (.int .i64 d.ev.sinc) ∧ w'.cell? ⟨w.heap.size, 6, none⟩ = some (.int .i64 d.ev.sidx) ∧ w'.cell? ⟨w.heap.size, 7, none⟩ = some (.int .i64 d.ev.ord) ∧ w'.cell? ⟨w.heap.size, 8, none⟩ = some (.int .i64 d.ev.val)) ∧ (w'.cell? ⟨gx, 0, none⟩ = some (.int .i64 d.proc) ∧ w'.cell? ⟨gx, 1, none⟩ = some (.int .i64 d.index) ∧ w'.cell? ⟨gx, 2, none⟩ = some (.int .i64 d.ev.kind) ∧ w'.cell? ⟨gx, 3, none⟩ = some (.int .i64 d.ev.inc) ∧ w'.cell? ⟨gx, 4, none⟩ = some (.int .i64 d.ev.frm) ∧ w'.cell? ⟨gx, 5, none⟩ = some (.int .i64 d.ev.sinc) ∧ w'.cell? ⟨gx, 6, none⟩ = some (.int .i64 d.ev.sidx) ∧ w'.cell? ⟨gx, 7, none⟩ = some (.int .i64 d.ev.ord) ∧ w'.cell? ⟨gx, 8, none⟩ = some (.int .i64 d.ev.val)))
      (first | (refine Bl2.keep ?_; (repeat (first | with_reducible refine Bl2.drews ?_ | with_reducible refine Bl2.drewNs ?_ _)); (first | with_reducible exact hK | with_reducible exact hKa0 | with_reducible exact hKb0 | with_reducible exact hKa1 | with_reducible exact hKb1 | with_reducible exact hKa2 | with_reducible exact hKb2 | with_reducible exact hKa3 | with_reducible exact hKb3 | with_reducible exact hKa4 | with_reducible exact hKb4 | with_reducible exact hKa5 | with_reducible exact hKb5 | with_reducible exact hKa6 | with_reducible exact hKb6 | with_reducible exact hKa7 | with_reducible exact hKb7)))
      (first
        | (go_at_call 32; have _t := t0; refine (HA0.out _ (hS0.ext E0)).mono ?_; rintro e p0 ⟨P0, pc0, rfl, hp0, _, _, hG0⟩; have G0 := Ext.trans E0 hG0; have hKa0 := hK.ext G0; clear t0)
        | (go_at_call 33; have _t := t1; refine (HB0.out _ (hS0.ext G0)).mono ?_; rintro e q0 ⟨Q0, qc0, rfl, hq0, _, _, hI0⟩; have I0 := Ext.trans G0 hI0; have hKb0 := hK.ext I0; clear t1)
        | (go_at_call 14; have _t := t2; refine (sameDets P0 Q0 pc0 qc0 S0 q0 (hp0.ext hI0) hq0 (by omega)).mono ?_; rintro e r0 ⟨rfl, n0, rfl⟩; have E1 := Ext.trans I0 (Ext.drewn q0 n0); clear t2)
        | (go_at_call 32; have _t := t3; refine (HA1.out _ (hSm.ext E1)).mono ?_; rintro e p1 ⟨P1, pc1, rfl, hp1, _, _, hG1⟩; have G1 := Ext.trans E1 hG1; have hKa1 := hK.ext G1; clear t3)
        | (go_at_call 33; have _t := t4; refine (HB1.out _ (hSm.ext G1)).mono ?_; rintro e q1 ⟨Q1, qc1, rfl, hq1, _, _, hI1⟩; have I1 := Ext.trans G1 hI1; have hKb1 := hK.ext I1; clear t4)
        | (go_at_call 14; have _t := t5; refine (sameDets P1 Q1 pc1 qc1 S1 q1 (hp1.ext hI1) hq1 (by omega)).mono ?_; rintro e r1 ⟨rfl, n1, rfl⟩; have E2 := Ext.trans I1 (Ext.drewn q1 n1); clear t5)
        | (go_at_call 34; have _t := t6; refine (HC0.out _ (hS0.ext E2)).mono ?_; rintro e p2 ⟨rfl, hG2⟩; have G2 := Ext.trans E2 hG2; have hKa2 := hK.ext G2; clear t6)
        | (go_at_call 35; have _t := t7; refine (HD0.out _ (hS0.ext G2)).mono ?_; rintro e q2 ⟨rfl, hI2⟩; have E3 := Ext.trans G2 hI2; have hKb2 := hK.ext E3; clear t7)
        | (go_at_call 34; have _t := t8; refine (HC1.out _ (hSm.ext E3)).mono ?_; rintro e p3 ⟨rfl, hG3⟩; have G3 := Ext.trans E3 hG3; have hKa3 := hK.ext G3; clear t8)
        | (go_at_call 35; have _t := t9; refine (HD1.out _ (hSm.ext G3)).mono ?_; rintro e q3 ⟨rfl, hI3⟩; have E4 := Ext.trans G3 hI3; have hKb3 := hK.ext E4; clear t9)
        | (go_at_call 29; have _t := t10; refine (HE0.out _ (hS0.ext E4)).mono ?_; rintro e p4 ⟨v4, rfl, ho4, hG4⟩; obtain ⟨P4, pc4, rfl, hp4, _, _⟩ := own_slice ho4; have G4 := Ext.trans E4 hG4; have hKa4 := hK.ext G4; clear t10)
        | (go_at_call 36; have _t := t11; refine (HF0.out _ (hS0.ext G4)).mono ?_; rintro e q4 ⟨v4, rfl, hoq4, hI4⟩; obtain ⟨Q4, qc4, rfl, hq4, _, _⟩ := own_slice hoq4; have I4 := Ext.trans G4 hI4; have hKb4 := hK.ext I4; clear t11)
        | (go_at_call 14; have _t := t12; refine (sameDets P4 Q4 pc4 qc4 cF0 q4 (hp4.ext hI4) hq4 (by omega)).mono ?_; rintro e r4 ⟨rfl, n4, rfl⟩; have E5 := Ext.trans I4 (Ext.drewn q4 n4); clear t12)
        | (go_at_call 29; have _t := t13; refine (HE1.out _ (hSm.ext E5)).mono ?_; rintro e p5 ⟨v5, rfl, ho5, hG5⟩; obtain ⟨P5, pc5, rfl, hp5, _, _⟩ := own_slice ho5; have G5 := Ext.trans E5 hG5; have hKa5 := hK.ext G5; clear t13)
        | (go_at_call 36; have _t := t14; refine (HF1.out _ (hSm.ext G5)).mono ?_; rintro e q5 ⟨v5, rfl, hoq5, hI5⟩; obtain ⟨Q5, qc5, rfl, hq5, _, _⟩ := own_slice hoq5; have I5 := Ext.trans G5 hI5; have hKb5 := hK.ext I5; clear t14)
        | (go_at_call 14; have _t := t15; refine (sameDets P5 Q5 pc5 qc5 cF1 q5 (hp5.ext hI5) hq5 (by omega)).mono ?_; rintro e r5 ⟨rfl, n5, rfl⟩; have E6 := Ext.trans I5 (Ext.drewn q5 n5); clear t15)
        | (go_at_call 30; have _t := t16; refine (HG0.out _ (hS0.ext E6)).mono ?_; rintro e p6 ⟨v6, rfl, ho6, hG6⟩; obtain ⟨P6, pc6, rfl, hp6, _, _⟩ := own_slice ho6; have G6 := Ext.trans E6 hG6; have hKa6 := hK.ext G6; clear t16)
        | (go_at_call 37; have _t := t17; refine (HH0.out _ (hS0.ext G6)).mono ?_; rintro e q6 ⟨v6, rfl, hoq6, hI6⟩; obtain ⟨Q6, qc6, rfl, hq6, _, _⟩ := own_slice hoq6; have I6 := Ext.trans G6 hI6; have hKb6 := hK.ext I6; clear t17)
        | (go_at_call 14; have _t := t18; refine (sameDets P6 Q6 pc6 qc6 dF0 q6 (hp6.ext hI6) hq6 (by omega)).mono ?_; rintro e r6 ⟨rfl, n6, rfl⟩; have E7 := Ext.trans I6 (Ext.drewn q6 n6); clear t18)
        | (go_at_call 30; have _t := t19; refine (HG1.out _ (hSm.ext E7)).mono ?_; rintro e p7 ⟨v7, rfl, ho7, hG7⟩; obtain ⟨P7, pc7, rfl, hp7, _, _⟩ := own_slice ho7; have G7 := Ext.trans E7 hG7; have hKa7 := hK.ext G7; clear t19)
        | (go_at_call 37; have _t := t20; refine (HH1.out _ (hSm.ext G7)).mono ?_; rintro e q7 ⟨v7, rfl, hoq7, hI7⟩; obtain ⟨Q7, qc7, rfl, hq7, _, _⟩ := own_slice hoq7; have I7 := Ext.trans G7 hI7; have hKb7 := hK.ext I7; clear t20)
        | (go_at_call 14; have _t := t21; refine (sameDets P7 Q7 pc7 qc7 dF1 q7 (hp7.ext hI7) hq7 (by omega)).mono ?_; rintro e r7 ⟨rfl, n7, rfl⟩; have E8 := Ext.trans I7 (Ext.drewn q7 n7); clear t21))
    go_wp2_with fail
    go_ret
    exact ⟨rfl, Ext.trans hXW E8⟩
end Go.Proofs.Ythadaahemhamdaa
