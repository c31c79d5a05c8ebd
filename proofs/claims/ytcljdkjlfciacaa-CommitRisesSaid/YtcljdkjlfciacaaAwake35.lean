/- The sanity check of the law of chapter 35. No statement of the seat is proved here. -/
import Derived.Test.YtcljdkjlfciacaaSearch2
namespace Go.Proofs.Ytcljdkjlfciacaa
open Go.RowKit
set_option linter.unusedVariables false

def eTick : Ev := ⟨2, 0, 0, 0, 0, 0, 0⟩
def eRecv : Ev := ⟨1, 0, 0, 0, 2, 0, 0⟩
def Lw : Lin := [[eTick, eTick], [eRecv]]
theorem lw_len : Lw.length = 2 := rfl
theorem lw_good {p : Nat} {i a b : Int} (ha0 : 0 ≤ a) (ha : a ≤ 2) (hb0 : 0 ≤ b) (hb : b ≤ 1) (hc : 0 < b → 2 ≤ a) (hs : i ≤ elX [a, b] p) : GoodY Lw p i (elX [a, b]) := by
  refine ⟨hs, fun q hq => ?_, fun q hq => ?_, fun q k e hq hk he hr => ?_⟩
  · rw [lw_len] at hq
    obtain rfl | rfl : q = 0 ∨ q = 1 := by omega
    · exact ha0
    · exact hb0
  · rw [lw_len] at hq
    obtain rfl | rfl : q = 0 ∨ q = 1 := by omega
    · exact ha
    · exact hb
  · rw [lw_len] at hq
    obtain rfl | rfl : q = 0 ∨ q = 1 := by omega
    · have : e = eTick := by
        rcases k with _ | _ | k
        · injection he with he; exact he.symm
        · injection he with he; exact he.symm
        · simp [rowL, Lw] at he
      subst this
      cases hr
    · have hk' : (k : Int) < b := hk
      have : e = eRecv := by
        rcases k with _ | k
        · injection he with he; exact he.symm
        · simp [rowL, Lw] at he
      subst this
      exact ⟨by decide, hc (by omega)⟩
theorem lw_recv {p : Nat} {i : Int} {y : Nat → Int} (h : GoodY Lw p i y) (h1 : 0 < y 1) : 2 ≤ y 0 := (h.evs 1 0 eRecv (by decide) (by omega) rfl rfl).2
theorem lw_two {X : Nat → Int} {y : Nat → Int} (h0 : X 0 ≤ y 0) (h1 : X 1 ≤ y 1) : ∀ q, q < Lw.length → X q ≤ y q := fun q hq => by
  rw [lw_len] at hq
  obtain rfl | rfl : q = 0 ∨ q = 1 := by omega
  · exact h0
  · exact h1
theorem lw_11 : IsPast Lw 1 1 (some [2, 1]) := ⟨rfl, lw_good (by omega) (by omega) (by omega) (by omega) (by omega) (Int.le_refl _), fun y hy => by
  have h1 : (1 : Int) ≤ y 1 := hy.start
  exact lw_two (lw_recv hy (by omega)) h1⟩
theorem lw_02 : IsPast Lw 0 2 (some [2, 0]) := ⟨rfl, lw_good (by omega) (by omega) (by omega) (by omega) (by omega) (Int.le_refl _), fun y hy => by
  have h1 : (2 : Int) ≤ y 0 := hy.start
  exact lw_two h1 (hy.lo 1 (by decide))⟩
theorem lw_01 : IsPast Lw 0 1 (some [1, 0]) := ⟨rfl, lw_good (by omega) (by omega) (by omega) (by omega) (by omega) (Int.le_refl _), fun y hy => by
  have h1 : (1 : Int) ≤ y 0 := hy.start
  exact lw_two h1 (hy.lo 1 (by decide))⟩
theorem lw_past : pastL Lw 1 1 = [2, 1] := pastL_some (L := Lw) (p := 1) (by decide) (by omega) (by decide) lw_11
theorem lw_p02 : pastL Lw ((0 : Nat) : Int) ((2 : Nat) : Int) = [2, 0] := pastL_some (L := Lw) (p := 0) (by decide) (by omega) (by decide) lw_02
theorem lw_p01 : pastL Lw ((0 : Nat) : Int) ((1 : Nat) : Int) = [1, 0] := pastL_some (L := Lw) (p := 0) (by decide) (by omega) (by decide) lw_01
theorem lw_p11 : pastL Lw ((1 : Nat) : Int) ((1 : Nat) : Int) = [2, 1] := pastL_some (L := Lw) (p := 1) (by decide) (by omega) (by decide) lw_11
theorem lw_stable : searchL Lw (mtS [1, 1]) = [1, 0] := by
  have g02 : goodB Lw (mtS [1, 1]) 0 2 = false := by unfold goodB; rw [lw_p02]; decide
  have g01 : goodB Lw (mtS [1, 1]) 0 1 = true := by unfold goodB; rw [lw_p01]; decide
  have g11 : goodB Lw (mtS [1, 1]) 1 1 = false := by unfold goodB; rw [lw_p11]; decide
  have b0 : bestK (goodB Lw (mtS [1, 1]) 0) 2 = 1 := by unfold bestK; rw [g02, if_neg (by decide)]; unfold bestK; rw [g01, if_pos rfl]
  have b1 : bestK (goodB Lw (mtS [1, 1]) 1) 1 = 0 := by unfold bestK; rw [g11, if_neg (by decide)]; rfl
  show [((bestK (goodB Lw (mtS [1, 1]) 0) 2 : Nat) : Int), ((bestK (goodB Lw (mtS [1, 1]) 1) 1 : Nat) : Int)] = [1, 0]
  rw [b0, b1]
  rfl
theorem Lw_evs (a b : Nat) : evsL [⟨some ⟨a, 0, none⟩, 2, [eTick, eTick]⟩, ⟨some ⟨b, 0, none⟩, 1, [eRecv]⟩] = Lw := rfl
theorem lw_sz (a b : Nat) : ∀ r ∈ [(⟨some ⟨a, 0, none⟩, 2, [eTick, eTick]⟩ : Rw), ⟨some ⟨b, 0, none⟩, 1, [eRecv]⟩], r.es.length < 4611686018427387904 := fun r hr => by
  simp only [List.mem_cons, List.not_mem_nil, or_false] at hr
  rcases hr with rfl | rfl
  · show (2 : Nat) < _; omega
  · show (1 : Nat) < _; omega
theorem two_ints {W : World} {g : Nat} {a b : Int} (h : Blk W g 3 #[.int .i64 a, .int .i64 b]) : IntSeg W (some ⟨g, 0, none⟩) [a, b] := Seg.ofBlk (cs := [a, b].flatMap Iv) h rfl

set_option maxRecDepth 100000 in
set_option maxHeartbeats 3200000 in
theorem awake_any (w : World) : Calls Try.prog 9 #[] w (ExtPost w (.bool true)) := by
  have hB1 := Blk.new w 61 ([eTick, eTick].flatMap Ev.cells).toArray
  have hX1 := (Ext.refl w).allocs (.cells ([eTick, eTick].flatMap Ev.cells).toArray 61)
  obtain ⟨w1, hw1⟩ : ∃ w1, w.alloc (.cells ([eTick, eTick].flatMap Ev.cells).toArray 61) = w1 := ⟨_, rfl⟩
  have hz1 : w1.heap.size = w.heap.size + 1 := by rw [← hw1]; simp
  rw [hw1] at hB1 hX1
  have hB2 := Blk.new w1 61 ([eRecv].flatMap Ev.cells).toArray
  have hX2 := (Ext.refl w1).allocs (.cells ([eRecv].flatMap Ev.cells).toArray 61)
  obtain ⟨w2, hw2⟩ : ∃ w2, w1.alloc (.cells ([eRecv].flatMap Ev.cells).toArray 61) = w2 := ⟨_, rfl⟩
  have hz2 : w2.heap.size = w.heap.size + 2 := by rw [← hw2]; simp [hz1]
  rw [hw2, hz1] at hB2
  rw [hw2] at hX2
  have hB3 := Blk.new w2 55 ([(⟨some ⟨w.heap.size, 0, none⟩, 2, [eTick, eTick]⟩ : Rw), ⟨some ⟨w.heap.size + 1, 0, none⟩, 1, [eRecv]⟩].flatMap Rw.cells).toArray
  have hX3 := (Ext.refl w2).allocs (.cells ([(⟨some ⟨w.heap.size, 0, none⟩, 2, [eTick, eTick]⟩ : Rw), ⟨some ⟨w.heap.size + 1, 0, none⟩, 1, [eRecv]⟩].flatMap Rw.cells).toArray 55)
  obtain ⟨w3, hw3⟩ : ∃ w3, w2.alloc (.cells ([(⟨some ⟨w.heap.size, 0, none⟩, 2, [eTick, eTick]⟩ : Rw), ⟨some ⟨w.heap.size + 1, 0, none⟩, 1, [eRecv]⟩].flatMap Rw.cells).toArray 55) = w3 := ⟨_, rfl⟩
  rw [hw3, hz2] at hB3
  rw [hw3] at hX3
  have hL : LinSeg w3 (some ⟨w.heap.size + 2, 0, none⟩) [(⟨some ⟨w.heap.size, 0, none⟩, 2, [eTick, eTick]⟩ : Rw), ⟨some ⟨w.heap.size + 1, 0, none⟩, 1, [eRecv]⟩] := by
    refine ⟨Seg.ofBlk hB3 rfl, fun r hr => ?_⟩
    simp only [List.mem_cons, List.not_mem_nil, or_false] at hr
    rcases hr with rfl | rfl
    · exact ⟨Seg.ofBlk (hB1.ext (hX2.trans hX3)) rfl, Nat.le_refl _, by unfold maxLen; show (2 : Nat) ≤ _; omega⟩
    · exact ⟨Seg.ofBlk (hB2.ext hX3) rfl, Nat.le_refl _, by unfold maxLen; show (1 : Nat) ≤ _; omega⟩
  have hX := hX1.trans (hX2.trans hX3)
  have HP := Lib.hid (fun W hE => past_code (some ⟨w.heap.size + 2, 0, none⟩) 2 [(⟨some ⟨w.heap.size, 0, none⟩, 2, [eTick, eTick]⟩ : Rw), ⟨some ⟨w.heap.size + 1, 0, none⟩, 1, [eRecv]⟩] 1 1 W (hL.ext hE) (by simp))
  have HS := Lib.hid (fun W hE B cB hB h1 h2 => stable_code (some ⟨w.heap.size + 2, 0, none⟩) 2 [(⟨some ⟨w.heap.size, 0, none⟩, 2, [eTick, eTick]⟩ : Rw), ⟨some ⟨w.heap.size + 1, 0, none⟩, 1, [eRecv]⟩] B cB [1, 1] W (hL.ext hE) (by simp) (lw_sz _ _) hB h1 h2)
  rw [Lw_evs, lw_past] at HP
  rw [Lw_evs, lw_stable] at HS
  have HW : Hid (((w.alloc (.cells #[.int .i64 2, .int .i64 0, .int .i64 0, .int .i64 0, .int .i64 0, .int .i64 0, .int .i64 0, .int .i64 2, .int .i64 0, .int .i64 0, .int .i64 0, .int .i64 0, .int .i64 0, .int .i64 0] 61)).alloc (.cells #[.int .i64 1, .int .i64 0, .int .i64 0, .int .i64 0, .int .i64 2, .int .i64 0, .int .i64 0] 61)).alloc (.cells #[.slice (some ⟨w.heap.size, 0, none⟩) 2 2, .slice (some ⟨w.heap.size + 1, 0, none⟩) 1 1] 55) = w3) := by
    show _ = _
    rw [← hw3, ← hw2, ← hw1]
    rfl
  have hz3 : w3.heap.size = w.heap.size + 3 := by rw [← hw3]; simp [hz2]
  clear hw1 hw2 hw3 hB1 hB2 hB3 hX1 hX2 hX3 hL hz1 hz2
  go_enter Try.func9, Try.ntmps9
  go_wp2_with fail
  rw [HW.out]
  refine (HP.out w3 (Ext.refl _)).mono ?_
  rintro e w4 ⟨A4, c4, rfl, hs4, _, _, hE4⟩
  go_wp2_with fail
  refine (same_ints A4 (some ⟨w4.heap.size, 0, none⟩) c4 2 [2, 1] (w4.alloc (.cells #[.int .i64 2, .int .i64 1] 3)) (hs4.alloc _) (two_ints (Blk.new w4 3 #[.int .i64 2, .int .i64 1])) (by simp)).mono ?_
  rintro e w5 ⟨rfl, hE5⟩
  have E5 : Ext w3 w5 := hE4.trans (((Ext.refl w4).allocs _).trans hE5)
  clear hE4 hE5 hs4
  go_wp2_with fail
  refine (HS.out (w5.alloc (.cells #[.int .i64 1, .int .i64 1] 3)) (E5.allocs _) (some ⟨w5.heap.size, 0, none⟩) 2 (two_ints (Blk.new w5 3 #[.int .i64 1, .int .i64 1])) (Nat.le_refl _) (by unfold maxLen; omega)).mono ?_
  rintro e w6 ⟨A6, c6, rfl, hs6, _, _, hE6⟩
  have E6 : Ext w3 w6 := (E5.allocs _).trans hE6
  clear hE6 E5
  go_wp2_with fail
  refine (same_ints A6 (some ⟨w6.heap.size, 0, none⟩) c6 2 [1, 0] (w6.alloc (.cells #[.int .i64 1, .int .i64 0] 3)) (hs6.alloc _) (two_ints (Blk.new w6 3 #[.int .i64 1, .int .i64 0])) (by simp)).mono ?_
  rintro e w7 ⟨rfl, hE7⟩
  go_wp2_with fail
  go_ret
  exact ⟨rfl, hX.trans ((E6.allocs _).trans hE7)⟩
end Go.Proofs.Ytcljdkjlfciacaa
