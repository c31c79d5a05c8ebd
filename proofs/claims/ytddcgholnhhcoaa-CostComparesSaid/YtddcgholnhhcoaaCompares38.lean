/- The walk of the law CostCompares. -/
import Derived.Test.YtddcgholnhhcoaaCompared
namespace Go.Proofs.Ytddcgholnhhcoaa
open Go.RowKit
set_option linter.unusedVariables false

theorem fr_mul (x y m : Int) (hy : 1 ≤ y) (hm : 1 ≤ m) : frV ⟨x, y⟩ ⟨x * m, y * m⟩ = 0 := by
  have h : 1 * 1 ≤ y * m := Int.mul_le_mul hy hm (by omega) (by omega)
  rw [fr_key, cmpI_zero]
  simp only
  rw [denV_pos (show 1 ≤ y * m by omega), denV_pos hy, Int.mul_assoc, Int.mul_comm m y]
theorem small_mul (x m : Int) (hx : -999 ≤ x ∧ x ≤ 1999) (hm : 1 ≤ m ∧ m ≤ 1000) : -999000 ≤ x * m ∧ x * m ≤ 1999000 := by
  rcases (show x < 0 ∨ 0 ≤ x by omega) with h | h
  · have h1 : (-x) * m ≤ 999 * 1000 := Int.mul_le_mul (by omega) hm.2 (by omega) (by omega)
    have h2 : 0 ≤ (-x) * m := Int.mul_nonneg (by omega) (by omega)
    rw [Int.neg_mul] at h1 h2
    omega
  · have h1 : x * m ≤ 1999 * 1000 := Int.mul_le_mul (by omega) hm.2 (by omega) (by omega)
    have h2 : 0 ≤ x * m := Int.mul_nonneg h (by omega)
    omega

set_option maxRecDepth 100000 in
set_option maxHeartbeats 3200000 in
theorem compares_walk (a b : Fr) (k : Int) (w : World) (ha : a.ok) (hb : b.ok) (hk : (Lit.int .i64 k).wf = true) :
    Calls Try.prog 11 #[.agg #[.int .i64 a.num, .int .i64 a.den], .agg #[.int .i64 b.num, .int .i64 b.den], .int .i64 k] w fun e w' => e = .returned (.bool true) ∧ Below w.heap.size w w' := by
  clear hk
  have C1 := Lib.hid (fun w => compared_any a b w ha hb)
  have C2 := Lib.hid (fun w => compared_any b a w hb ha)
  have C3 := Lib.hid (fun w => compared_any a a w ha ha)
  have hmk := modv_bd k 1000 (by omega)
  have t1 := tmod_bd a.num 1000 (by omega)
  have t2 := tmod_bd a.den 1000 (by omega)
  have hBa := (Blk.new w 27 #[.int .i64 a.num, .int .i64 a.den]).allocs (.cells #[.int .i64 b.num, .int .i64 b.den] 27)
  have hBb := Blk.newAt (w := w.alloc (.cells #[.int .i64 a.num, .int .i64 a.den] 27)) (g := w.heap.size + 1) (t := 27) (cs := #[.int .i64 b.num, .int .i64 b.den]) (by simp)
  have hX := ((Ext.refl w).allocs (.cells #[.int .i64 a.num, .int .i64 a.den] 27)).allocs (.cells #[.int .i64 b.num, .int .i64 b.den] 27)
  obtain ⟨ha1, ha2⟩ := ha
  go_enter Try.func11, Try.ntmps11
  go_wp2_with fail
  refine (awake_any _).mono ?_
  rintro e w1 ⟨rfl, hE1⟩
  have hBa1 := hBa.ext hE1
  have hBb1 := hBb.ext hE1
  have hX1 := Ext.trans hX hE1
  clear hBa hBb hX hE1
  obtain ⟨gb, hgb⟩ : ∃ g, w.heap.size + 1 = g := ⟨_, rfl⟩
  obtain ⟨ga, hga⟩ : ∃ g, w.heap.size = g := ⟨_, rfl⟩
  rw [hgb] at hBb1 ⊢
  rw [hga] at hBa1 ⊢
  clear hgb hga
  obtain ⟨a0, a1⟩ := blk2 hBa1
  obtain ⟨b0, b1⟩ := blk2 hBb1
  go_wp2_with fail
  refine (C1.out _).mono ?_
  rintro e w2 ⟨rfl, hE2⟩
  clear a0 a1 b0 b1
  have hBa2 := hBa1.ext hE2
  have hBb2 := hBb1.ext hE2
  have hX2 := Ext.trans hX1 hE2
  clear hBa1 hBb1 hX1 hE2
  obtain ⟨a0, a1⟩ := blk2 hBa2
  obtain ⟨b0, b1⟩ := blk2 hBb2
  go_wp2_with fail
  refine (C2.out _).mono ?_
  rintro e w3 ⟨rfl, hE3⟩
  clear a0 a1 b0 b1
  have hBa3 := hBa2.ext hE3
  have hBb3 := hBb2.ext hE3
  have hX3 := Ext.trans hX2 hE3
  clear hBa2 hBb2 hX2 hE3
  obtain ⟨a0, a1⟩ := blk2 hBa3
  obtain ⟨b0, b1⟩ := blk2 hBb3
  go_wp2_with fail
  refine (C3.out _).mono ?_
  rintro e w4 ⟨rfl, hE4⟩
  clear a0 a1 b0 b1
  have hBa4 := hBa3.ext hE4
  have hBb4 := hBb3.ext hE4
  have hX4 := Ext.trans hX3 hE4
  clear hBa3 hBb3 hX3 hE4
  obtain ⟨a0, a1⟩ := blk2 hBa4
  obtain ⟨b0, b1⟩ := blk2 hBb4
  go_wp2_with fail
  refine (mod_any k 1000 _ (by omega) (by omega)).mono ?_
  rintro e w' ⟨rfl, rfl⟩
  obtain ⟨m, em⟩ : ∃ m, modv k 1000 = m := ⟨_, rfl⟩
  rw [em] at hmk ⊢
  clear em
  obtain ⟨x, ex⟩ : ∃ x, a.num.tmod 1000 = x := ⟨_, rfl⟩
  obtain ⟨y, ey⟩ : ∃ y, a.den.tmod 1000 = y := ⟨_, rfl⟩
  have sm1 := small_mul x (m + 1) (by omega) (by omega)
  have sm2 := small_mul (y + 1000) (m + 1) (by omega) (by omega)
  have okc : (⟨x, y + 1000⟩ : Fr).ok := ⟨⟨by show _ ≤ x; omega, by show x ≤ _; omega⟩, by show _ ≤ y + 1000; omega, by show y + 1000 ≤ _; omega⟩
  have okm : (⟨x * (m + 1), (y + 1000) * (m + 1)⟩ : Fr).ok := ⟨⟨by show _ ≤ x * (m + 1); omega, by show x * (m + 1) ≤ _; omega⟩, by show _ ≤ (y + 1000) * (m + 1); omega, by show (y + 1000) * (m + 1) ≤ _; omega⟩
  have C4 := Lib.hid (fun w => compare_any ⟨x, y + 1000⟩ ⟨x * (m + 1), (y + 1000) * (m + 1)⟩ w okc okm)
  rw [fr_mul x (y + 1000) (m + 1) (by omega) (by omega)] at C4
  have C5 := Lib.hid (fun w => compared_any ⟨x, y + 1000⟩ b w okc hb)
  have hx1 : -999 ≤ x ∧ x ≤ 999 := by omega
  have hy1 : -999 ≤ y ∧ y ≤ 999 := by omega
  clear okc okm t1 t2
  have hBc := Blk.new w4 27 #[.int .i64 x, .int .i64 (y + 1000)]
  have hBb5 := hBb4.allocs (.cells #[.int .i64 x, .int .i64 (y + 1000)] 27)
  have hX5 := hX4.allocs (.cells #[.int .i64 x, .int .i64 (y + 1000)] 27)
  go_wp2_with fail
  refine (C4.out _).mono ?_
  rintro e w6 ⟨rfl, hE6⟩
  clear a0 a1 b0 b1
  obtain ⟨c0, c1⟩ := blk2 (hBc.ext hE6)
  obtain ⟨b0, b1⟩ := blk2 (hBb5.ext hE6)
  have hX6 := Ext.trans hX5 hE6
  clear hE6 hBc hBb5 hX5 hX4 hBa4 hBb4 ex ey
  go_wp2_with fail
  refine (C5.out _).mono ?_
  rintro e w7 ⟨rfl, hE7⟩
  go_wp2_with fail
  go_ret
  exact ⟨rfl, Ext.trans hX6 hE7⟩
end Go.Proofs.Ytddcgholnhhcoaa
