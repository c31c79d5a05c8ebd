/- The walk of the law CostSteps. -/
import Derived.Test.YtddcgholnhhcoaaFrac2
namespace Go.Proofs.Ytddcgholnhhcoaa
open Go.RowKit
set_option linter.unusedVariables false

theorem denV_pos {x : Int} (h : 1 ≤ x) : denV x = x := by unfold denV; omega
theorem low_cmp (x y : Int) (hx : 0 ≤ x) (hy : 1 ≤ y) : frV (lowV x y) ⟨x, y⟩ = 0 := by
  obtain ⟨g, hg, e1, e2⟩ := lowV_spec x y (by omega)
  have hd := lowV_den x y (by omega)
  rw [fr_key, cmpI_zero]
  simp only
  rw [denV_pos (show 1 ≤ y from hy), denV_pos (show 1 ≤ (lowV x y).den by omega)]
  generalize lowV x y = l at *
  rw [e1, e2]
  rw [← Int.mul_assoc, Int.mul_comm l.num g]
theorem top_ge (n d : Int) (hn : 1 ≤ n) (hd : n ≤ d) (hd2 : d ≤ 64) : ∀ k : Nat, (k : Int) * (topV n d k).2 ≤ (topV n d k).1
  | 0 => by simp [topV]
  | k + 1 => by
    have ih := top_ge n d hn hd hd2 k
    obtain ⟨⟨a1, a2⟩, b1, b2⟩ := topV_bd n d hn hd hd2 k
    rw [topV]
    simp only
    generalize (topV n d k).1 = x at *
    generalize (topV n d k).2 = y at *
    have e : ((k + 1 : Nat) : Int) * (y * n) = (((k : Int) + 1) * y) * n := by push_cast; rw [Int.mul_assoc]
    rw [e]
    have h1 : ((k : Int) + 1) * y ≤ x + y := by rw [Int.add_mul, Int.one_mul]; omega
    have h2 : 0 ≤ ((k : Int) + 1) * y := Int.mul_nonneg (by omega) (by omega)
    exact Int.mul_le_mul h1 hd (by omega) (by omega)
theorem sum_ge (n d : Int) (hn : 1 ≤ n) (hd : n ≤ d) (hd2 : d ≤ 64) (k : Nat) : 0 ≤ frV (sumV n d k) ⟨k, 1⟩ := by
  obtain ⟨⟨a1, a2⟩, b1, b2⟩ := topV_bd n d hn hd hd2 k
  have ht := top_ge n d hn hd hd2 k
  have hs := sumV_bd n d hn hd hd2 k
  obtain ⟨g, hg, e1, e2⟩ := lowV_spec (topV n d k).1 (topV n d k).2 (by omega)
  have s1 : (topV n d k).1 = g * (sumV n d k).num := e1
  have s2 : (topV n d k).2 = g * (sumV n d k).den := e2
  rw [fr_key]
  simp only
  rw [denV_pos (show (1 : Int) ≤ 1 by omega), denV_pos (show 1 ≤ (sumV n d k).den from hs.2.1), Int.mul_one]
  generalize sumV n d k = s at *
  rw [s1, s2, ← Int.mul_assoc, Int.mul_comm (k : Int) g, Int.mul_assoc] at ht
  have : (k : Int) * s.den ≤ s.num := Int.le_of_mul_le_mul_left ht hg
  unfold cmpI
  rw [if_neg (by omega)]
  split <;> omega
theorem neq_frac (w : World) (a b : Int) : (binOp .neq 27 (.agg #[.int .i64 a, .int .i64 b]) (.agg #[.int .i64 a, .int .i64 b])).run Try.prog w = .ok (.bool false) w := by
  simp [binOp, Op.equal, Op.maxDepth, go_sem]

set_option maxRecDepth 100000 in
set_option maxHeartbeats 3200000 in
theorem steps_walk (x y z : Int) (w : World) (ha : (Lit.int .i64 x).wf = true) (hb : (Lit.int .i64 y).wf = true) (hc : (Lit.int .i64 z).wf = true) :
    Calls Try.prog 12 #[.int .i64 x, .int .i64 y, .int .i64 z] w fun e w' => e = .returned (.bool true) ∧ Below w.heap.size w w' := by
  clear ha hb hc
  have heq := neq_frac
  have m1 := modv_bd x 8 (by omega)
  have m2 := modv_bd z 64 (by omega)
  have m3 := modv_bd y (1 + modv z 64) (by omega)
  go_enter Try.func12, Try.ntmps12
  go_wp2_with fail
  refine (awake_any w).mono ?_
  rintro e w0 ⟨rfl, hX0⟩
  go_wp2_with fail
  refine (mod_any x 8 _ (by omega) (by omega)).mono ?_
  rintro e w' ⟨rfl, rfl⟩
  go_wp2_with fail
  refine (mod_any z 64 _ (by omega) (by omega)).mono ?_
  rintro e w' ⟨rfl, rfl⟩
  go_wp2_with fail
  refine (mod_any y (1 + modv z 64) _ (by omega) (by omega)).mono ?_
  rintro e w' ⟨rfl, rfl⟩
  obtain ⟨k, hk⟩ : ∃ k : Nat, modv x 8 = k := ⟨(modv x 8).toNat, by omega⟩
  rw [hk] at m1 ⊢
  clear hk
  obtain ⟨n, hn⟩ : ∃ n, 1 + modv y (1 + modv z 64) = n := ⟨_, rfl⟩
  obtain ⟨d, hd⟩ : ∃ d, 1 + modv z 64 = d := ⟨_, rfl⟩
  have n1 : 1 ≤ n := by omega
  have n2 : n ≤ d := by omega
  have n3 : d ≤ 64 := by omega
  have hk7 : k ≤ 7 := by omega
  have HN := Lib.hid hn
  have HD := Lib.hid hd
  clear hn
  rw [hd] at HN
  clear hd
  go_wp2_with fail
  rw [HD.out, HN.out]
  clear m2 m3
  have E1 := Lib.hid (exp_good (l := (k : Int)) (c := 0) (n := n) (d := d) (by unfold expBad; omega) (k := k) (by omega))
  have E2 := Lib.hid (exp_good (l := (k : Int) + 1) (c := 0) (n := n) (d := d) (by unfold expBad; omega) (k := k + 1) (by omega))
  have E3 := Lib.hid (exp_good (l := (k : Int) / 2) (c := (k : Int) + 1 - (k : Int) / 2) (n := n) (d := d) (by unfold expBad; omega) (k := k + 1) (by omega))
  have hsa := sumV_bd n d n1 n2 n3 k
  have hsb := sumV_bd n d n1 n2 n3 (k + 1)
  have hu1 := uB_le k hk7
  have hu2 := uB_le8 (k + 1) (by omega)
  have hst := step_bd (sumV n d k).num (sumV n d k).den d n (uB k) hsa.1 hsa.2 hu1 n1 n2 n3
  have hc1 : frV (sumV n d (k + 1)) ⟨((sumV n d k).num + (sumV n d k).den) * d, (sumV n d k).den * n⟩ = 0 := by
    rw [sumV_step n d n1 n2 n3 k]
    exact low_cmp _ _ hst.1.1 hst.2.1
  have hc2 := sum_ge n d n1 n2 n3 (k + 1)
  refine (expected_any (k : Int) 0 n d _).mono ?_
  rintro e w1 ⟨rfl, hE1⟩
  rw [E1.out]
  generalize sumV n d k = A at *
  generalize sumV n d (k + 1) = B at *
  have okB : B.ok := ⟨⟨by omega, by omega⟩, by omega, by omega⟩
  have okF : (⟨(A.num + A.den) * d, A.den * n⟩ : Fr).ok := ⟨⟨by show _ ≤ (A.num + A.den) * d; omega, by show (A.num + A.den) * d ≤ _; omega⟩, by show _ ≤ A.den * n; omega, by show A.den * n ≤ _; omega⟩
  have okK : (⟨((k + 1 : Nat) : Int), 1⟩ : Fr).ok := ⟨⟨by show _ ≤ ((k + 1 : Nat) : Int); omega, by show ((k + 1 : Nat) : Int) ≤ _; omega⟩, by show _ ≤ (1 : Int); omega, by show (1 : Int) ≤ _; omega⟩
  have C1 := Lib.hid (fun w => compare_any B ⟨(A.num + A.den) * d, A.den * n⟩ w okB okF)
  have C2 := Lib.hid (fun w => compare_any B ⟨((k + 1 : Nat) : Int), 1⟩ w okB okK)
  rw [hc1] at C1
  have a1 : A.num ≤ 562949953421312 := by omega
  have a2 : A.den ≤ 562949953421312 := by omega
  have a3 : 0 ≤ A.num := by omega
  have a4 : 1 ≤ A.den := by omega
  generalize frV B ⟨((k + 1 : Nat) : Int), 1⟩ = r2 at *
  clear hc1 okB okF okK hsa hsb hu1 hu2 E1
  have hX1' := Ext.trans hX0 hE1
  have hB1 := Blk.new w1 27 #[.int .i64 A.num, .int .i64 A.den]
  have hX1 := hX1'.allocs (.cells #[.int .i64 A.num, .int .i64 A.den] 27)
  go_wp2_with fail
  refine (expected_any ((k : Int) + 1) 0 n d _).mono ?_
  rintro e w2 ⟨rfl, hE2⟩
  rw [E2.out]
  clear E2
  have hX2' := Ext.trans hX1 hE2
  replace hB1 := (hB1.ext hE2).allocs (.cells #[.int .i64 B.num, .int .i64 B.den] 27)
  have hB2 := Blk.new w2 27 #[.int .i64 B.num, .int .i64 B.den]
  have hX2 := hX2'.allocs (.cells #[.int .i64 B.num, .int .i64 B.den] 27)
  go_wp2_with fail
  refine (expected_any ((k : Int) / 2) ((k : Int) + 1 - (k : Int) / 2) n d _).mono ?_
  rintro e w3 ⟨rfl, hE3⟩
  rw [E3.out]
  clear E3
  have hX3' := Ext.trans hX2 hE3
  replace hB1 := (hB1.ext hE3).allocs (.cells #[.int .i64 B.num, .int .i64 B.den] 27)
  replace hB2 := (hB2.ext hE3).allocs (.cells #[.int .i64 B.num, .int .i64 B.den] 27)
  have hB3 := Blk.new w3 27 #[.int .i64 B.num, .int .i64 B.den]
  have hX3 := hX3'.allocs (.cells #[.int .i64 B.num, .int .i64 B.den] 27)
  obtain ⟨c10, c11⟩ := blk2 hB1
  obtain ⟨c20, c21⟩ := blk2 hB2
  obtain ⟨c30, c31⟩ := blk2 hB3
  go_wp2_with fail
  refine (C1.out _).mono ?_
  rintro e w4 ⟨rfl, hE4⟩
  clear c10 c11 c20 c21 c30 c31
  obtain ⟨c20, c21⟩ := blk2 (hB2.ext hE4)
  rw [show ((k + 1 : Nat) : Int) = (k : Int) + 1 by omega] at C2
  go_wp2_with fail
  refine (C2.out _).mono ?_
  rintro e w5 ⟨rfl, hE5⟩
  go_wp2_with fail
  go_ret
  exact ⟨rfl, Ext.trans hX3 (Ext.trans hE4 hE5)⟩
end Go.Proofs.Ytddcgholnhhcoaa
