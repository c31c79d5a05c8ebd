/- The walk of the law CostOverheads. -/
import Derived.Test.YtddcgholnhhcoaaIntervals
namespace Go.Proofs.Ytddcgholnhhcoaa
open Go.RowKit
set_option linter.unusedVariables false

theorem eql_frac (w : World) (a b : Int) : (binOp .eql 27 (.agg #[.int .i64 a, .int .i64 b]) (.agg #[.int .i64 a, .int .i64 b])).run Try.prog w = .ok (.bool true) w := by
  simp [binOp, Op.equal, Op.maxDepth, go_sem]
theorem blk2 {w : World} {g : Nat} {t : TypeId} {a b : Value} (h : Blk w g t #[a, b]) : w.cell? ⟨g, 0, none⟩ = some a ∧ w.cell? ⟨g, 1, none⟩ = some b := by simp [h.cell]

set_option maxRecDepth 100000 in
set_option maxHeartbeats 3200000 in
theorem overheads_walk (a b c : Int) (w : World) (ha : (Lit.int .i64 a).wf = true) (hb : (Lit.int .i64 b).wf = true) (hc : (Lit.int .i64 c).wf = true) :
    Calls Try.prog 4 #[.int .i64 a, .int .i64 b, .int .i64 c] w fun e w' => e = .returned (.bool true) ∧ Below w.heap.size w w' := by
  clear ha hb hc
  have heq := eql_frac
  have hm2 := modv_bd a 2 (by omega)
  go_enter Try.func4, Try.ntmps4
  go_wp2_with fail
  refine (awake_any w).mono ?_
  rintro e w0 ⟨rfl, hX0⟩
  go_wp2_with fail
  refine (overhead_any a b c _).mono ?_
  rintro e w1 ⟨rfl, hE1⟩
  have hX1' := Ext.trans hX0 hE1
  obtain ⟨v1, hv1⟩ : ∃ v, ovV a b c = v := ⟨_, rfl⟩
  rw [hv1]
  have HV1 := Lib.hid hv1
  clear hv1 hE1
  have hB1 := Blk.new w1 27 #[.int .i64 v1.1.num, .int .i64 v1.1.den]
  have hX1 := hX1'.allocs (.cells #[.int .i64 v1.1.num, .int .i64 v1.1.den] 27)
  go_wp2_with fail
  refine (overhead_ref a b c _).mono ?_
  rintro e w2 ⟨rfl, hE2⟩
  have hX2' := Ext.trans hX1 hE2
  replace hB1 := hB1.ext hE2
  obtain ⟨v2, hv2⟩ : ∃ v, ovV a b c = v := ⟨_, rfl⟩
  rw [hv2]
  have HV2 := Lib.hid hv2
  clear hv2 hE2
  obtain rfl : v1 = v2 := HV1.out.symm.trans HV2.out
  have hB2 := Blk.new w2 27 #[.int .i64 v1.1.num, .int .i64 v1.1.den]
  have hX2 := hX2'.allocs (.cells #[.int .i64 v1.1.num, .int .i64 v1.1.den] 27)
  replace hB1 := hB1.allocs (.cells #[.int .i64 v1.1.num, .int .i64 v1.1.den] 27)
  go_wp2_with fail
  refine (num_any a _).mono ?_
  rintro e w' ⟨rfl, rfl⟩
  go_wp2_with fail
  refine (num_any b _).mono ?_
  rintro e w' ⟨rfl, rfl⟩
  go_wp2_with fail
  refine (num_any c _).mono ?_
  rintro e w' ⟨rfl, rfl⟩
  go_wp2_with fail
  refine (overhead_any (numV a) (numV b) (numV c) _).mono ?_
  rintro e w3 ⟨rfl, hE3⟩
  have hX3' := Ext.trans hX2 hE3
  replace hB1 := hB1.ext hE3
  replace hB2 := hB2.ext hE3
  obtain ⟨v3, hv3⟩ : ∃ v, ovV (numV a) (numV b) (numV c) = v := ⟨_, rfl⟩
  rw [hv3]
  have HV3 := Lib.hid hv3
  clear hv3 hE3
  have hB3 := Blk.new w3 27 #[.int .i64 v3.1.num, .int .i64 v3.1.den]
  have hX3 := hX3'.allocs (.cells #[.int .i64 v3.1.num, .int .i64 v3.1.den] 27)
  replace hB1 := hB1.allocs (.cells #[.int .i64 v3.1.num, .int .i64 v3.1.den] 27)
  replace hB2 := hB2.allocs (.cells #[.int .i64 v3.1.num, .int .i64 v3.1.den] 27)
  go_wp2_with fail
  refine (num_any a _).mono ?_
  rintro e w' ⟨rfl, rfl⟩
  go_wp2_with fail
  refine (num_any b _).mono ?_
  rintro e w' ⟨rfl, rfl⟩
  go_wp2_with fail
  refine (num_any c _).mono ?_
  rintro e w' ⟨rfl, rfl⟩
  go_wp2_with fail
  refine (overhead_ref (numV a) (numV b) (numV c) _).mono ?_
  rintro e w4 ⟨rfl, hE4⟩
  have hX4' := Ext.trans hX3 hE4
  replace hB1 := hB1.ext hE4
  replace hB2 := hB2.ext hE4
  replace hB3 := hB3.ext hE4
  obtain ⟨v4, hv4⟩ : ∃ v, ovV (numV a) (numV b) (numV c) = v := ⟨_, rfl⟩
  rw [hv4]
  have HV4 := Lib.hid hv4
  clear hv4 hE4
  obtain rfl : v3 = v4 := HV3.out.symm.trans HV4.out
  have hB4 := Blk.new w4 27 #[.int .i64 v3.1.num, .int .i64 v3.1.den]
  have hX4 := hX4'.allocs (.cells #[.int .i64 v3.1.num, .int .i64 v3.1.den] 27)
  replace hB1 := hB1.allocs (.cells #[.int .i64 v3.1.num, .int .i64 v3.1.den] 27)
  replace hB2 := hB2.allocs (.cells #[.int .i64 v3.1.num, .int .i64 v3.1.den] 27)
  replace hB3 := hB3.allocs (.cells #[.int .i64 v3.1.num, .int .i64 v3.1.den] 27)
  go_wp2_with fail
  refine (mod_any a 2 _ (by omega) (by omega)).mono ?_
  rintro e w' ⟨rfl, rfl⟩
  go_wp2_with fail
  refine (num_any b _).mono ?_
  rintro e w' ⟨rfl, rfl⟩
  go_wp2_with fail
  refine (num_any c _).mono ?_
  rintro e w' ⟨rfl, rfl⟩
  go_wp2_with fail
  refine (overhead_any (1048576 + modv a 2) (numV b) (numV c) _).mono ?_
  rintro e w5 ⟨rfl, hE5⟩
  have hX5' := Ext.trans hX4 hE5
  replace hB1 := hB1.ext hE5
  replace hB2 := hB2.ext hE5
  replace hB3 := hB3.ext hE5
  replace hB4 := hB4.ext hE5
  obtain ⟨v5, hv5⟩ : ∃ v, ovV (1048576 + modv a 2) (numV b) (numV c) = v := ⟨_, rfl⟩
  rw [hv5]
  have HV5 := Lib.hid hv5
  clear hv5 hE5
  have hB5 := Blk.new w5 27 #[.int .i64 v5.1.num, .int .i64 v5.1.den]
  have hX5 := hX5'.allocs (.cells #[.int .i64 v5.1.num, .int .i64 v5.1.den] 27)
  replace hB1 := hB1.allocs (.cells #[.int .i64 v5.1.num, .int .i64 v5.1.den] 27)
  replace hB2 := hB2.allocs (.cells #[.int .i64 v5.1.num, .int .i64 v5.1.den] 27)
  replace hB3 := hB3.allocs (.cells #[.int .i64 v5.1.num, .int .i64 v5.1.den] 27)
  replace hB4 := hB4.allocs (.cells #[.int .i64 v5.1.num, .int .i64 v5.1.den] 27)
  go_wp2_with fail
  refine (mod_any a 2 _ (by omega) (by omega)).mono ?_
  rintro e w' ⟨rfl, rfl⟩
  go_wp2_with fail
  refine (num_any b _).mono ?_
  rintro e w' ⟨rfl, rfl⟩
  go_wp2_with fail
  refine (num_any c _).mono ?_
  rintro e w' ⟨rfl, rfl⟩
  go_wp2_with fail
  refine (overhead_ref (1048576 + modv a 2) (numV b) (numV c) _).mono ?_
  rintro e w6 ⟨rfl, hE6⟩
  have hX6' := Ext.trans hX5 hE6
  replace hB1 := hB1.ext hE6
  replace hB2 := hB2.ext hE6
  replace hB3 := hB3.ext hE6
  replace hB4 := hB4.ext hE6
  replace hB5 := hB5.ext hE6
  obtain ⟨v6, hv6⟩ : ∃ v, ovV (1048576 + modv a 2) (numV b) (numV c) = v := ⟨_, rfl⟩
  rw [hv6]
  have HV6 := Lib.hid hv6
  clear hv6 hE6
  obtain rfl : v5 = v6 := HV5.out.symm.trans HV6.out
  have hB6 := Blk.new w6 27 #[.int .i64 v5.1.num, .int .i64 v5.1.den]
  have hX6 := hX6'.allocs (.cells #[.int .i64 v5.1.num, .int .i64 v5.1.den] 27)
  replace hB1 := hB1.allocs (.cells #[.int .i64 v5.1.num, .int .i64 v5.1.den] 27)
  replace hB2 := hB2.allocs (.cells #[.int .i64 v5.1.num, .int .i64 v5.1.den] 27)
  replace hB3 := hB3.allocs (.cells #[.int .i64 v5.1.num, .int .i64 v5.1.den] 27)
  replace hB4 := hB4.allocs (.cells #[.int .i64 v5.1.num, .int .i64 v5.1.den] 27)
  replace hB5 := hB5.allocs (.cells #[.int .i64 v5.1.num, .int .i64 v5.1.den] 27)
  obtain ⟨c1, d1⟩ := blk2 hB1
  obtain ⟨c2, d2⟩ := blk2 hB2
  obtain ⟨c3, d3⟩ := blk2 hB3
  obtain ⟨c4, d4⟩ := blk2 hB4
  obtain ⟨c5, d5⟩ := blk2 hB5
  obtain ⟨c6, d6⟩ := blk2 hB6
  go_wp2_with fail
  go_ret
  exact ⟨rfl, hX6⟩
end Go.Proofs.Ytddcgholnhhcoaa
