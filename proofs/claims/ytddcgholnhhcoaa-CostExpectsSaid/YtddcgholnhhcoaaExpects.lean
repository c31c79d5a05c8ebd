/- The walk of the law CostExpects. -/
import Derived.Test.YtddcgholnhhcoaaExpected
namespace Go.Proofs.Ytddcgholnhhcoaa
open Go.RowKit
set_option linter.unusedVariables false

set_option maxRecDepth 100000 in
set_option maxHeartbeats 3200000 in
theorem expects_walk (a b c d : Int) (w : World) (ha : (Lit.int .i64 a).wf = true) (hb : (Lit.int .i64 b).wf = true) (hc : (Lit.int .i64 c).wf = true) (hd : (Lit.int .i64 d).wf = true) :
    Calls Try.prog 9 #[.int .i64 a, .int .i64 b, .int .i64 c, .int .i64 d] w fun e w' => e = .returned (.bool true) ∧ Below w.heap.size w w' := by
  clear ha hb hc hd
  have heq := eql_frac
  have m1 := modv_bd a 7 (by omega)
  have m2 := modv_bd b 5 (by omega)
  have m3 := modv_bd d 66 (by omega)
  have m4 := modv_bd c (1 + modv d 66) (by omega)
  go_enter Try.func9, Try.ntmps9
  go_wp2_with fail
  refine (awake_any w).mono ?_
  rintro e w0 ⟨rfl, hX0⟩
  go_wp2_with fail
  refine (expected_any a b c d _).mono ?_
  rintro e w1 ⟨rfl, hE1⟩
  have hX1' := Ext.trans hX0 hE1
  obtain ⟨v1, hv1⟩ : ∃ v, expV a b c d = v := ⟨_, rfl⟩
  rw [hv1]
  have HV1 := Lib.hid hv1
  clear hv1 hE1
  have hB1 := Blk.new w1 27 #[.int .i64 v1.1.num, .int .i64 v1.1.den]
  have hX1 := hX1'.allocs (.cells #[.int .i64 v1.1.num, .int .i64 v1.1.den] 27)
  go_wp2_with fail
  refine (expected_ref a b c d _).mono ?_
  rintro e w2 ⟨rfl, hE2⟩
  have hX2' := Ext.trans hX1 hE2
  replace hB1 := hB1.ext hE2
  obtain ⟨v2, hv2⟩ : ∃ v, expV a b c d = v := ⟨_, rfl⟩
  rw [hv2]
  have HV2 := Lib.hid hv2
  clear hv2 hE2
  obtain rfl : v1 = v2 := HV1.out.symm.trans HV2.out
  have hB2 := Blk.new w2 27 #[.int .i64 v1.1.num, .int .i64 v1.1.den]
  have hX2 := hX2'.allocs (.cells #[.int .i64 v1.1.num, .int .i64 v1.1.den] 27)
  replace hB1 := hB1.allocs (.cells #[.int .i64 v1.1.num, .int .i64 v1.1.den] 27)
  go_wp2_with fail
  refine (mod_any a 7 _ (by omega) (by omega)).mono ?_
  rintro e w' ⟨rfl, rfl⟩
  go_wp2_with fail
  refine (mod_any b 5 _ (by omega) (by omega)).mono ?_
  rintro e w' ⟨rfl, rfl⟩
  go_wp2_with fail
  refine (mod_any d 66 _ (by omega) (by omega)).mono ?_
  rintro e w' ⟨rfl, rfl⟩
  go_wp2_with fail
  refine (mod_any c (1 + modv d 66) _ (by omega) (by omega)).mono ?_
  rintro e w' ⟨rfl, rfl⟩
  go_wp2_with fail
  refine (expected_any (modv a 7) (modv b 5 - 1) (1 + modv c (1 + modv d 66)) (1 + modv d 66) _).mono ?_
  rintro e w3 ⟨rfl, hE3⟩
  have hX3' := Ext.trans hX2 hE3
  replace hB1 := hB1.ext hE3
  replace hB2 := hB2.ext hE3
  obtain ⟨v3, hv3⟩ : ∃ v, expV (modv a 7) (modv b 5 - 1) (1 + modv c (1 + modv d 66)) (1 + modv d 66) = v := ⟨_, rfl⟩
  rw [hv3]
  have HV3 := Lib.hid hv3
  clear hv3 hE3
  have hB3 := Blk.new w3 27 #[.int .i64 v3.1.num, .int .i64 v3.1.den]
  have hX3 := hX3'.allocs (.cells #[.int .i64 v3.1.num, .int .i64 v3.1.den] 27)
  replace hB1 := hB1.allocs (.cells #[.int .i64 v3.1.num, .int .i64 v3.1.den] 27)
  replace hB2 := hB2.allocs (.cells #[.int .i64 v3.1.num, .int .i64 v3.1.den] 27)
  go_wp2_with fail
  refine (expected_ref (modv a 7) (modv b 5 - 1) (1 + modv c (1 + modv d 66)) (1 + modv d 66) _).mono ?_
  rintro e w4 ⟨rfl, hE4⟩
  have hX4' := Ext.trans hX3 hE4
  replace hB1 := hB1.ext hE4
  replace hB2 := hB2.ext hE4
  replace hB3 := hB3.ext hE4
  obtain ⟨v4, hv4⟩ : ∃ v, expV (modv a 7) (modv b 5 - 1) (1 + modv c (1 + modv d 66)) (1 + modv d 66) = v := ⟨_, rfl⟩
  rw [hv4]
  have HV4 := Lib.hid hv4
  clear hv4 hE4
  obtain rfl : v3 = v4 := HV3.out.symm.trans HV4.out
  have hB4 := Blk.new w4 27 #[.int .i64 v3.1.num, .int .i64 v3.1.den]
  have hX4 := hX4'.allocs (.cells #[.int .i64 v3.1.num, .int .i64 v3.1.den] 27)
  replace hB1 := hB1.allocs (.cells #[.int .i64 v3.1.num, .int .i64 v3.1.den] 27)
  replace hB2 := hB2.allocs (.cells #[.int .i64 v3.1.num, .int .i64 v3.1.den] 27)
  replace hB3 := hB3.allocs (.cells #[.int .i64 v3.1.num, .int .i64 v3.1.den] 27)
  obtain ⟨c1, d1⟩ := blk2 hB1
  obtain ⟨c2, d2⟩ := blk2 hB2
  obtain ⟨c3, d3⟩ := blk2 hB3
  obtain ⟨c4, d4⟩ := blk2 hB4
  go_wp2_with fail
  go_ret
  exact ⟨rfl, hX4⟩
end Go.Proofs.Ytddcgholnhhcoaa
