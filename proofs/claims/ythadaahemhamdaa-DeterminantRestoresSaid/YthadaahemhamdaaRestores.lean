/- The walk of the law DeterminantRestores. -/
import Derived.Test.YthadaahemhamdaaAwake27t
import Derived.Test.YthadaahemhamdaaScene27
import Derived.Test.YthadaahemhamdaaArgs27
namespace Go.Proofs.Ythadaahemhamdaa
open Go.RowKit
set_option linter.unusedVariables false

set_option maxRecDepth 100000 in
set_option maxHeartbeats 3200000 in
theorem restores_walk (p0 : Int) (a1 : Option Addr) (cap1 : Nat) (es : List Ev) (a2 : Option Addr) (cap2 : Nat) (ck : List Int) (a3 : Option Addr) (cap3 : Nat) (st : List Dt) (a4 : Option Addr) (cap4 : Nat) (bs : List Int) (w : World)
    (hp0 : (Lit.int .i64 p0).wf = true) (h1 : EvSeg w a1 es ∧ es.length ≤ cap1 ∧ cap1 ≤ maxLen ∧ ∀ e ∈ es, e.ok) (h2 : IntSeg w a2 ck ∧ ck.length ≤ cap2 ∧ cap2 ≤ maxLen ∧ ∀ c ∈ ck, InI64 c)
    (h3 : DtSeg w a3 st ∧ st.length ≤ cap3 ∧ cap3 ≤ maxLen ∧ ∀ d ∈ st, d.ok) (h4 : Seg w 1 a4 bs.length (bs.map (Value.int .u8)) ∧ bs.length ≤ cap4 ∧ cap4 ≤ maxLen ∧ ∀ b ∈ bs, 0 ≤ b ∧ b < 256) :
    Calls Try.prog 3 #[.int .i64 p0, .slice a1 es.length cap1, .slice a2 ck.length cap2, .slice a3 st.length cap3, .slice a4 bs.length cap4] w fun e w' => e = .returned (.bool true) ∧ Below w.heap.size w w' := by
  obtain ⟨hs1, hc1, hm1, hok1⟩ := h1
  obtain ⟨hs2, hc2, hm2, hok2⟩ := h2
  obtain ⟨hs3, hc3, hm3, hok3⟩ := h3
  obtain ⟨hs4, hc4, hm4, hok4⟩ := h4
  have hp := inI_of hp0
  have O1 := Lib.hid hok1
  have O2 := Lib.hid hok2
  have O3 := Lib.hid hok3
  have O4 := Lib.hid hok4
  clear hok1 hok2 hok3 hok4 hp0
  by_cases l1 : 40 < es.length
  · unfold maxLen at hm1
    go_enter Try.func3, Try.ntmps3
    go_wp2_with fail
    refine (awake_any w).mono ?_
    rintro e w1 ⟨rfl, hE⟩
    go_wp2_with fail
    go_ret
    exact ⟨rfl, hE⟩
  by_cases l2 : 40 < ck.length
  · unfold maxLen at hm2
    go_enter Try.func3, Try.ntmps3
    go_wp2_with fail
    refine (awake_any w).mono ?_
    rintro e w1 ⟨rfl, hE⟩
    go_wp2_with fail
    go_ret
    exact ⟨rfl, hE⟩
  by_cases l3 : 60 < st.length
  · unfold maxLen at hm3
    go_enter Try.func3, Try.ntmps3
    go_wp2_with fail
    refine (awake_any w).mono ?_
    rintro e w1 ⟨rfl, hE⟩
    go_wp2_with fail
    go_ret
    refine ⟨?_, hE⟩
    have hh : decide ((60 : Int) < (st.length : Int)) = true := by simp; omega
    simp [hh]
  go_enter Try.func3, Try.ntmps3
  go_wp2_with fail
  refine (awake_any w).mono ?_
  rintro e w1 ⟨rfl, hE1⟩
  go_wp2_with fail
  refine (scene_any a4 cap4 bs w1 (hs4.ext hE1) hc4 hm4 O4.out).mono ?_
  rintro e w2 ⟨q, ms, mk, mt, Ae, Ac, As, ce, cc, cs, rfl, k1, k2, k3, hq, _, ok1, ok2, ok3, n1, n2, n3, _, _, hE2⟩
  have P1 := Lib.hid ok1
  have P2 := Lib.hid ok2
  have P3 := Lib.hid ok3
  clear ok1 ok2 ok3
  have hX2 := hE1.trans hE2
  clear hE1 hE2
  go_wp2_with fail
  refine (lineage_sl a1 cap1 p0 es _ (hs1.ext hX2) (by omega)).mono ?_
  rintro e w3 ⟨v3, rfl, r3, hE3⟩
  obtain ⟨A3, c3, rfl, s3, _, _⟩ := own_slice r3
  have hX3 := hX2.trans hE3
  go_wp2_with fail
  refine (lineage_ref a1 cap1 p0 es _ (hs1.ext hX3) (by omega)).mono ?_
  rintro e w4 ⟨v4, rfl, r4, hE4⟩
  obtain ⟨A4, c4, rfl, s4, _, _⟩ := own_slice r4
  have hX4 := hX3.trans hE4
  have hl0 : (linV p0 es).length ≤ 1000 := by have : (linV p0 es).length = es.length := lin_len p0 es 0; omega
  go_wp2_with fail
  refine (sameDets A3 A4 c3 c4 (linV p0 es) _ (s3.ext hE4) s4 hl0).mono ?_
  rintro e w5 ⟨rfl, n5, rfl⟩
  have hE25 : Ext w2 (w4.drewN n5) := (hE3.trans hE4).drewN n5
  have hX5 := hX4.drewN n5
  obtain ⟨W5, hW5⟩ : ∃ W, w4.drewN n5 = W := ⟨_, rfl⟩
  rw [hW5] at hE25 hX5 ⊢
  clear hW5 s3 s4 r3 r4 hE3 hE4 hX3 hX4 hl0
  go_wp2_with fail
  refine (lineage_sl Ae ce q ms _ (k1.ext hE25) (by omega)).mono ?_
  rintro e w6 ⟨v6, rfl, r6, hE6⟩
  obtain ⟨A6, c6, rfl, s6, _, _⟩ := own_slice r6
  have hE26 := hE25.trans hE6
  go_wp2_with fail
  refine (lineage_ref Ae ce q ms _ (k1.ext hE26) (by omega)).mono ?_
  rintro e w7 ⟨v7, rfl, r7, hE7⟩
  obtain ⟨A7, c7, rfl, s7, _, _⟩ := own_slice r7
  have hl1 : (linV q ms).length ≤ 1000 := by have : (linV q ms).length = ms.length := lin_len q ms 0; omega
  go_wp2_with fail
  refine (sameDets A6 A7 c6 c7 (linV q ms) _ (s6.ext hE7) s7 hl1).mono ?_
  rintro e w8 ⟨rfl, n8, rfl⟩
  have hE28 : Ext w2 (w7.drewN n8) := (hE26.trans hE7).drewN n8
  have hX8 := hX2.trans hE28
  obtain ⟨W8, hW8⟩ : ∃ W, w7.drewN n8 = W := ⟨_, rfl⟩
  rw [hW8] at hE28 hX8 ⊢
  clear hW8 s6 s7 r6 r7 hE6 hE7 hE26 hl1 hE25 hX5
  go_wp2_with fail
  refine (rest_sl a1 a2 a3 cap1 cap2 cap3 p0 es ck st _ (hs1.ext hX8) (hs2.ext hX8) (hs3.ext hX8) hp O1.out O2.out O3.out (by omega) (by omega) (by omega)).mono ?_
  rintro e w9 ⟨v9, rfl, r9, hE9⟩
  obtain ⟨A9, c9, rfl, s9, _, _⟩ := own_slice r9
  have hX9 := hX8.trans hE9
  go_wp2_with fail
  refine (rest_ref a1 a2 a3 cap1 cap2 cap3 p0 es ck st _ (hs1.ext hX9) (hs2.ext hX9) (hs3.ext hX9) (by omega) (by omega) (by omega)).mono ?_
  rintro e w10 ⟨v10, rfl, r10, hE10⟩
  obtain ⟨A10, c10, rfl, s10, _, _⟩ := own_slice r10
  have hl2 : (restV p0 es ck st).length ≤ 1000 := by have := restTo_len ck st (linV p0 es) (es.length + 1); unfold restV; omega
  go_wp2_with fail
  refine (sameInts A9 A10 c9 c10 (restV p0 es ck st) _ (s9.ext hE10) s10 hl2).mono ?_
  rintro e w11 ⟨rfl, n11, rfl⟩
  have hE211 : Ext w2 (w10.drewN n11) := ((hE28.trans hE9).trans hE10).drewN n11
  obtain ⟨W11, hW11⟩ : ∃ W, w10.drewN n11 = W := ⟨_, rfl⟩
  rw [hW11] at hE211 ⊢
  clear hW11 s9 s10 r9 r10 hE9 hE10 hX8 hX9 hl2 hE28
  go_wp2_with fail
  refine (rest_sl Ae Ac As ce cc cs q ms mk mt _ (k1.ext hE211) (k2.ext hE211) (k3.ext hE211) hq P1.out P2.out P3.out (by omega) (by omega) (by omega)).mono ?_
  rintro e w12 ⟨v12, rfl, r12, hE12⟩
  obtain ⟨A12, c12, rfl, s12, _, _⟩ := own_slice r12
  have hE212 := hE211.trans hE12
  go_wp2_with fail
  refine (rest_ref Ae Ac As ce cc cs q ms mk mt _ (k1.ext hE212) (k2.ext hE212) (k3.ext hE212) (by omega) (by omega) (by omega)).mono ?_
  rintro e w13 ⟨v13, rfl, r13, hE13⟩
  obtain ⟨A13, c13, rfl, s13, _, _⟩ := own_slice r13
  have hl3 : (restV q ms mk mt).length ≤ 1000 := by have := restTo_len mk mt (linV q ms) (ms.length + 1); unfold restV; omega
  go_wp2_with fail
  refine (sameInts A12 A13 c12 c13 (restV q ms mk mt) _ (s12.ext hE13) s13 hl3).mono ?_
  rintro e w14 ⟨rfl, n14, rfl⟩
  have hX14 := (hX2.trans (hE212.trans hE13)).drewN n14
  clear s12 s13 r12 r13
  go_wp2_with fail
  go_ret
  exact ⟨rfl, hX14⟩
end Go.Proofs.Ythadaahemhamdaa
