/- The walk of the law SenderlogRaises. -/
import Derived.Test.YtooegndajfopkaaNexts
namespace Go.Proofs.Ytooegndajfopkaa
open Go.RowKit
set_option linter.unusedVariables false

set_option maxHeartbeats 1600000 in
theorem raises_walk (a0 : Option Addr) (cap0 : Nat) (es : List Ev) (k : Int) (a2 : Option Addr) (cap2 : Nat) (bs : List Int) (w : World)
    (h0 : EvSeg w a0 es ∧ es.length ≤ cap0 ∧ cap0 ≤ maxLen) (hk : (Lit.int .i64 k).wf = true) (h2 : Seg w 1 a2 bs.length (bs.map (Value.int .u8)) ∧ bs.length ≤ cap2 ∧ cap2 ≤ maxLen ∧ ∀ b ∈ bs, 0 ≤ b ∧ b < 256) :
    Calls Try.prog 5 #[.slice a0 es.length cap0, .int .i64 k, .slice a2 bs.length cap2] w fun e w' => e = .returned (.bool true) ∧ Below w.heap.size w w' := by
  obtain ⟨hs, hc1, hc2⟩ := h0
  obtain ⟨hb, hb1, hb2, hb3⟩ := h2
  have HB3 := Lib.hid hb3
  clear hb3 hk
  by_cases h80 : 80 < es.length
  · unfold maxLen at hc2
    go_enter Try.func5, Try.ntmps5
    go_wp2_with fail
    refine (awake_any w).mono ?_
    rintro e w1 ⟨rfl, hE⟩
    go_wp2_with fail
    go_ret
    exact ⟨rfl, hE⟩
  · go_enter Try.func5, Try.ntmps5
    go_wp2_with fail
    refine (awake_any w).mono ?_
    rintro e w1 ⟨rfl, hE⟩
    go_wp2_with fail
    refine (new_any a2 cap2 bs 100 w1 (hb.ext hE) hb1 hb2 (by omega) HB3.out).mono ?_
    rintro e w2 ⟨rfl, hC, hE2⟩
    go_wp2_with fail
    refine (events_any w1.heap.size _ 0 w2 hC 8 (by omega)).mono ?_
    rintro e w3 ⟨v, l, rfl, hown, hl, hmade, hD⟩
    obtain ⟨A, c, rfl, hsl, hlc, hcm⟩ := own_slice hown
    have hX := drew_ext hD (hE.trans hE2) hE.size
    have hs3 := hs.ext hX
    go_wp2_with fail
    refine (raise_sl a0 cap0 es k w3 hs3 (by omega)).mono ?_
    rintro e w4 ⟨rfl, rfl⟩
    go_wp2_with fail
    refine (raise_ref a0 cap0 es k w3 hs3 (by omega)).mono ?_
    rintro e w4 ⟨rfl, rfl⟩
    generalize raiseV es k = x1
    go_wp2_with fail
    refine (raise_sl a0 cap0 es _ w3 hs3 (by omega)).mono ?_
    rintro e w4 ⟨rfl, rfl⟩
    go_wp2_with fail
    refine (raise_ref a0 cap0 es _ w3 hs3 (by omega)).mono ?_
    rintro e w4 ⟨rfl, rfl⟩
    generalize raiseV es _ = x2
    go_wp2_with fail
    refine (raise_sl A c l _ w3 hsl (by omega)).mono ?_
    rintro e w4 ⟨rfl, rfl⟩
    go_wp2_with fail
    refine (raise_ref A c l _ w3 hsl (by omega)).mono ?_
    rintro e w4 ⟨rfl, rfl⟩
    generalize raiseV l _ = x3
    go_wp2_with fail
    go_ret
    exact ⟨rfl, hX⟩
end Go.Proofs.Ytooegndajfopkaa
