/- The walk of the law SenderlogNexts. -/
import Derived.Test.YtooegndajfopkaaSender
namespace Go.Proofs.Ytooegndajfopkaa
open Go.RowKit
set_option linter.unusedVariables false

/-- what a call of a law comes to -/
def True_ (w : World) (e : Ending) (w' : World) : Prop := e = .returned (.bool true) ∧ Below w.heap.size w w'
theorem drew_ext {c : Nat} {bs : List Int} {k : Nat} {w w1 w' : World} (h : Drew c bs k w1 w') (hE : Ext w w1) (hc : w.heap.size ≤ c) : Ext w w' :=
  ⟨h.1.os.trans hE.os, h.1.tape.trans hE.tape, h.1.output.trans hE.output, Nat.le_trans hE.size h.1.size, fun j hj => (h.1.block j (Nat.lt_of_lt_of_le hj hE.size) (fun e => by injection e; omega)).trans (hE.block j hj)⟩

set_option maxHeartbeats 1600000 in
theorem nexts_walk (a0 : Option Addr) (cap0 : Nat) (es : List Ev) (k : Int) (a2 : Option Addr) (cap2 : Nat) (bs : List Int) (w : World)
    (h0 : EvSeg w a0 es ∧ es.length ≤ cap0 ∧ cap0 ≤ maxLen) (hk : (Lit.int .i64 k).wf = true) (h2 : Seg w 1 a2 bs.length (bs.map (Value.int .u8)) ∧ bs.length ≤ cap2 ∧ cap2 ≤ maxLen ∧ ∀ b ∈ bs, 0 ≤ b ∧ b < 256) :
    Calls Try.prog 3 #[.slice a0 es.length cap0, .int .i64 k, .slice a2 bs.length cap2] w fun e w' => e = .returned (.bool true) ∧ Below w.heap.size w w' := by
  obtain ⟨hs, hc1, hc2⟩ := h0
  obtain ⟨hb, hb1, hb2, hb3⟩ := h2
  have HB3 := Lib.hid hb3
  clear hb3 hk
  by_cases h80 : 80 < es.length
  · unfold maxLen at hc2
    go_enter Try.func3, Try.ntmps3
    go_wp2_with fail
    refine (awake_any w).mono ?_
    rintro e w1 ⟨rfl, hE⟩
    go_wp2_with fail
    go_ret
    exact ⟨rfl, hE⟩
  · go_enter Try.func3, Try.ntmps3
    go_wp2_with fail
    refine (awake_any w).mono ?_
    rintro e w1 ⟨rfl, hE⟩
    go_wp2_with fail
    refine (new_any a2 cap2 bs 100 w1 (hb.ext hE) hb1 hb2 (by omega) HB3.out).mono ?_
    rintro e w2 ⟨rfl, hC, hE2⟩
    go_wp2_with fail
    refine (events_any w1.heap.size _ 0 w2 hC 14 (by omega)).mono ?_
    rintro e w3 ⟨v, l, rfl, hown, hl, hmade, hD⟩
    obtain ⟨A, c, rfl, hsl, hlc, hcm⟩ := own_slice hown
    have hX := drew_ext hD (hE.trans hE2) hE.size
    have hs3 := hs.ext hX
    go_wp2_with fail
    refine (mod_any k _ w3 (by omega) (by omega)).mono ?_
    rintro e w4 ⟨rfl, rfl⟩
    have hm := modv_bd k ((l.length : Int) + 3) (by omega)
    generalize modv k ((l.length : Int) + 3) = m at *
    obtain ⟨hm1, hm2⟩ := hm
    go_wp2_with fail
    refine (next_sl a0 cap0 es k w3 hs3 (by omega)).mono ?_
    rintro e w4 ⟨rfl, rfl⟩
    go_wp2_with fail
    refine (next_ref a0 cap0 es k w3 hs3 (by omega)).mono ?_
    rintro e w4 ⟨rfl, rfl⟩
    generalize nextV es k = x1
    go_wp2_with fail
    refine (next_sl A c l (m - 1) w3 hsl (by omega)).mono ?_
    rintro e w4 ⟨rfl, rfl⟩
    go_wp2_with fail
    refine (next_ref A c l (m - 1) w3 hsl (by omega)).mono ?_
    rintro e w4 ⟨rfl, rfl⟩
    generalize nextV l (m - 1) = x2
    go_wp2_with fail
    refine (confirm_sl a0 cap0 es k w3 hs3 (by omega)).mono ?_
    rintro e w4 ⟨rfl, rfl⟩
    go_wp2_with fail
    refine (confirm_ref a0 cap0 es k w3 hs3 (by omega)).mono ?_
    rintro e w4 ⟨rfl, rfl⟩
    generalize confirmV es k = x3
    go_wp2_with fail
    refine (confirm_sl A c l (m - 1) w3 hsl (by omega)).mono ?_
    rintro e w4 ⟨rfl, rfl⟩
    go_wp2_with fail
    refine (confirm_ref A c l (m - 1) w3 hsl (by omega)).mono ?_
    rintro e w4 ⟨rfl, rfl⟩
    generalize confirmV l (m - 1) = x4
    go_wp2_with fail
    go_ret
    exact ⟨rfl, hX⟩
end Go.Proofs.Ytooegndajfopkaa
