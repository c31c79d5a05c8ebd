/- Next of the maker with the number that it gives. No statement of the seat is proved here. -/
import Derived.Test.YthadaahemhamdaaCodes
namespace Go.Proofs.Ythadaahemhamdaa
open Go.RowKit
set_option linter.unusedVariables false

/-- the number that Next gives -/
def nextV (bs : List Int) (k : Nat) (n : Int) : Int := if h : k < bs.length then (bs[k] % n) else 0
theorem nextV_bd {bs : List Int} {k : Nat} {n : Int} (hv : ∀ b ∈ bs, 0 ≤ b ∧ b < 256) (hn : 1 ≤ n) : 0 ≤ nextV bs k n ∧ nextV bs k n < n := by
  unfold nextV
  split
  · exact wp_mod _ _ (hv _ (List.getElem_mem _)).1 (by omega)
  · omega
theorem Codes.bytes {w : World} {c : Nat} {bs : List Int} {k : Nat} (h : Codes w c bs k) : ∀ b ∈ bs, 0 ≤ b ∧ b < 256 := by
  obtain ⟨_, _, _, _, _, _, _, hv⟩ := h
  exact hv

set_option maxHeartbeats 800000 in
theorem next_det (c : Nat) (bs : List Int) (k : Nat) (w : World) (h : Codes w c bs k) (n : Int) (h1n : 1 ≤ n) (hn2 : n ≤ 256) :
    Calls Try.prog 31 #[.pointer (some ⟨c, 0, none⟩), .int .i64 n] w (fun e w' => e = .returned (.int .i64 (nextV bs k n)) ∧ Drew c bs k w w') := by
  have hC := Lib.hid h
  obtain ⟨A, cap, hb, hs, ha, hk, hn, hv⟩ := h
  by_cases hlt : k < bs.length
  · obtain ⟨h0, h1, hf⟩ := cells2 hb
    have hd : decide (k < bs.length) = true := by simp [hlt]
    have HD := Lib.hid hd
    obtain ⟨b, off, rfl, hbl, hc⟩ := hs.2 (by omega)
    have hbc : b < c := ha (by omega) _ rfl
    have hce := hc k (.int .u8 bs[k]) (by simp [hlt])
    have hvb := hv bs[k] (List.getElem_mem hlt)
    obtain ⟨hv1, hv2⟩ := hvb
    have HV1 : Hid (nextV bs k n = bs[k] % n) := by unfold Hid nextV; rw [dif_pos hlt]
    have HB := Lib.hid hb
    have HS := Lib.hid hs
    have HA := Lib.hid ha
    have HV := Lib.hid hv
    have HC := Lib.hid hc
    clear hb hv ha hs hc hd
    go_enter Try.func31, Try.ntmps31
    go_wp2_with fail
    refine (left_any c bs k _ hC.out).mono ?_
    rintro e w1 ⟨rfl, a, rfl⟩
    rw [HD.out]
    go_wp2
    go_quiet (fail)
    go_wp2
    go_ret
    refine ⟨?_, codes_grown w c _ a nq, k + 1, ⟨_, cap, codes_set HB.out _ a nq,
      (HS.out.grown (codes_grown w c (.int .i64 ((k : Int) + 1)) a nq) (fun h0 ad hA e => by have := HA.out h0 ad hA; injection e; omega)), HA.out, hlt, hn, HV.out⟩, by omega, fun _ => by omega⟩
    rw [HV1.out]
    rfl
  · have hd : decide (k < bs.length) = false := by simp [hlt]
    have HD := Lib.hid hd
    have HV1 : Hid (nextV bs k n = 0) := by unfold Hid nextV; rw [dif_neg hlt]
    clear hb hv ha hs hd
    go_enter Try.func31, Try.ntmps31
    go_wp2_with fail
    refine (left_any c bs k _ hC.out).mono ?_
    rintro e w1 ⟨rfl, a, rfl⟩
    rw [HD.out]
    go_wp2
    go_ret
    refine ⟨?_, grownBy_ext (Ext.drewn w a), k, hC.out.ext (Ext.drewn w a), Nat.le_refl _, fun h => absurd h hlt⟩
    rw [HV1.out]
    rfl
end Go.Proofs.Ythadaahemhamdaa
