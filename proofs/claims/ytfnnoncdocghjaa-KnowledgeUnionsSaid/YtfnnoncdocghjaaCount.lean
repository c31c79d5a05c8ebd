/- Count of the code and of the reference. No statement of the seat is proved here. -/
import Derived.Test.YtfnnoncdocghjaaBase3
import Derived.Test.YtfnnoncdocghjaaChecked
import Derived.Test.YtfnnoncdocghjaaCntPlain
namespace Go.Proofs.Ytfnnoncdocghjaa
open Go.RowKit
set_option linter.unusedVariables false

def CnRel (ch : Nat) (w : World) (g : Nat) (hv nv : Value) (wr : World) : Prop :=
  ∃ (x : Int) (n : Nat), hv = .int .u32 x ∧ nv = .int .i64 n ∧ Hid (g = cnt x) ∧ 0 ≤ x ∧ x < 4294967296 ∧ wr = w ∧ Hid (n + cnt x = ch)
set_option maxHeartbeats 800000 in
theorem count_any (h : Int) (w : World) (h0 : 0 ≤ h) (h1 : h < 4294967296) : Calls Try.prog 13 #[.int .u32 h] w fun e w' => e = .returned (.int .i64 (cnt h)) ∧ w = w' := by
  go_enter Try.func13, Try.ntmps13
  have hch32 := cnt_le h
  obtain ⟨ch, hch⟩ : ∃ ch, cnt h = ch := ⟨_, rfl⟩
  rw [hch] at hch32 ⊢
  have hs : Hid (0 + cnt h = ch) := by show 0 + cnt h = ch; rw [hch]; exact Nat.zero_add ch
  go_wp2_with fail
  go_loopg [0, 3] ch (fun g hv nv wr => CnRel ch w g hv nv wr)
  case atStart => exact ⟨h, 0, rfl, rfl, Lib.hid hch.symm, h0, h1, rfl, hs⟩
  case round =>
    obtain ⟨x, n, rfl, rfl, HG, hx0, hx1, rfl, HN⟩ := hrel
    by_cases hz : x = 0
    · subst hz
      have hn : (n : Int) = (ch : Int) := by
        have := HN.out
        have e := cnt_zero
        rw [e] at this
        omega
      go_wp2_with fail
      go_ret
      exact ⟨ret_int hn, rfl⟩
    · have hne : (x != 0) = true := by simp [hz]
      have hw : IntKind.u32.wrap (x - 1) = x - 1 := wraps_u32' _ (by omega) (by omega)
      have hd := cnt_drop (x := x) (by omega) hx1
      have hb := (bits_u32 (x := x) (y := x - 1) hx0 hx1 (by omega) (by omega)).1.2
      have hn := HN.out
      have HD := Lib.hid hd
      have HB := Lib.hid hb
      clear hd hb hn
      obtain ⟨z, hzz⟩ : ∃ z, bits .and .u32 x (x - 1) = z := ⟨_, rfl⟩
      rw [hzz] at HD HB
      have hn32 : n ≤ 32 := by have h2 := HN.out; generalize cnt x = cx at *; omega
      go_wp2_with fail
      go_roundg (cnt z)
      case measure => have h2 := HD.out; have h3 := HG.out; generalize cnt z = cz at *; generalize cnt x = cx at *; omega
      case rel => exact ⟨z, n + 1, rfl, by go_num, Lib.hid rfl, HB.out.1, HB.out.2, rfl, Lib.hid (by have h1 := HN.out; have h2 := HD.out; generalize cnt z = cz at *; generalize cnt x = cx at *; omega)⟩
def CrRel (h : Int) (w : World) (g : Nat) (nv iv : Value) (wr : World) : Prop :=
  ∃ i n : Nat, i ≤ 32 ∧ nv = .int .i64 n ∧ iv = .int .i64 i ∧ g = 32 - i ∧ wr = w ∧ Hid (n = popI i h.toNat)
set_option maxHeartbeats 800000 in
theorem count_ref (h : Int) (w : World) (h0 : 0 ≤ h) (h1 : h < 4294967296) : Calls Try.prog 14 #[.int .u32 h] w fun e w' => e = .returned (.int .i64 (cnt h)) ∧ w = w' := by
  go_enter Try.func14, Try.ntmps14
  go_wp2_with fail
  go_loopg [3, 4] 32 (fun g nv iv wr => CrRel h w g nv iv wr)
  case atStart => exact ⟨0, 0, Nat.zero_le _, rfl, rfl, rfl, rfl, (rfl : 0 = popI 0 h.toNat)⟩
  case round =>
    obtain ⟨i, n, hi, rfl, rfl, rfl, rfl, HN⟩ := hrel
    have hn32 : n ≤ 32 := by have := popI_le i h.toNat; have := HN.out; omega
    by_cases hlt : i < 32
    · have hi0 : (0 : Int) ≤ (i : Int) := by omega
      have hi1 : (i : Int) < 32 := by omega
      have HL := Lib.hid (popI_last i h.toNat)
      obtain ⟨b, hb⟩ : ∃ b, (bits .and .u32 (h / 2 ^ i) 1 == 1) = b := ⟨_, rfl⟩
      have HB : Hid (h.toNat / 2 ^ i % 2 = if b then 1 else 0) := by
        have hle : h.toNat / 2 ^ i ≤ h.toNat := Nat.div_le_self _ _
        have e : h / 2 ^ i = ((h.toNat / 2 ^ i : Nat) : Int) := by
          rw [Int.natCast_ediv, Int.natCast_pow, show ((h.toNat : Nat) : Int) = h by omega]
          rfl
        show h.toNat / 2 ^ i % 2 = _
        obtain ⟨dq, hdq⟩ : ∃ dq, h.toNat / 2 ^ i = dq := ⟨_, rfl⟩
        rw [hdq] at e hle ⊢
        have h2 := bits_mask .u32 32 (by decide) wraps_u32' 1 (by decide) (dq : Int) (by omega) (by omega)
        rw [show ((2 : Int) ^ 1 - 1) = 1 by decide, show ((2 : Int) ^ 1) = 2 by decide] at h2
        rw [e, h2] at hb
        cases b with
        | false => rw [beq_eq_false_iff_ne] at hb; simp only [Bool.false_eq_true, if_false]; omega
        | true => rw [beq_iff_eq] at hb; simp only [if_true]; omega
      cases b with
      | false =>
        have HN' : Hid (n = popI (i + 1) h.toNat) := by show _ = _; rw [HL.out, HB.out, ← HN.out]; rfl
        go_wp2_with fail
        go_roundg (32 - (i + 1))
        case measure => omega
        case rel => exact ⟨i + 1, n, by omega, rfl, by go_num, rfl, rfl, HN'⟩
      | true =>
        have HN' : Hid (n + 1 = popI (i + 1) h.toNat) := by show _ = _; rw [HL.out, HB.out, ← HN.out]; rfl
        go_wp2_with fail
        go_roundg (32 - (i + 1))
        case measure => omega
        case rel => exact ⟨i + 1, n + 1, by omega, by go_num, by go_num, rfl, rfl, HN'⟩
    · obtain rfl : i = 32 := by omega
      go_wp2_with fail
      go_ret
      exact ⟨ret_int (by rw [HN.out, cnt_def]), rfl⟩
end Go.Proofs.Ytfnnoncdocghjaa
