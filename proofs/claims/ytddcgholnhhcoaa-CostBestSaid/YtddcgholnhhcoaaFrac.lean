/- Chapter 38: the order of fractions. No statement of the seat is proved here. -/
import Derived.Test.YtddcgholnhhcoaaExpected
import Derived.Shelf.Bits.Mul64
namespace Go.Proofs.Ytddcgholnhhcoaa
open Go.RowKit
set_option linter.unusedVariables false

set_option maxHeartbeats 1000000 in
theorem mul64_any (x y : Nat) (hx : x < 18446744073709551616) (hy : y < 18446744073709551616) (w : World) :
    Calls Try.prog 59 #[.int .u64 x, .int .u64 y] w fun e w' => e = .returned (.tuple #[.int .u64 ((x * y / 18446744073709551616 : Nat) : Int), .int .u64 ((x * y % 18446744073709551616 : Nat) : Int)]) ∧ w = w' := by
  obtain ⟨bd, bt, bw, hhi⟩ := Lib.mul64_hi x y hx hy
  have ba := Lib.half_mul_le (a := x / 4294967296) (b := y / 4294967296) (by omega) (by omega)
  have bb := Lib.half_mul_le (a := x / 4294967296) (b := y % 4294967296) (by omega) (by omega)
  have bc := Lib.half_mul_le (a := x % 4294967296) (b := y / 4294967296) (by omega) (by omega)
  have ba' : x / 4294967296 * (y / 4294967296) < 18446744073709551616 := by omega
  have bb' : x / 4294967296 * (y % 4294967296) < 18446744073709551616 := by omega
  have bc' : x % 4294967296 * (y / 4294967296) < 18446744073709551616 := by omega
  have bh1 : x / 4294967296 * (y / 4294967296) + (x / 4294967296 * (y % 4294967296) + x % 4294967296 * (y % 4294967296) / 4294967296) / 4294967296 < 18446744073709551616 := by omega
  have bh : x / 4294967296 * (y / 4294967296) + (x / 4294967296 * (y % 4294967296) + x % 4294967296 * (y % 4294967296) / 4294967296) / 4294967296 + ((x / 4294967296 * (y % 4294967296) + x % 4294967296 * (y % 4294967296) / 4294967296) % 4294967296 + x % 4294967296 * (y / 4294967296)) / 4294967296 < 18446744073709551616 := by omega
  go_enter Try.func59, Try.ntmps59
  go_wp2
  simp only [Mul64.maskN x hx, Mul64.maskN y hy, Mul64.divN, Mul64.mulN, Mul64.addN, Mul64.wrapN _ bd, Mul64.wrapN _ bb', Mul64.wrapN _ bt, Mul64.maskN _ bt, Mul64.wrapN _ bc', Mul64.wrapN _ bw, Mul64.wrapN _ ba', Mul64.wrapN _ bh1, Mul64.wrapN _ bh, Mul64.wrapM (x * y)]
  rw [hhi]
  go_ret2
  exact ⟨rfl, rfl⟩

def hiV (a b : Int) : Int := ((a.natAbs * b.natAbs / 18446744073709551616 : Nat) : Int)
def loV (a b : Int) : Int := ((a.natAbs * b.natAbs % 18446744073709551616 : Nat) : Int)
theorem neg_wrap (a : Int) (h : a < 0) (h2 : -9223372036854775808 ≤ a) : IntKind.u64.wrap (-IntKind.u64.wrap a) = ((a.natAbs : Nat) : Int) := by
  rw [IntKind.wrap_u64, IntKind.wrap_u64]; omega
theorem mulN_any (u v : Int) (x y : Nat) (hu : u = x) (hv : v = y) (hx : x < 18446744073709551616) (hy : y < 18446744073709551616) (w : World) :
    Calls Try.prog 59 #[.int .u64 u, .int .u64 v] w fun e w' => e = .returned (.tuple #[.int .u64 ((x * y / 18446744073709551616 : Nat) : Int), .int .u64 ((x * y % 18446744073709551616 : Nat) : Int)]) ∧ w = w' := by
  subst hu hv; exact mul64_any x y hx hy w

set_option maxHeartbeats 1000000 in
theorem product_any (a b : Int) (ha : -9223372036854775808 ≤ a ∧ a ≤ 9223372036854775807) (hb : 1 ≤ b ∧ b ≤ 9223372036854775807) (w : World) :
    Calls Try.prog 49 #[.int .i64 a, .int .i64 b] w (ExtPost w (.agg #[.int .u64 (hiV a b), .int .u64 (loV a b)])) := by
  have HM := Lib.hid (fun (u v : Int) => mulN_any u v a.natAbs b.natAbs)
  have HH : Hid (((a.natAbs * b.natAbs / 18446744073709551616 : Nat) : Int) = hiV a b) := rfl
  have HL : Hid (((a.natAbs * b.natAbs % 18446744073709551616 : Nat) : Int) = loV a b) := rfl
  by_cases h0 : a < 0
  · have HN := Lib.hid (neg_wrap a h0 ha.1)
    go_enter Try.func49, Try.ntmps49
    go_wp2_with fail
    refine (HM.out _ _ HN.out (by omega) (by omega) (by omega) _).mono ?_
    rintro e w1 ⟨rfl, rfl⟩
    rw [HH.out, HL.out]
    generalize hiV a b = hh at *
    generalize loV a b = ll at *
    go_wp2_with fail
    refine bodyPost_ret (v := .agg #[.int .u64 hh, .int .u64 ll]) (by simp [results, Try.results49, go_sem]) rfl ?_
    exact ⟨rfl, (Ext.refl w).allocs _⟩
  · go_enter Try.func49, Try.ntmps49
    go_wp2_with fail
    refine (HM.out _ _ (by omega) (by omega) (by omega) (by omega) _).mono ?_
    rintro e w1 ⟨rfl, rfl⟩
    rw [HH.out, HL.out]
    generalize hiV a b = hh at *
    generalize loV a b = ll at *
    go_wp2_with fail
    refine bodyPost_ret (v := .agg #[.int .u64 hh, .int .u64 ll]) (by simp [results, Try.results49, go_sem]) rfl ?_
    exact ⟨rfl, (Ext.refl w).allocs _⟩

theorem hilo_zero (a b : Int) (hb : 1 ≤ b) : (hiV a b = 0 ∧ loV a b = 0) ↔ a = 0 := by
  unfold hiV loV
  constructor
  · rintro ⟨h1, h2⟩
    have h : a.natAbs * b.natAbs = 0 := by omega
    rcases Nat.mul_eq_zero.1 h with h | h <;> omega
  · rintro rfl; simp
theorem hilo_nn (a b : Int) : 0 ≤ hiV a b ∧ 0 ≤ loV a b := by unfold hiV loV; omega
set_option maxHeartbeats 1000000 in
theorem lproduct_any (a b : Int) (ha : -9223372036854775808 ≤ a ∧ a ≤ 9223372036854775807) (hb : 1 ≤ b ∧ b ≤ 9223372036854775807) (w : World) :
    Calls Try.prog 51 #[.int .i64 a, .int .i64 b] w fun e w' => e = .returned (.tuple #[.int .i64 (cmpI a 0), .int .u64 (hiV a b), .int .u64 (loV a b)]) ∧ w = w' := by
  have HM := Lib.hid (fun (u v : Int) => mulN_any u v a.natAbs b.natAbs)
  have HH : Hid (((a.natAbs * b.natAbs / 18446744073709551616 : Nat) : Int) = hiV a b) := rfl
  have HL : Hid (((a.natAbs * b.natAbs % 18446744073709551616 : Nat) : Int) = loV a b) := rfl
  have HZ := Lib.hid (hilo_zero a b hb.1)
  have hnn := hilo_nn a b
  have HC : Hid (cmpI a 0 = if a < 0 then -1 else if 0 < a then 1 else 0) := rfl
  by_cases h0 : a < 0
  · have HN := Lib.hid (neg_wrap a h0 ha.1)
    go_enter Try.func51, Try.ntmps51
    go_wp2_with fail
    refine (HM.out _ _ HN.out (by omega) (by omega) (by omega) _).mono ?_
    rintro e w1 ⟨rfl, rfl⟩
    rw [HH.out, HL.out]
    obtain ⟨hh, e1⟩ : ∃ h, hiV a b = h := ⟨_, rfl⟩
    obtain ⟨ll, e2⟩ : ∃ h, loV a b = h := ⟨_, rfl⟩
    have E1 := Lib.hid e1
    have E2 := Lib.hid e2
    rw [e1, e2]
    rw [e1, e2] at HZ hnn
    clear e1 e2 HH HL
    by_cases hz : hh = 0
    · by_cases hy : ll = 0
      · exact absurd (HZ.out.1 ⟨hz, hy⟩) (by omega)
      · have hz' : (hh == 0) = true := by simp [hz]
        have hy' : (ll == 0) = false := by simp [hy]
        clear hz hy
        go_wp2_with fail
        go_ret3
        exact ⟨by rw [HC.out, if_pos h0, E1.out, E2.out]; rfl, rfl⟩
    · have hz' : (hh == 0) = false := by simp [hz]
      clear hz
      go_wp2_with fail
      go_ret3
      exact ⟨by rw [HC.out, if_pos h0, E1.out, E2.out]; rfl, rfl⟩
  · go_enter Try.func51, Try.ntmps51
    go_wp2_with fail
    refine (HM.out _ _ (by omega) (by omega) (by omega) (by omega) _).mono ?_
    rintro e w1 ⟨rfl, rfl⟩
    rw [HH.out, HL.out]
    obtain ⟨hh, e1⟩ : ∃ h, hiV a b = h := ⟨_, rfl⟩
    obtain ⟨ll, e2⟩ : ∃ h, loV a b = h := ⟨_, rfl⟩
    have E1 := Lib.hid e1
    have E2 := Lib.hid e2
    rw [e1, e2]
    rw [e1, e2] at HZ hnn
    clear e1 e2 HH HL
    by_cases ha0 : a = 0
    · obtain ⟨hz, hy⟩ := HZ.out.2 ha0
      have HC0 : Hid (cmpI a 0 = 0) := (cmpI_zero a 0).2 ha0
      clear ha0 HZ
      subst hz hy
      go_wp2_with fail
      go_ret3
      exact ⟨by rw [HC0.out, E1.out, E2.out]; rfl, rfl⟩
    · have HC1 : Hid (cmpI a 0 = 1) := by show cmpI a 0 = 1; rw [HC.out, if_neg (by omega), if_pos (by omega)]
      by_cases hz : hh = 0
      · by_cases hy : ll = 0
        · exact absurd (HZ.out.1 ⟨hz, hy⟩) ha0
        · have hz' : (hh == 0) = true := by simp [hz]
          have hy' : (ll == 0) = false := by simp [hy]
          clear hz hy
          go_wp2_with fail
          go_ret3
          exact ⟨by rw [HC1.out, E1.out, E2.out]; rfl, rfl⟩
      · have hz' : (hh == 0) = false := by simp [hz]
        clear hz
        go_wp2_with fail
        go_ret3
        exact ⟨by rw [HC1.out, E1.out, E2.out]; rfl, rfl⟩
end Go.Proofs.Ytddcgholnhhcoaa
