/- Chapter 38: fractions in lowest terms, Overhead and the references. No statement of the seat is proved here. -/
import Derived.Test.YtddcgholnhhcoaaCost1
namespace Go.Proofs.Ytddcgholnhhcoaa
open Go.RowKit
set_option linter.unusedVariables false

theorem drewN2 (w : World) (a b : Nat) : (w.drewN a).drewN b = w.drewN (a + b) := by simp [World.drewN, Nat.add_assoc]
def LowRel (W : World) (n d : Int) (g : Nat) (i j : Value) (wr : World) : Prop :=
  ∃ a b : Int, ∃ q : Nat, i = .int .i64 a ∧ j = .int .i64 b ∧ 0 ≤ a ∧ a ≤ 9223372036854775807 ∧ 0 ≤ b ∧ b ≤ 9223372036854775807 ∧ 0 < a + b ∧ Int.gcd a b = Int.gcd n d ∧ g = b.toNat ∧ wr = W.drewN q

set_option maxHeartbeats 1600000 in
theorem lowest_any (n d : Int) (w : World) (hn : 0 ≤ n) (hn2 : n ≤ 9223372036854775807) (hd : 0 < d) (hd2 : d ≤ 9223372036854775807) :
    Calls Try.prog 34 #[.int .i64 n, .int .i64 d] w (ExtPost w (.agg #[.int .i64 (lowV n d).num, .int .i64 (lowV n d).den])) := by
  go_enter Try.func34, Try.ntmps34
  go_wp2_with fail
  go_loopg [5, 6] d.toNat (fun g i j wr => LowRel (w.alloc (.cells #[.int .i64 0, .int .i64 0] 27)) n d g i j wr)
  case atStart => exact ⟨n, d, 0, rfl, rfl, hn, hn2, by omega, hd2, by omega, rfl, rfl, rfl⟩
  case round =>
    obtain ⟨a, b, q, rfl, rfl, ha, ha2, hb, hb2, hab, hg, rfl, rfl⟩ := hrel
    have HG := Lib.hid hg
    clear hg
    by_cases h0 : b = 0
    · subst h0
      have hga : (Int.gcd n d : Int) = a := by rw [← HG.out]; exact gcd_zero_r a ha
      have hq1 : 0 ≤ n / a := Int.ediv_nonneg hn ha
      have hq2 : n / a ≤ n := Int.ediv_le_self _ hn
      have hq3 : 0 ≤ d / a := Int.ediv_nonneg (by omega) ha
      have hq4 : d / a ≤ d := Int.ediv_le_self _ (by omega)
      have HA := Lib.hid hga
      have hap : 0 < a := by omega
      have t1 : n.tdiv a = n / a := Int.tdiv_eq_ediv_of_nonneg hn
      have t2 : d.tdiv a = d / a := Int.tdiv_eq_ediv_of_nonneg (by omega)
      have ha0 : (a == 0) = false := by simp; omega
      clear hga
      go_wp2_with fail
      go_region
      go_wp2_with fail
      refine bodyPost_ret (v := .agg #[.int .i64 (n / a), .int .i64 (d / a)]) (by simp [results, Try.results34, go_sem]) rfl ?_
      refine ⟨?_, ?_⟩
      · unfold lowV; rw [HA.out]
      · refine Ext.set (Ext.set (Ext.drewN ((Ext.refl w).allocs _) _) (Nat.le_refl _) _) (Nat.le_refl _) _
    · have hm1 : 0 ≤ a % b := Int.emod_nonneg _ h0
      have hm2 : a % b < b := Int.emod_lt_of_pos _ (by omega)
      have HS := Lib.hid (gcd_step a b ha (by omega))
      have t1 : a.tmod b = a % b := Int.tmod_eq_emod_of_nonneg ha
      have hb0 : (b == 0) = false := by simp [h0]
      have hbn : (b != 0) = true := by simp [h0]
      have hw : IntKind.i64.wrap (a % b) = a % b := IntWalk.i64_in _ (by omega)
      clear h0
      go_wp2_with fail
      go_quiet (fail)
      go_wp2_with fail
      go_roundg (a % b).toNat
      case measure => clear hw t1; omega
      case rel => exact ⟨b, a % b, _, rfl, rfl, hb, hb2, hm1, by clear hw t1; omega, by clear hw t1; omega, by rw [HS.out, HG.out], rfl, (drewN2 _ _ _)⟩

def GcdRel (w : World) (n d : Int) (g : Nat) (i j : Value) (wr : World) : Prop :=
  ∃ a b : Int, i = .int .i64 a ∧ j = .int .i64 b ∧ 0 ≤ a ∧ a ≤ 9223372036854775807 ∧ 0 < b ∧ b ≤ 9223372036854775807 ∧ Int.gcd b a = Int.gcd n d ∧ g = a.toNat ∧ wr = w
set_option maxHeartbeats 1600000 in
theorem gcd_any (n d : Int) (w : World) (hn : 0 ≤ n) (hn2 : n ≤ 9223372036854775807) (hd : 0 < d) (hd2 : d ≤ 9223372036854775807) :
    Calls Try.prog 52 #[.int .i64 n, .int .i64 d] w fun e w' => e = .returned (.int .i64 (Int.gcd n d : Int)) ∧ w = w' := by
  have HC := Lib.hid (show Int.gcd d n = Int.gcd n d from Int.gcd_comm d n)
  go_enter Try.func52, Try.ntmps52
  go_wp2_with fail
  go_loopg [0, 1] n.toNat (fun g i j wr => GcdRel w n d g i j wr)
  case atStart => exact ⟨n, d, rfl, rfl, hn, hn2, hd, hd2, HC.out, rfl, rfl⟩
  case round =>
    obtain ⟨a, b, rfl, rfl, ha, ha2, hb, hb2, hg, rfl, rfl⟩ := hrel
    have HG := Lib.hid hg
    clear hg
    by_cases h0 : a = 0
    · subst h0
      have hga : (Int.gcd n d : Int) = b := by rw [← HG.out]; exact gcd_zero_r b (by omega)
      have HA := Lib.hid hga
      clear hga
      go_wp2_with fail
      go_ret
      exact ⟨ret_int HA.out.symm, rfl⟩
    · have hm1 : 0 ≤ b % a := Int.emod_nonneg _ h0
      have hm2 : b % a < a := Int.emod_lt_of_pos _ (by omega)
      have HS := Lib.hid (gcd_step b a (by omega) (by omega))
      have hb0 : (a == 0) = false := by simp [h0]
      have hbn : (a != 0) = true := by simp [h0]
      have hap : 0 < a := by omega
      clear h0
      go_wp2_with fail
      go_roundg (b % a).toNat
      case measure => omega
      case rel => exact ⟨b % a, a, rfl, rfl, hm1, by omega, hap, ha2, by rw [HS.out, HG.out], rfl, rfl⟩

set_option maxHeartbeats 1600000 in
theorem reduced_any (n d : Int) (w : World) (hn : 0 ≤ n) (hn2 : n ≤ 9223372036854775807) (hd : 0 < d) (hd2 : d ≤ 9223372036854775807) :
    Calls Try.prog 36 #[.int .i64 n, .int .i64 d] w (ExtPost w (.agg #[.int .i64 (lowV n d).num, .int .i64 (lowV n d).den])) := by
  have hgp := gcd_pos_r n d hd
  have hgl := gcd_le_r n d hd
  have HV : Hid (lowV n d = ⟨n / (Int.gcd n d : Int), d / (Int.gcd n d : Int)⟩) := rfl
  go_enter Try.func36, Try.ntmps36
  go_wp2_with fail
  refine (gcd_any n d _ hn hn2 hd hd2).mono ?_
  rintro e w1 ⟨rfl, rfl⟩
  generalize (Int.gcd n d : Int) = a at *
  have hq1 : 0 ≤ n / a := Int.ediv_nonneg hn (by omega)
  have hq2 : n / a ≤ n := Int.ediv_le_self _ hn
  have hq3 : 0 ≤ d / a := Int.ediv_nonneg (by omega) (by omega)
  have hq4 : d / a ≤ d := Int.ediv_le_self _ (by omega)
  have t1 : n.tdiv a = n / a := Int.tdiv_eq_ediv_of_nonneg hn
  have t2 : d.tdiv a = d / a := Int.tdiv_eq_ediv_of_nonneg (by omega)
  have ha0 : (a == 0) = false := by simp; omega
  go_wp2_with fail
  go_region
  go_wp2_with fail
  refine bodyPost_ret (v := .agg #[.int .i64 (n / a), .int .i64 (d / a)]) (by simp [results, Try.results36, go_sem]) rfl ?_
  refine ⟨?_, ?_⟩
  · rw [HV.out]
  · repeat (first | exact Ext.refl _ | refine Ext.allocs ?_ _ | refine Below.drew ?_ | refine Ext.drewN ?_ _ | refine Ext.set ?_ (Nat.le_refl _) _)

def posB (x : Int) : Bool := decide (1 ≤ x) && decide (x ≤ 1048576)
theorem posB_iff (x : Int) : posB x = true ↔ 1 ≤ x ∧ x ≤ 1048576 := by simp [posB]
set_option maxHeartbeats 400000 in
theorem positive_any (x : Int) (w : World) : Calls Try.prog 33 #[.int .i64 x] w fun e w' => e = .returned (.bool (posB x)) ∧ w = w' := by
  have HV : Hid (posB x = (decide (1 ≤ x) && decide (x ≤ 1048576))) := rfl
  go_enter Try.func33, Try.ntmps33
  go_wp2_with fail
  all_goals
    go_ret
    refine ⟨?_, rfl⟩
    rw [HV.out]
    first | (simp_all; done) | (simp_all; omega)
def withinB (x lo hi : Int) : Bool := decide (lo ≤ x) && decide (x ≤ hi)
set_option maxHeartbeats 400000 in
theorem within_any (x lo hi : Int) (w : World) : Calls Try.prog 35 #[.int .i64 x, .int .i64 lo, .int .i64 hi] w fun e w' => e = .returned (.bool (withinB x lo hi)) ∧ w = w' := by
  have HV : Hid (withinB x lo hi = (decide (lo ≤ x) && decide (x ≤ hi))) := rfl
  go_enter Try.func35, Try.ntmps35
  go_wp2_with fail
  all_goals
    go_ret
    refine ⟨?_, rfl⟩
    rw [HV.out]
    first | (simp_all; done) | (simp_all; omega)
theorem within_pos (x : Int) (w : World) : Calls Try.prog 35 #[.int .i64 x, .int .i64 1, .int .i64 1048576] w fun e w' => e = .returned (.bool (posB x)) ∧ w = w' := within_any x 1 1048576 w
theorem within_amount (x : Int) (w : World) : Calls Try.prog 35 #[.int .i64 x, .int .i64 0, .int .i64 1048576] w fun e w' => e = .returned (.bool (amountB x)) ∧ w = w' := within_any x 0 1048576 w

/-! ### Overhead -/
def ovV (c m i : Int) : Fr × Int := if posB c && posB m && posB i then (lowV (2 * c * m + i * i) (2 * m * i), 0) else (⟨0, 0⟩, 3)
theorem mul_bd (x y : Int) (hx : 1 ≤ x ∧ x ≤ 1048576) (hy : 1 ≤ y ∧ y ≤ 1048576) : 1 ≤ x * y ∧ x * y ≤ 1099511627776 := by
  have h1 : 1 * 1 ≤ x * y := Int.mul_le_mul hx.1 hy.1 (by omega) (by omega)
  have h2 : x * y ≤ 1048576 * 1048576 := Int.mul_le_mul hx.2 hy.2 (by omega) (by omega)
  omega
theorem mul2_bd (x y : Int) (hx : 1 ≤ x ∧ x ≤ 1048576) (hy : 1 ≤ y ∧ y ≤ 1048576) : 2 ≤ 2 * x * y ∧ 2 * x * y ≤ 2199023255552 := by
  have := mul_bd x y hx hy
  rw [Int.mul_assoc]
  omega
def OvPost (c m i : Int) (w : World) : Ending → World → Prop := ExtPost w (.tuple #[.agg #[.int .i64 (ovV c m i).1.num, .int .i64 (ovV c m i).1.den], .int .i64 (ovV c m i).2])
theorem ov_bad {c m i : Int} (h : (posB c && posB m && posB i) = false) : ovV c m i = (⟨0, 0⟩, 3) := by unfold ovV; rw [h]; rfl
theorem ov_good {c m i : Int} (h : (posB c && posB m && posB i) = true) : ovV c m i = (lowV (2 * c * m + i * i) (2 * m * i), 0) := by unfold ovV; rw [h]; rfl
theorem ov_swap (m i : Int) : 2 * i * m = 2 * m * i := by rw [Int.mul_assoc, Int.mul_comm i m, ← Int.mul_assoc]

set_option maxHeartbeats 1600000 in
theorem overhead_any (c m i : Int) (w : World) : Calls Try.prog 17 #[.int .i64 c, .int .i64 m, .int .i64 i] w (OvPost c m i w) := by
  have P1 := Lib.hid (positive_any c)
  have P2 := Lib.hid (positive_any m)
  have P3 := Lib.hid (positive_any i)
  rcases h1 : posB c with _ | _
  · have HV := Lib.hid (ov_bad (c := c) (m := m) (i := i) (by rw [h1]; rfl))
    rw [h1] at P1
    clear h1
    go_enter Try.func17, Try.ntmps17
    go_wp2_with fail
    refine (P1.out _).mono ?_
    rintro e w' ⟨rfl, rfl⟩
    go_wp2_with fail
    refine bodyPost_ret (v := .tuple #[.agg #[.int .i64 0, .int .i64 0], .int .i64 3]) (by simp [results, Try.results17, go_sem]) rfl ?_
    unfold OvPost
    rw [HV.out]
    exact ⟨rfl, (Ext.refl w).allocs _⟩
  rcases h2 : posB m with _ | _
  · have HV := Lib.hid (ov_bad (c := c) (m := m) (i := i) (by rw [h1, h2]; rfl))
    rw [h1] at P1
    rw [h2] at P2
    clear h1 h2
    go_enter Try.func17, Try.ntmps17
    go_wp2_with fail
    refine (P1.out _).mono ?_
    rintro e w' ⟨rfl, rfl⟩
    go_wp2_with fail
    refine (P2.out _).mono ?_
    rintro e w' ⟨rfl, rfl⟩
    go_wp2_with fail
    refine bodyPost_ret (v := .tuple #[.agg #[.int .i64 0, .int .i64 0], .int .i64 3]) (by simp [results, Try.results17, go_sem]) rfl ?_
    unfold OvPost
    rw [HV.out]
    exact ⟨rfl, (Ext.refl w).allocs _⟩
  rcases h3 : posB i with _ | _
  · have HV := Lib.hid (ov_bad (c := c) (m := m) (i := i) (by rw [h1, h2, h3]; rfl))
    rw [h1] at P1
    rw [h2] at P2
    rw [h3] at P3
    clear h1 h2 h3
    go_enter Try.func17, Try.ntmps17
    go_wp2_with fail
    refine (P1.out _).mono ?_
    rintro e w' ⟨rfl, rfl⟩
    go_wp2_with fail
    refine (P2.out _).mono ?_
    rintro e w' ⟨rfl, rfl⟩
    go_wp2_with fail
    refine (P3.out _).mono ?_
    rintro e w' ⟨rfl, rfl⟩
    go_wp2_with fail
    refine bodyPost_ret (v := .tuple #[.agg #[.int .i64 0, .int .i64 0], .int .i64 3]) (by simp [results, Try.results17, go_sem]) rfl ?_
    unfold OvPost
    rw [HV.out]
    exact ⟨rfl, (Ext.refl w).allocs _⟩
  · have HV := Lib.hid (ov_good (c := c) (m := m) (i := i) (by rw [h1, h2, h3]; rfl))
    have b1 := (posB_iff c).1 h1
    have b2 := (posB_iff m).1 h2
    have b3 := (posB_iff i).1 h3
    rw [h1] at P1
    rw [h2] at P2
    rw [h3] at P3
    clear h1 h2 h3
    have q1 := mul2_bd c m b1 b2
    have q2 := mul_bd i i b3 b3
    have q3 := mul2_bd m i b2 b3
    go_enter Try.func17, Try.ntmps17
    go_wp2_with fail
    refine (P1.out _).mono ?_
    rintro e w' ⟨rfl, rfl⟩
    go_wp2_with fail
    refine (P2.out _).mono ?_
    rintro e w' ⟨rfl, rfl⟩
    go_wp2_with fail
    refine (P3.out _).mono ?_
    rintro e w' ⟨rfl, rfl⟩
    go_wp2_with fail
    refine (lowest_any (2 * c * m + i * i) (2 * m * i) _ (by omega) (by omega) (by omega) (by omega)).mono ?_
    rintro e w1 ⟨rfl, hE⟩
    have hB := (Blk.new w 27 #[.int .i64 0, .int .i64 0]).ext hE
    have c0 := hB.cell 0
    have c1 := hB.cell 1
    have f0 := hB.frozen 0
    have f1 := hB.frozen 1
    simp at c0 c1
    have hX := ((Ext.refl w).allocs _).trans hE
    clear hB hE
    generalize lowV (2 * c * m + i * i) (2 * m * i) = f at *
    go_wp2_with fail
    refine bodyPost_ret (v := .tuple #[.agg #[.int .i64 f.num, .int .i64 f.den], .int .i64 0]) (by simp [results, Try.results17, go_sem, *]) rfl ?_
    unfold OvPost
    rw [HV.out]
    exact ⟨rfl, Ext.set (Ext.set hX (Nat.le_refl _) _) (Nat.le_refl _) _⟩
set_option maxHeartbeats 1600000 in
theorem overhead_ref (c m i : Int) (w : World) : Calls Try.prog 18 #[.int .i64 c, .int .i64 m, .int .i64 i] w (OvPost c m i w) := by
  have P1 := Lib.hid (within_pos c)
  have P2 := Lib.hid (within_pos m)
  have P3 := Lib.hid (within_pos i)
  rcases h1 : posB c with _ | _
  · have HV := Lib.hid (ov_bad (c := c) (m := m) (i := i) (by rw [h1]; rfl))
    rw [h1] at P1
    clear h1
    go_enter Try.func18, Try.ntmps18
    go_wp2_with fail
    refine (P1.out _).mono ?_
    rintro e w' ⟨rfl, rfl⟩
    go_wp2_with fail
    refine bodyPost_ret (v := .tuple #[.agg #[.int .i64 0, .int .i64 0], .int .i64 3]) (by simp [results, Try.results18, go_sem]) rfl ?_
    unfold OvPost
    rw [HV.out]
    exact ⟨rfl, (Ext.refl w).allocs _⟩
  rcases h2 : posB m with _ | _
  · have HV := Lib.hid (ov_bad (c := c) (m := m) (i := i) (by rw [h1, h2]; rfl))
    rw [h1] at P1
    rw [h2] at P2
    clear h1 h2
    go_enter Try.func18, Try.ntmps18
    go_wp2_with fail
    refine (P1.out _).mono ?_
    rintro e w' ⟨rfl, rfl⟩
    go_wp2_with fail
    refine (P2.out _).mono ?_
    rintro e w' ⟨rfl, rfl⟩
    go_wp2_with fail
    refine bodyPost_ret (v := .tuple #[.agg #[.int .i64 0, .int .i64 0], .int .i64 3]) (by simp [results, Try.results18, go_sem]) rfl ?_
    unfold OvPost
    rw [HV.out]
    exact ⟨rfl, (Ext.refl w).allocs _⟩
  rcases h3 : posB i with _ | _
  · have HV := Lib.hid (ov_bad (c := c) (m := m) (i := i) (by rw [h1, h2, h3]; rfl))
    rw [h1] at P1
    rw [h2] at P2
    rw [h3] at P3
    clear h1 h2 h3
    go_enter Try.func18, Try.ntmps18
    go_wp2_with fail
    refine (P1.out _).mono ?_
    rintro e w' ⟨rfl, rfl⟩
    go_wp2_with fail
    refine (P2.out _).mono ?_
    rintro e w' ⟨rfl, rfl⟩
    go_wp2_with fail
    refine (P3.out _).mono ?_
    rintro e w' ⟨rfl, rfl⟩
    go_wp2_with fail
    refine bodyPost_ret (v := .tuple #[.agg #[.int .i64 0, .int .i64 0], .int .i64 3]) (by simp [results, Try.results18, go_sem]) rfl ?_
    unfold OvPost
    rw [HV.out]
    exact ⟨rfl, (Ext.refl w).allocs _⟩
  · have HV := Lib.hid (ov_good (c := c) (m := m) (i := i) (by rw [h1, h2, h3]; rfl))
    have b1 := (posB_iff c).1 h1
    have b2 := (posB_iff m).1 h2
    have b3 := (posB_iff i).1 h3
    rw [h1] at P1
    rw [h2] at P2
    rw [h3] at P3
    clear h1 h2 h3
    have q1 := mul2_bd c m b1 b2
    have q2 := mul_bd i i b3 b3
    have q3 := mul2_bd i m b3 b2
    rw [← ov_swap m i] at HV
    go_enter Try.func18, Try.ntmps18
    go_wp2_with fail
    refine (P1.out _).mono ?_
    rintro e w' ⟨rfl, rfl⟩
    go_wp2_with fail
    refine (P2.out _).mono ?_
    rintro e w' ⟨rfl, rfl⟩
    go_wp2_with fail
    refine (P3.out _).mono ?_
    rintro e w' ⟨rfl, rfl⟩
    go_wp2_with fail
    refine (reduced_any (2 * c * m + i * i) (2 * i * m) _ (by omega) (by omega) (by omega) (by omega)).mono ?_
    rintro e w1 ⟨rfl, hE⟩
    have hB := (Blk.new w 27 #[.int .i64 0, .int .i64 0]).ext hE
    have c0 := hB.cell 0
    have c1 := hB.cell 1
    have f0 := hB.frozen 0
    have f1 := hB.frozen 1
    simp at c0 c1
    have hX := ((Ext.refl w).allocs _).trans hE
    clear hB hE
    generalize lowV (2 * c * m + i * i) (2 * i * m) = f at *
    go_wp2_with fail
    refine bodyPost_ret (v := .tuple #[.agg #[.int .i64 f.num, .int .i64 f.den], .int .i64 0]) (by simp [results, Try.results18, go_sem, *]) rfl ?_
    unfold OvPost
    rw [HV.out]
    exact ⟨rfl, Ext.set (Ext.set hX (Nat.le_refl _) _) (Nat.le_refl _) _⟩
end Go.Proofs.Ytddcgholnhhcoaa
