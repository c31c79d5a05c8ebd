/- The walk of the law CostBestInterval. -/
import Derived.Test.YtddcgholnhhcoaaSteps
namespace Go.Proofs.Ytddcgholnhhcoaa
open Go.RowKit
set_option linter.unusedVariables false

theorem least_nat (p : Nat → Prop) : ∀ n, p n → ∃ m, m ≤ n ∧ p m ∧ ∀ k, k < m → ¬ p k := by
  intro n
  induction n using Nat.strongRecOn with
  | _ n ih =>
    intro h
    by_cases hx : ∃ k, k < n ∧ p k
    · obtain ⟨k, hk, hp⟩ := hx
      obtain ⟨m, h1, h2, h3⟩ := ih k hk hp
      exact ⟨m, by omega, h2, h3⟩
    · exact ⟨n, Nat.le_refl _, h, fun k hk hp => hx ⟨k, hk, hp⟩⟩
theorem iv_is (G : Int) (hG : G ≤ 2199023255552) : IsIv G (ivV G) ∧ ivV G ≤ 2097152 := by
  obtain ⟨m, h1, h2, h3⟩ := least_nat (fun m => G ≤ ((m : Int) + 1) * ((m : Int) + 2)) 2097151 (by
    show G ≤ (((2097151 : Nat) : Int) + 1) * (((2097151 : Nat) : Int) + 2)
    have : (((2097151 : Nat) : Int) + 1) * (((2097151 : Nat) : Int) + 2) = 4398048608256 := by decide
    omega)
  have hi : IsIv G (1 + m) := isIv_of G hG m (by omega) (fun t ht => decide_eq_false (h3 t ht)) (fun _ => decide_eq_true h2)
  have e := ivV_eq hi (by omega)
  rw [e]
  exact ⟨hi, by omega⟩
theorem clamp_id (x : Int) (h : 1 ≤ x ∧ x ≤ 1048576) : clampC x = x := by unfold clampC; omega
theorem iv_lt (G t k : Int) (h : IsIv G t) (hk1 : 1 ≤ k) (hkt : k < t) : (G + t * t) * k < (G + k * k) * t := by
  have h1 := h.2.2 (t - 1) (by omega) (by omega)
  rw [Int.sub_add_cancel] at h1
  have h2 : k * t ≤ (t - 1) * t := Int.mul_le_mul_of_nonneg_right (by omega) (by omega)
  have h3 : 0 < (G - k * t) * (t - k) := Int.mul_pos (by omega) (by omega)
  simp only [Int.mul_sub, Int.mul_add, Int.mul_comm, Int.mul_left_comm] at h3 ⊢
  omega
theorem iv_le (G t k : Int) (h : IsIv G t) (hk1 : 1 ≤ k) : (G + t * t) * k ≤ (G + k * k) * t := by
  rcases Int.lt_trichotomy k t with hkt | hkt | hkt
  · exact Int.le_of_lt (iv_lt G t k h hk1 hkt)
  · subst hkt; omega
  · have h1 := h.2.1
    have ht := h.1
    have h2 : t * (t + 1) ≤ t * k := Int.mul_le_mul_of_nonneg_left (by omega) (by omega)
    have h3 : 0 ≤ (t * k - G) * (k - t) := Int.mul_nonneg (by omega) (by omega)
    simp only [Int.mul_sub, Int.mul_add, Int.mul_comm, Int.mul_left_comm] at h3 ⊢
    omega
/-- fractions in lowest terms are compared as the fractions themselves -/
theorem fr_low (n1 d1 n2 d2 : Int) (h1 : 1 ≤ d1) (h2 : 1 ≤ d2) : frV (lowV n1 d1) (lowV n2 d2) = cmpI (n1 * d2) (n2 * d1) := by
  obtain ⟨g, hg, e1, e2⟩ := lowV_spec n1 d1 (by omega)
  obtain ⟨k, hk, f1, f2⟩ := lowV_spec n2 d2 (by omega)
  have hd1 := lowV_den n1 d1 (by omega)
  have hd2 := lowV_den n2 d2 (by omega)
  rw [fr_key, denV_pos (show 1 ≤ (lowV n2 d2).den by omega), denV_pos (show 1 ≤ (lowV n1 d1).den by omega)]
  generalize lowV n1 d1 = a at *
  generalize lowV n2 d2 = b at *
  subst e1 e2 f1 f2
  have p : 0 < g * k := Int.mul_pos hg hk
  rw [show g * a.num * (k * b.den) = (g * k) * (a.num * b.den) by simp only [Int.mul_assoc, Int.mul_left_comm], show k * b.num * (g * a.den) = (g * k) * (b.num * a.den) by simp only [Int.mul_assoc, Int.mul_left_comm]]
  exact cmpI_congr ⟨fun h => Int.mul_lt_mul_of_pos_left h p, fun h => Int.lt_of_mul_lt_mul_left h (Int.le_of_lt p)⟩ ⟨fun h => Int.mul_lt_mul_of_pos_left h p, fun h => Int.lt_of_mul_lt_mul_left h (Int.le_of_lt p)⟩
theorem cmpI_scale (c x y : Int) (hc : 0 < c) : cmpI (c * x) (c * y) = cmpI x y :=
  cmpI_congr ⟨fun h => Int.lt_of_mul_lt_mul_left h (Int.le_of_lt hc), fun h => Int.mul_lt_mul_of_pos_left h hc⟩ ⟨fun h => Int.lt_of_mul_lt_mul_left h (Int.le_of_lt hc), fun h => Int.mul_lt_mul_of_pos_left h hc⟩
theorem ov_cmp (x y t k : Int) (hx : 1 ≤ x) (hy : 1 ≤ y) (ht : 1 ≤ t) (hk : 1 ≤ k) :
    frV (lowV (2 * x * y + t * t) (2 * y * t)) (lowV (2 * x * y + k * k) (2 * y * k)) = cmpI ((2 * x * y + t * t) * k) ((2 * x * y + k * k) * t) := by
  have p1 : 0 < 2 * y * t := Int.mul_pos (by omega) (by omega)
  have p2 : 0 < 2 * y * k := Int.mul_pos (by omega) (by omega)
  rw [fr_low _ _ _ _ (by omega) (by omega)]
  rw [show (2 * x * y + t * t) * (2 * y * k) = (2 * y) * ((2 * x * y + t * t) * k) by rw [Int.mul_left_comm], show (2 * x * y + k * k) * (2 * y * t) = (2 * y) * ((2 * x * y + k * k) * t) by rw [Int.mul_left_comm]]
  exact cmpI_scale _ _ _ (by omega)
theorem cmpI_nonpos {a b : Int} (h : a ≤ b) : cmpI a b ≤ 0 := by unfold cmpI; split <;> (try split) <;> omega
theorem low_ok (n d : Int) (hn : 0 ≤ n ∧ n ≤ 9223372036854775807) (hd : 1 ≤ d ∧ d ≤ 9223372036854775807) : (lowV n d).ok := by
  have h1 := lowV_num n d hn.1 (by omega)
  have h2 := lowV_den n d (by omega)
  have h3 := lowV_le n d hn.1 (by omega)
  exact ⟨⟨by omega, by omega⟩, by omega, by omega⟩
theorem ov_ok (x y t : Int) (hx : 1 ≤ x ∧ x ≤ 1048576) (hy : 1 ≤ y ∧ y ≤ 1048576) (ht : 1 ≤ t ∧ t ≤ 1048576) : (lowV (2 * x * y + t * t) (2 * y * t)).ok := by
  have q1 := mul2_bd x y hx hy
  have q2 := mul_bd t t ht ht
  have q3 := mul2_bd y t hy ht
  exact low_ok _ _ ⟨by omega, by omega⟩ ⟨by omega, by omega⟩
theorem pos_of {x : Int} (h : 1 ≤ x ∧ x ≤ 1048576) : posB x = true := (posB_iff x).2 h
theorem ov_val (x y t : Int) (hx : 1 ≤ x ∧ x ≤ 1048576) (hy : 1 ≤ y ∧ y ≤ 1048576) (ht : 1 ≤ t ∧ t ≤ 1048576) : ovV x y t = (lowV (2 * x * y + t * t) (2 * y * t), 0) := ov_good (by rw [pos_of hx, pos_of hy, pos_of ht]; rfl)
def BiRel (w : World) (g10 g52 : Nat) (F : Fr) (ks : List Int) (g : Nat) (i : Value) (wr : World) : Prop :=
  ∃ j : Nat, j ≤ 5 ∧ i = .int .i64 j ∧ g = 5 - j ∧ Ext w wr ∧ Blk wr g10 27 #[.int .i64 F.num, .int .i64 F.den] ∧ IntSeg wr (some ⟨g52, 0, none⟩) ks
theorem seg_five {w : World} {g : Nat} {t : TypeId} {a b c d e : Int} (h : Blk w g t #[.int .i64 a, .int .i64 b, .int .i64 c, .int .i64 d, .int .i64 e]) : IntSeg w (some ⟨g, 0, none⟩) [a, b, c, d, e] := by
  refine ⟨rfl, fun _ => ⟨g, 0, rfl, h.lt, fun j u hu => ?_⟩⟩
  rw [Nat.zero_add, h.cell]
  simpa [Iv] using hu

set_option maxRecDepth 100000 in
set_option maxHeartbeats 3200000 in
theorem bestiv_walk (a b c : Int) (w : World) (ha : (Lit.int .i64 a).wf = true) (hb : (Lit.int .i64 b).wf = true) (hc : (Lit.int .i64 c).wf = true) :
    Calls Try.prog 10 #[.int .i64 a, .int .i64 b, .int .i64 c] w fun e w' => e = .returned (.bool true) ∧ Below w.heap.size w w' := by
  clear ha hb hc
  go_enter Try.func10, Try.ntmps10
  go_wp2_with fail
  refine (awake_any w).mono ?_
  rintro e w0 ⟨rfl, hX0⟩
  go_wp2_with fail
  refine (num_any a _).mono ?_
  rintro e w' ⟨rfl, rfl⟩
  go_wp2_with fail
  refine (num_any b _).mono ?_
  rintro e w' ⟨rfl, rfl⟩
  have hx := numV_bd a
  have hy := numV_bd b
  generalize numV a = x at *
  generalize numV b = y at *
  go_wp2_with fail
  refine (interval_any x y _).mono ?_
  rintro e w1 ⟨rfl, hE1⟩
  rw [clamp_id x hx, clamp_id y hy]
  have hm := mul2_bd x y hx hy
  obtain ⟨hIs, ht2⟩ := iv_is (2 * x * y) (by omega)
  obtain ⟨t, et⟩ : ∃ t, ivV (2 * x * y) = t := ⟨_, rfl⟩
  rw [et] at hIs ht2 ⊢
  clear et
  have ht1 := hIs.1
  have HIS := Lib.hid hIs
  clear hIs hm
  have hX1 := Ext.trans hX0 hE1
  clear hE1 hX0
  by_cases hbig : 1048576 < t
  · go_wp2_with fail
    go_ret
    exact ⟨rfl, hX1⟩
  · go_wp2_with fail
    refine (overhead_any x y t _).mono ?_
    rintro e w2 ⟨rfl, hE2⟩
    rw [ov_val x y t hx hy ⟨ht1, by omega⟩]
    have okF := ov_ok x y t hx hy ⟨ht1, by omega⟩
    obtain ⟨F, eF⟩ : ∃ F, lowV (2 * x * y + t * t) (2 * y * t) = F := ⟨_, rfl⟩
    rw [eF] at okF ⊢
    have HF := Lib.hid eF
    have OKF := Lib.hid okF
    clear eF okF
    have hX2 := (Ext.trans hX1 hE2).allocs (.cells #[.int .i64 F.num, .int .i64 F.den] 27)
    have hB := Blk.new w2 27 #[.int .i64 F.num, .int .i64 F.den]
    clear hX1 hE2
    go_wp2_with fail
    refine (num_any c _).mono ?_
    rintro e w' ⟨rfl, rfl⟩
    have hz := numV_bd c
    generalize numV c = z at *
    go_wp2_with fail
    have hB' := hB.allocs (.cells #[.int .i64 z, .int .i64 (t - 1), .int .i64 (t + 1), .int .i64 (2 * t), .int .i64 (t / 2 + 1)] 3)
    have hX3 := hX2.allocs (.cells #[.int .i64 z, .int .i64 (t - 1), .int .i64 (t + 1), .int .i64 (2 * t), .int .i64 (t / 2 + 1)] 3)
    have hS := seg_five (Blk.newAt (w := w2.alloc (.cells #[.int .i64 F.num, .int .i64 F.den] 27)) (g := w2.heap.size + 1) (t := 3) (cs := #[.int .i64 z, .int .i64 (t - 1), .int .i64 (t + 1), .int .i64 (2 * t), .int .i64 (t / 2 + 1)]) (by simp))
    obtain ⟨W, hW⟩ : ∃ W, (w2.alloc (.cells #[.int .i64 F.num, .int .i64 F.den] 27)).alloc (.cells #[.int .i64 z, .int .i64 (t - 1), .int .i64 (t + 1), .int .i64 (2 * t), .int .i64 (t / 2 + 1)] 3) = W := ⟨_, rfl⟩
    rw [hW] at hB' hX3 hS ⊢
    obtain ⟨g52, hg52⟩ : ∃ g, w2.heap.size + 1 = g := ⟨_, rfl⟩
    rw [hg52] at hS ⊢
    obtain ⟨g10, hg10⟩ : ∃ g, w2.heap.size = g := ⟨_, rfl⟩
    rw [hg10] at hB' ⊢
    clear hW hg10 hg52 hB hX2
    obtain ⟨ks, hks⟩ : ∃ ks : List Int, [z, t - 1, t + 1, 2 * t, t / 2 + 1] = ks := ⟨_, rfl⟩
    have hkl : ks.length = 5 := by rw [← hks]; rfl
    rw [hks] at hS
    clear hks
    have hkl5 : 5 ≤ ks.length := by omega
    clear hkl
    go_loopg [54] 5 (fun g i wr => BiRel w g10 g52 F ks g i wr)
    case atStart => exact ⟨0, Nat.zero_le _, rfl, rfl, hX3, hB', hS⟩
    case round =>
      clear hX3 hB' hS
      obtain ⟨j, hj, rfl, rfl, hE, hB, hS⟩ := hrel
      by_cases hlt : j < 5
      · obtain ⟨bb, oo, hA, p0⟩ := Iv.at_ hS (show j < ks.length by omega)
        injection hA with hA
        injection hA with hA1 hA2
        subst hA1 hA2
        rw [Nat.zero_add] at p0
        generalize ks[j]'(show j < ks.length by omega) = k at *
        have hlti : (j : Int) < 5 := by omega
        by_cases hk1 : k < 1
        · go_wp2_with fail
          go_roundg (5 - (j + 1))
          case measure => omega
          case rel => exact ⟨j + 1, by omega, by go_num, rfl, hE, hB, hS⟩
        by_cases hk2 : 1048576 < k
        · go_wp2_with fail
          go_roundg (5 - (j + 1))
          case measure => omega
          case rel => exact ⟨j + 1, by omega, by go_num, rfl, hE, hB, hS⟩
        · have hkb : 1 ≤ k ∧ k ≤ 1048576 := ⟨by omega, by omega⟩
          have okG := ov_ok x y k hx hy hkb
          have hle := cmpI_nonpos (iv_le (2 * x * y) t k HIS.out hkb.1)
          have hz0 : cmpI ((2 * x * y + t * t) * k) ((2 * x * y + k * k) * t) = 0 → ¬ k < t := fun h0 hkt => by
            have := iv_lt (2 * x * y) t k HIS.out hkb.1 hkt
            have := (cmpI_zero _ _).1 h0
            omega
          have hcm := ov_cmp x y t k hx.1 hy.1 ht1 hkb.1
          rw [HF.out] at hcm
          have OV := Lib.hid (ov_val x y k hx hy hkb)
          rw [← hcm] at hle hz0
          obtain ⟨G, eG⟩ : ∃ G, lowV (2 * x * y + k * k) (2 * y * k) = G := ⟨_, rfl⟩
          rw [eG] at OV okG hle hz0
          clear hcm eG
          have HC := Lib.hid (fun w => compare_any F G w OKF.out okG)
          obtain ⟨rr, er⟩ : ∃ r, frV F G = r := ⟨_, rfl⟩
          rw [er] at HC hle hz0
          clear er okG
          have HZ0 := Lib.hid hz0
          clear hz0
          go_wp2_with fail
          refine (overhead_any x y k _).mono ?_
          rintro e w4 ⟨rfl, hE4⟩
          rw [OV.out]
          have hB4 := (hB.ext hE4).allocs (.cells #[.int .i64 G.num, .int .i64 G.den] 27)
          have hS4 := (hS.ext hE4).alloc (.cells #[.int .i64 G.num, .int .i64 G.den] 27)
          have hE5 := (Ext.trans hE hE4).allocs (.cells #[.int .i64 G.num, .int .i64 G.den] 27)
          obtain ⟨c0, c1⟩ := blk2 hB4
          clear hE hE4 hB hS p0
          go_wp2_with fail
          refine (HC.out _).mono ?_
          rintro e w6 ⟨rfl, hE6⟩
          have hB6 := hB4.ext hE6
          have hS6 := hS4.ext hE6
          have hE7 := Ext.trans hE5 hE6
          clear hE5 hE6 hB4 hS4 c0 c1
          by_cases hr : rr = 0
          · have hkt := HZ0.out hr
            have hr' : (rr == 0) = true := by simp [hr]
            clear hr
            go_wp2_with fail
            go_roundg (5 - (j + 1))
            case measure => omega
            case rel => exact ⟨j + 1, by omega, by go_num, rfl, hE7, hB6, hS6⟩
          · have hr' : (rr == 0) = false := by simp [hr]
            clear hr
            go_wp2_with fail
            go_roundg (5 - (j + 1))
            case measure => omega
            case rel => exact ⟨j + 1, by omega, by go_num, rfl, hE7, hB6, hS6⟩
      · have hlti : ¬ (j : Int) < 5 := by omega
        go_wp2_with fail
        go_ret
        exact ⟨rfl, hE⟩
end Go.Proofs.Ytddcgholnhhcoaa
