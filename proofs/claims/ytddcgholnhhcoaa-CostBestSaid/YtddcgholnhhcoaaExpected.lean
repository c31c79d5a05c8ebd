/- Chapter 38: the expected time. No statement of the seat is proved here. -/
import Derived.Test.YtddcgholnhhcoaaOverheads
namespace Go.Proofs.Ytddcgholnhhcoaa
open Go.RowKit
set_option linter.unusedVariables false

def topV (n d : Int) : Nat → Int × Int
  | 0 => (0, 1)
  | k + 1 => (((topV n d k).1 + (topV n d k).2) * d, (topV n d k).2 * n)
def uB : Nat → Int
  | 0 => 1
  | k + 1 => 128 * uB k
theorem uB_pos : ∀ k, 1 ≤ uB k
  | 0 => by simp [uB]
  | k + 1 => by have := uB_pos k; rw [uB]; omega
theorem uB_mono (k : Nat) : uB k ≤ uB (k + 1) := by have := uB_pos k; rw [uB]; omega
theorem uB_le (k : Nat) (hk : k ≤ 7) : uB k ≤ 562949953421312 := by
  have h : ∀ j, k + j = 7 → uB k ≤ uB 7 := by
    intro j
    induction j generalizing k with
    | zero => intro h; have : k = 7 := by omega
              subst this; omega
    | succ j ih => intro h; have := ih (k + 1) (by omega) (by omega); have := uB_mono k; omega
  have := h (7 - k) (by omega)
  have e : uB 7 = 562949953421312 := by decide +kernel
  omega
theorem uB_le8 (k : Nat) (hk : k ≤ 8) : uB k ≤ 72057594037927936 := by
  rcases Nat.lt_or_eq_of_le hk with h | h
  · have := uB_le k (by omega); omega
  · subst h
    have e : uB 8 = 72057594037927936 := by decide +kernel
    omega
theorem topV_bd (n d : Int) (hn : 1 ≤ n) (hd : n ≤ d) (hd2 : d ≤ 64) : ∀ k, (0 ≤ (topV n d k).1 ∧ (topV n d k).1 ≤ uB k) ∧ (1 ≤ (topV n d k).2 ∧ (topV n d k).2 ≤ uB k)
  | 0 => by simp [topV, uB]
  | k + 1 => by
    obtain ⟨⟨a1, a2⟩, b1, b2⟩ := topV_bd n d hn hd hd2 k
    rw [topV, uB]
    simp only
    generalize (topV n d k).1 = x at *
    generalize (topV n d k).2 = y at *
    have p1 : 0 ≤ (x + y) * d := Int.mul_nonneg (by omega) (by omega)
    have p2 : (x + y) * d ≤ (2 * uB k) * 64 := Int.mul_le_mul (by omega) hd2 (by omega) (by omega)
    have p3 : 1 * 1 ≤ y * n := Int.mul_le_mul b1 hn (by omega) (by omega)
    have p4 : y * n ≤ uB k * 64 := Int.mul_le_mul b2 (by omega) (by omega) (by omega)
    have := uB_pos k
    omega
def sumV (n d : Int) (k : Nat) : Fr := lowV (topV n d k).1 (topV n d k).2
theorem sumV_bd (n d : Int) (hn : 1 ≤ n) (hd : n ≤ d) (hd2 : d ≤ 64) (k : Nat) : (0 ≤ (sumV n d k).num ∧ (sumV n d k).num ≤ uB k) ∧ (1 ≤ (sumV n d k).den ∧ (sumV n d k).den ≤ uB k) := by
  obtain ⟨⟨a1, a2⟩, b1, b2⟩ := topV_bd n d hn hd hd2 k
  unfold sumV
  have h1 := lowV_num (topV n d k).1 (topV n d k).2 a1 (by omega)
  have h2 := lowV_den (topV n d k).1 (topV n d k).2 (by omega)
  have h3 := lowV_le (topV n d k).1 (topV n d k).2 a1 (by omega)
  omega
theorem sumV_step (n d : Int) (hn : 1 ≤ n) (hd : n ≤ d) (hd2 : d ≤ 64) (k : Nat) : sumV n d (k + 1) = lowV (((sumV n d k).num + (sumV n d k).den) * d) ((sumV n d k).den * n) := by
  obtain ⟨⟨a1, a2⟩, b1, b2⟩ := topV_bd n d hn hd hd2 k
  obtain ⟨g, hg, e1, e2⟩ := lowV_spec (topV n d k).1 (topV n d k).2 (by omega)
  have hs := sumV_bd n d hn hd hd2 k
  have s1 : (topV n d k).1 = g * (sumV n d k).num := e1
  have s2 : (topV n d k).2 = g * (sumV n d k).den := e2
  show lowV (topV n d (k + 1)).1 (topV n d (k + 1)).2 = _
  rw [topV]
  simp only
  generalize sumV n d k = s at *
  rw [s1, s2, show (g * s.num + g * s.den) * d = g * ((s.num + s.den) * d) by rw [← Int.mul_add, Int.mul_assoc], Int.mul_assoc g s.den n]
  have p : 1 * 1 ≤ s.den * n := Int.mul_le_mul hs.2.1 hn (by omega) (by omega)
  exact lowV_mul g _ _ hg (by omega)
theorem sumV_zero (n d : Int) : sumV n d 0 = ⟨0, 1⟩ := by
  unfold sumV
  simp only [topV]
  have : Int.gcd 0 1 = 1 := by decide
  unfold lowV
  rw [this]
  rfl
def expBad (l c n d : Int) : Prop := l < 0 ∨ c < 0 ∨ 8 < l ∨ 8 - l < c ∨ n < 1 ∨ d < n ∨ 64 < d
def expV (l c n d : Int) : Fr × Int := if l < 0 ∨ c < 0 ∨ 8 < l ∨ 8 - l < c ∨ n < 1 ∨ d < n ∨ 64 < d then (⟨0, 0⟩, 3) else (sumV n d (l + c).toNat, 0)
theorem exp_bad {l c n d : Int} (h : expBad l c n d) : expV l c n d = (⟨0, 0⟩, 3) := by unfold expV; exact if_pos h
theorem exp_good {l c n d : Int} (h : ¬ expBad l c n d) {k : Nat} (hk : (k : Int) = l + c) : expV l c n d = (sumV n d k, 0) := by
  unfold expV
  rw [if_neg (show ¬ (l < 0 ∨ c < 0 ∨ 8 < l ∨ 8 - l < c ∨ n < 1 ∨ d < n ∨ 64 < d) from h), show (l + c).toNat = k by omega]
def ExpPost (l c n d : Int) (w : World) : Ending → World → Prop := ExtPost w (.tuple #[.agg #[.int .i64 (expV l c n d).1.num, .int .i64 (expV l c n d).1.den], .int .i64 (expV l c n d).2])
def ExRel (w : World) (n d : Int) (K g8 g10 : Nat) (g : Nat) (i : Value) (wr : World) : Prop :=
  ∃ k : Nat, k ≤ K ∧ i = .int .i64 k ∧ g = K - k ∧ Ext w wr ∧ Blk wr g8 27 #[.int .i64 0, .int .i64 0] ∧ Blk wr g10 27 #[.int .i64 (sumV n d k).num, .int .i64 (sumV n d k).den]
def ExRelR (w : World) (n d : Int) (K : Nat) (g : Nat) (a b i : Value) (wr : World) : Prop :=
  ∃ k : Nat, k ≤ K ∧ i = .int .i64 k ∧ g = K - k ∧ wr = w ∧ a = .int .i64 (topV n d k).1 ∧ b = .int .i64 (topV n d k).2
theorem step_bd (x y d n u : Int) (hx : 0 ≤ x ∧ x ≤ u) (hy : 1 ≤ y ∧ y ≤ u) (hu : u ≤ 562949953421312) (hn : 1 ≤ n) (hd : n ≤ d) (hd2 : d ≤ 64) : (0 ≤ (x + y) * d ∧ (x + y) * d ≤ 144115188075855872) ∧ (1 ≤ y * n ∧ y * n ≤ 144115188075855872) := by
  have p1 : 0 ≤ (x + y) * d := Int.mul_nonneg (by omega) (by omega)
  have p2 : (x + y) * d ≤ (2 * 562949953421312) * 64 := Int.mul_le_mul (by omega) hd2 (by omega) (by omega)
  have p3 : 1 * 1 ≤ y * n := Int.mul_le_mul hy.1 hn (by omega) (by omega)
  have p4 : y * n ≤ 562949953421312 * 64 := Int.mul_le_mul (by omega) (by omega) (by omega) (by omega)
  omega

set_option maxRecDepth 100000 in
set_option maxHeartbeats 3200000 in
theorem expected_any (l c n d : Int) (w : World) : Calls Try.prog 27 #[.int .i64 l, .int .i64 c, .int .i64 n, .int .i64 d] w (ExpPost l c n d w) := by
  by_cases q0 : l < 0
  · have HV := Lib.hid (exp_bad (l := l) (c := c) (n := n) (d := d) (by unfold expBad; omega))
    go_enter Try.func27, Try.ntmps27
    go_wp2_with fail
    refine bodyPost_ret (v := .tuple #[.agg #[.int .i64 0, .int .i64 0], .int .i64 3]) (by simp [results, Try.results27, go_sem]) rfl ?_
    unfold ExpPost
    rw [HV.out]
    exact ⟨rfl, (Ext.refl w).allocs _⟩
  by_cases q1 : c < 0
  · have HV := Lib.hid (exp_bad (l := l) (c := c) (n := n) (d := d) (by unfold expBad; omega))
    go_enter Try.func27, Try.ntmps27
    go_wp2_with fail
    refine bodyPost_ret (v := .tuple #[.agg #[.int .i64 0, .int .i64 0], .int .i64 3]) (by simp [results, Try.results27, go_sem]) rfl ?_
    unfold ExpPost
    rw [HV.out]
    exact ⟨rfl, (Ext.refl w).allocs _⟩
  by_cases q2 : 8 < l
  · have HV := Lib.hid (exp_bad (l := l) (c := c) (n := n) (d := d) (by unfold expBad; omega))
    go_enter Try.func27, Try.ntmps27
    go_wp2_with fail
    refine bodyPost_ret (v := .tuple #[.agg #[.int .i64 0, .int .i64 0], .int .i64 3]) (by simp [results, Try.results27, go_sem]) rfl ?_
    unfold ExpPost
    rw [HV.out]
    exact ⟨rfl, (Ext.refl w).allocs _⟩
  by_cases q3 : 8 - l < c
  · have HV := Lib.hid (exp_bad (l := l) (c := c) (n := n) (d := d) (by unfold expBad; omega))
    go_enter Try.func27, Try.ntmps27
    go_wp2_with fail
    refine bodyPost_ret (v := .tuple #[.agg #[.int .i64 0, .int .i64 0], .int .i64 3]) (by simp [results, Try.results27, go_sem]) rfl ?_
    unfold ExpPost
    rw [HV.out]
    exact ⟨rfl, (Ext.refl w).allocs _⟩
  by_cases q4 : n < 1
  · have HV := Lib.hid (exp_bad (l := l) (c := c) (n := n) (d := d) (by unfold expBad; omega))
    go_enter Try.func27, Try.ntmps27
    go_wp2_with fail
    refine bodyPost_ret (v := .tuple #[.agg #[.int .i64 0, .int .i64 0], .int .i64 3]) (by simp [results, Try.results27, go_sem]) rfl ?_
    unfold ExpPost
    rw [HV.out]
    exact ⟨rfl, (Ext.refl w).allocs _⟩
  by_cases q5 : d < n
  · have HV := Lib.hid (exp_bad (l := l) (c := c) (n := n) (d := d) (by unfold expBad; omega))
    go_enter Try.func27, Try.ntmps27
    go_wp2_with fail
    refine bodyPost_ret (v := .tuple #[.agg #[.int .i64 0, .int .i64 0], .int .i64 3]) (by simp [results, Try.results27, go_sem]) rfl ?_
    unfold ExpPost
    rw [HV.out]
    exact ⟨rfl, (Ext.refl w).allocs _⟩
  by_cases q6 : 64 < d
  · have HV := Lib.hid (exp_bad (l := l) (c := c) (n := n) (d := d) (by unfold expBad; omega))
    go_enter Try.func27, Try.ntmps27
    go_wp2_with fail
    refine bodyPost_ret (v := .tuple #[.agg #[.int .i64 0, .int .i64 0], .int .i64 3]) (by simp [results, Try.results27, go_sem]) rfl ?_
    unfold ExpPost
    rw [HV.out]
    exact ⟨rfl, (Ext.refl w).allocs _⟩
  obtain ⟨K, hK⟩ : ∃ K : Nat, (K : Int) = l + c := ⟨(l + c).toNat, by omega⟩
  have HV := Lib.hid (exp_good (l := l) (c := c) (n := n) (d := d) (by unfold expBad; omega) hK)
  have HK := Lib.hid hK
  have hK8 : K ≤ 8 := by omega
  have n1 : 1 ≤ n := by omega
  have n2 : n ≤ d := by omega
  have n3 : d ≤ 64 := by omega
  clear hK
  go_enter Try.func27, Try.ntmps27
  go_wp2_with fail
  rw [← HK.out]
  have hB8 := (Blk.new w 27 #[.int .i64 0, .int .i64 0]).allocs (.cells #[.int .i64 0, .int .i64 1] 27)
  have hB10 := Blk.newAt (w := w.alloc (.cells #[.int .i64 0, .int .i64 0] 27)) (g := w.heap.size + 1) (t := 27) (cs := #[.int .i64 0, .int .i64 1]) (by simp)
  have hX := ((Ext.refl w).allocs (.cells #[.int .i64 0, .int .i64 0] 27)).allocs (.cells #[.int .i64 0, .int .i64 1] 27)
  obtain ⟨g10, hg10⟩ : ∃ g, w.heap.size + 1 = g := ⟨_, rfl⟩
  have h10 : w.heap.size ≤ g10 := by omega
  have h10n : w.heap.size ≠ g10 := by omega
  obtain ⟨g8, hg8⟩ : ∃ g, w.heap.size = g := ⟨_, rfl⟩
  have h8 : w.heap.size ≤ g8 := by omega
  rw [hg10] at hB10 ⊢
  rw [hg8] at hB8 h10n
  clear hg10
  obtain ⟨W, hW⟩ : ∃ W, (w.alloc (.cells #[.int .i64 0, .int .i64 0] 27)).alloc (.cells #[.int .i64 0, .int .i64 1] 27) = W := ⟨_, rfl⟩
  rw [hW] at hB8 hB10 hX ⊢
  clear hW
  rw [hg8]
  clear hg8
  go_loopg [44] K (fun g i wr => ExRel w n d K g8 g10 g i wr)
  case atStart => exact ⟨0, Nat.zero_le _, rfl, rfl, hX, hB8, by rw [sumV_zero]; exact hB10⟩
  case round =>
    clear hB8 hB10 hX
    obtain ⟨k, hk, rfl, rfl, hE, hB8, hB10⟩ := hrel
    by_cases hlt : k < K
    · have hb := sumV_bd n d n1 n2 n3 k
      have hu := uB_le k (by omega)
      have HS := Lib.hid (sumV_step n d n1 n2 n3 k)
      generalize sumV n d k = s at *
      have hst := step_bd s.num s.den d n (uB k) hb.1 hb.2 hu n1 n2 n3
      have hs1 : s.num ≤ 562949953421312 := by omega
      have hs2 : s.den ≤ 562949953421312 := by omega
      obtain ⟨⟨b1, _⟩, b3, _⟩ := hb
      clear hu
      obtain ⟨c0, c1⟩ := blk2 hB10
      go_wp2_with fail
      refine (lowest_any ((s.num + s.den) * d) (s.den * n) _ (by omega) (by omega) (by omega) (by omega)).mono ?_
      rintro e w2 ⟨rfl, hE2⟩
      have hBx := hB10.ext hE2
      have hB8x := hB8.ext hE2
      have hEx := Ext.trans hE hE2
      clear c0 c1 hE2 hB10 hB8 hE
      obtain ⟨c0, c1⟩ := blk2 hBx
      have f0 := hBx.frozen 0
      have f1 := hBx.frozen 1
      generalize lowV ((s.num + s.den) * d) (s.den * n) = t at *
      go_wp2_with fail
      go_roundg (K - (k + 1))
      case measure => omega
      case rel => exact ⟨k + 1, by omega, by go_num, rfl, Ext.setCells h10 [.int .i64 t.num, .int .i64 t.den] 0 _ hEx, hB8x.setOther 0 [.int .i64 t.num, .int .i64 t.den] (by omega), by rw [HS.out]; exact Blk.sets (w := w2) [.int .i64 t.num, .int .i64 t.den] 0 _ _ hBx⟩
    · obtain rfl : k = K := by omega
      obtain ⟨c0, c1⟩ := blk2 hB10
      obtain ⟨a0, a1⟩ := blk2 hB8
      have f0 := hB8.frozen 0
      have f1 := hB8.frozen 1
      generalize sumV n d k = s at *
      go_wp2_with fail
      refine bodyPost_ret (v := .tuple #[.agg #[.int .i64 s.num, .int .i64 s.den], .int .i64 0]) (by simp [results, Try.results27, go_sem, *]) rfl ?_
      unfold ExpPost
      rw [HV.out]
      exact ⟨rfl, Ext.setCells h8 [.int .i64 s.num, .int .i64 s.den] 0 _ hE⟩

set_option maxRecDepth 100000 in
set_option maxHeartbeats 3200000 in
theorem expected_ref (l c n d : Int) (w : World) : Calls Try.prog 28 #[.int .i64 l, .int .i64 c, .int .i64 n, .int .i64 d] w (ExpPost l c n d w) := by
  by_cases q0 : l < 0
  · have HV := Lib.hid (exp_bad (l := l) (c := c) (n := n) (d := d) (by unfold expBad; omega))
    go_enter Try.func28, Try.ntmps28
    go_wp2_with fail
    refine bodyPost_ret (v := .tuple #[.agg #[.int .i64 0, .int .i64 0], .int .i64 3]) (by simp [results, Try.results28, go_sem]) rfl ?_
    unfold ExpPost
    rw [HV.out]
    exact ⟨rfl, (Ext.refl w).allocs _⟩
  by_cases q1 : c < 0
  · have HV := Lib.hid (exp_bad (l := l) (c := c) (n := n) (d := d) (by unfold expBad; omega))
    go_enter Try.func28, Try.ntmps28
    go_wp2_with fail
    refine bodyPost_ret (v := .tuple #[.agg #[.int .i64 0, .int .i64 0], .int .i64 3]) (by simp [results, Try.results28, go_sem]) rfl ?_
    unfold ExpPost
    rw [HV.out]
    exact ⟨rfl, (Ext.refl w).allocs _⟩
  by_cases q2 : 8 < l
  · have HV := Lib.hid (exp_bad (l := l) (c := c) (n := n) (d := d) (by unfold expBad; omega))
    go_enter Try.func28, Try.ntmps28
    go_wp2_with fail
    refine bodyPost_ret (v := .tuple #[.agg #[.int .i64 0, .int .i64 0], .int .i64 3]) (by simp [results, Try.results28, go_sem]) rfl ?_
    unfold ExpPost
    rw [HV.out]
    exact ⟨rfl, (Ext.refl w).allocs _⟩
  by_cases q3 : 8 < c
  · have HV := Lib.hid (exp_bad (l := l) (c := c) (n := n) (d := d) (by unfold expBad; omega))
    go_enter Try.func28, Try.ntmps28
    go_wp2_with fail
    refine bodyPost_ret (v := .tuple #[.agg #[.int .i64 0, .int .i64 0], .int .i64 3]) (by simp [results, Try.results28, go_sem]) rfl ?_
    unfold ExpPost
    rw [HV.out]
    exact ⟨rfl, (Ext.refl w).allocs _⟩
  by_cases q4 : 8 < l + c
  · have HV := Lib.hid (exp_bad (l := l) (c := c) (n := n) (d := d) (by unfold expBad; omega))
    go_enter Try.func28, Try.ntmps28
    go_wp2_with fail
    refine bodyPost_ret (v := .tuple #[.agg #[.int .i64 0, .int .i64 0], .int .i64 3]) (by simp [results, Try.results28, go_sem]) rfl ?_
    unfold ExpPost
    rw [HV.out]
    exact ⟨rfl, (Ext.refl w).allocs _⟩
  by_cases q5 : n < 1
  · have HV := Lib.hid (exp_bad (l := l) (c := c) (n := n) (d := d) (by unfold expBad; omega))
    go_enter Try.func28, Try.ntmps28
    go_wp2_with fail
    refine bodyPost_ret (v := .tuple #[.agg #[.int .i64 0, .int .i64 0], .int .i64 3]) (by simp [results, Try.results28, go_sem]) rfl ?_
    unfold ExpPost
    rw [HV.out]
    exact ⟨rfl, (Ext.refl w).allocs _⟩
  by_cases q6 : d < n
  · have HV := Lib.hid (exp_bad (l := l) (c := c) (n := n) (d := d) (by unfold expBad; omega))
    go_enter Try.func28, Try.ntmps28
    go_wp2_with fail
    refine bodyPost_ret (v := .tuple #[.agg #[.int .i64 0, .int .i64 0], .int .i64 3]) (by simp [results, Try.results28, go_sem]) rfl ?_
    unfold ExpPost
    rw [HV.out]
    exact ⟨rfl, (Ext.refl w).allocs _⟩
  by_cases q7 : 64 < d
  · have HV := Lib.hid (exp_bad (l := l) (c := c) (n := n) (d := d) (by unfold expBad; omega))
    go_enter Try.func28, Try.ntmps28
    go_wp2_with fail
    refine bodyPost_ret (v := .tuple #[.agg #[.int .i64 0, .int .i64 0], .int .i64 3]) (by simp [results, Try.results28, go_sem]) rfl ?_
    unfold ExpPost
    rw [HV.out]
    exact ⟨rfl, (Ext.refl w).allocs _⟩
  obtain ⟨K, hK⟩ : ∃ K : Nat, (K : Int) = l + c := ⟨(l + c).toNat, by omega⟩
  have HV := Lib.hid (exp_good (l := l) (c := c) (n := n) (d := d) (by unfold expBad; omega) hK)
  have HK := Lib.hid hK
  have hK8 : K ≤ 8 := by omega
  have n1 : 1 ≤ n := by omega
  have n2 : n ≤ d := by omega
  have n3 : d ≤ 64 := by omega
  clear hK
  go_enter Try.func28, Try.ntmps28
  go_wp2_with fail
  have hB8 := Blk.new w 27 #[.int .i64 0, .int .i64 0]
  have hX := (Ext.refl w).allocs (.cells #[.int .i64 0, .int .i64 0] 27)
  obtain ⟨g8, hg8⟩ : ∃ g, w.heap.size = g := ⟨_, rfl⟩
  have h8 : w.heap.size ≤ g8 := by omega
  rw [hg8] at hB8 ⊢
  clear hg8
  obtain ⟨W, hW⟩ : ∃ W, w.alloc (.cells #[.int .i64 0, .int .i64 0] 27) = W := ⟨_, rfl⟩
  rw [hW] at hB8 hX ⊢
  clear hW
  go_loopg [10, 11, 12] K (fun g a b i wr => ExRelR W n d K g a b i wr)
  case atStart => exact ⟨0, Nat.zero_le _, rfl, rfl, rfl, rfl, rfl⟩
  case round =>
    obtain ⟨k, hk, rfl, rfl, rfl, rfl, rfl⟩ := hrel
    have hb := topV_bd n d n1 n2 n3 k
    by_cases hlt : k < K
    · have hu := uB_le k (by omega)
      have HS : Hid (topV n d (k + 1) = (((topV n d k).1 + (topV n d k).2) * d, (topV n d k).2 * n)) := rfl
      generalize topV n d k = s at *
      have hst := step_bd s.1 s.2 d n (uB k) hb.1 hb.2 hu n1 n2 n3
      have hs1 : s.1 ≤ 562949953421312 := by omega
      have hs2 : s.2 ≤ 562949953421312 := by omega
      obtain ⟨⟨b1, _⟩, b3, _⟩ := hb
      clear hu
      have hkl : (k : Int) < l + c := by have := HK.out; omega
      go_wp2_with fail
      go_roundg (K - (k + 1))
      case measure => omega
      case rel => exact ⟨k + 1, by omega, by go_num, rfl, rfl, by rw [HS.out], by rw [HS.out]⟩
    · obtain rfl : k = K := by omega
      have hu := uB_le8 k (by omega)
      have hkl : ¬ (k : Int) < l + c := by have := HK.out; omega
      have HL : Hid (sumV n d k = lowV (topV n d k).1 (topV n d k).2) := rfl
      generalize topV n d k = s at *
      obtain ⟨⟨b1, b2⟩, b3, b4⟩ := hb
      have hs1 : s.1 ≤ 72057594037927936 := by omega
      have hs2 : s.2 ≤ 72057594037927936 := by omega
      clear b2 b4 hu
      go_wp2_with fail
      refine (reduced_any s.1 s.2 _ b1 (by omega) (by omega) (by omega)).mono ?_
      rintro e w2 ⟨rfl, hE2⟩
      have hBx := hB8.ext hE2
      have hEx := Ext.trans hX hE2
      obtain ⟨a0, a1⟩ := blk2 hBx
      have f0 := hBx.frozen 0
      have f1 := hBx.frozen 1
      generalize lowV s.1 s.2 = t at *
      go_wp2_with fail
      refine bodyPost_ret (v := .tuple #[.agg #[.int .i64 t.num, .int .i64 t.den], .int .i64 0]) (by simp [results, Try.results28, go_sem, *]) rfl ?_
      unfold ExpPost
      rw [HV.out, HL.out]
      exact ⟨rfl, Ext.setCells h8 [.int .i64 t.num, .int .i64 t.den] 0 _ hEx⟩
end Go.Proofs.Ytddcgholnhhcoaa
