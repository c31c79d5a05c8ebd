/- Chapter 38: the walks over numbers: Interval, Overhead, lowest, and the references. No statement of the seat is proved here. -/
import Derived.Test.YtddcgholnhhcoaaCodesN
import Derived.Test.YtddcgholnhhcoaaBase3
import Derived.Test.YtddcgholnhhcoaaWorstPlain
import Derived.RegionTactic
import Derived.WalkLawsBesides
import Derived.IntWalk
import Derived.Shelf.Abstract
import Derived.Deep.DeepCutAuto
namespace Go.Proofs.Ytddcgholnhhcoaa
open Go.RowKit
set_option linter.unusedVariables false

abbrev Fr.val (f : Fr) : Value := .agg #[.int .i64 f.num, .int .i64 f.den]

set_option maxHeartbeats 800000 in
theorem closure_iv (g : Int) (c : Nat) (i : Nat) (w : World) (hc : w.cell? ⟨c, 0, none⟩ = some (.int .i64 g)) (hi : i < 2097152) :
    Calls Try.prog 32 #[.int .i64 i, .pointer (some ⟨c, 0, none⟩)] w fun e w' => e = .returned (.bool (decide (g ≤ ((i : Int) + 1) * ((i : Int) + 2)))) ∧ w = w' := by
  have h1 : (0 : Int) ≤ ((i : Int) + 1) * ((i : Int) + 2) := Int.mul_nonneg (by omega) (by omega)
  have h2 : ((i : Int) + 1) * ((i : Int) + 2) ≤ 2097152 * 2097153 := Int.mul_le_mul (by omega) (by omega) (by omega) (by omega)
  go_enter Try.func32, Try.ntmps32
  go_wp2_with fail
  go_ret
  exact ⟨rfl, rfl⟩

/-- sort.Search over a closure that leaves the memory alone -/
def SearchRel (p : Nat → Bool) (n : Nat) (w : World) (g : Nat) (i j : Value) (wr : World) : Prop :=
  ∃ lo hi : Nat, i = .int .i64 lo ∧ j = .int .i64 hi ∧ lo ≤ hi ∧ hi ≤ n ∧ g = hi - lo ∧ wr = w ∧ (∀ t, t < lo → p t = false) ∧ (hi < n → p hi = true)
def SearchPost (p : Nat → Bool) (n : Nat) (w : World) (e : Ending) (w' : World) : Prop :=
  ∃ r : Nat, e = .returned (.int .i64 r) ∧ r ≤ n ∧ (∀ t, t < r → p t = false) ∧ (r < n → p r = true) ∧ w = w'

set_option maxHeartbeats 1600000 in
theorem search_any (g : Nat) (cb : Array Value) (n : Nat) (p : Nat → Bool) (w : World) (eg : ∀ args w, (callFunc g args).run Try.prog w = .ok (.enter g args) w) (hn : n < 4611686018427387904)
    (hf : ∀ i, i < n → Calls Try.prog g (#[.int .i64 i] ++ cb) w fun e w' => e = .returned (.bool (p i)) ∧ w = w')
    (hmono : ∀ a b, a ≤ b → b < n → p a = true → p b = true) :
    Calls Try.prog 31 #[.int .i64 n, .func (.func g) #[] cb] w (SearchPost p n w) := by
  have HF := Lib.hid hf
  have HM := Lib.hid hmono
  clear hf hmono
  go_enter Try.func31, Try.ntmps31
  go_wp2_with fail
  go_loopg [5, 6] n (fun g i j wr => SearchRel p n w g i j wr)
  case atStart => exact ⟨0, n, rfl, rfl, Nat.zero_le _, Nat.le_refl _, rfl, rfl, fun t ht => absurd ht (Nat.not_lt_zero _), fun h => absurd h (Nat.lt_irrefl _)⟩
  case round =>
    obtain ⟨lo, hi, rfl, rfl, h1, h2, rfl, rfl, h3, h4⟩ := hrel
    have H3 := Lib.hid h3
    have H4 := Lib.hid h4
    clear h3 h4
    by_cases hlt : lo < hi
    · have hc := HF.out ((lo + hi) / 2) (by omega)
      rw [show (((lo + hi) / 2 : Nat) : Int) = ((lo : Int) + (hi : Int)) / 2 by omega] at hc
      cases hp : p ((lo + hi) / 2) <;> rw [hp] at hc
      · have HP := Lib.hid hp
        clear hp
        go_wp2_with (go_at_fn g; refine hc.mono ?_; rintro e w' ⟨rfl, rfl⟩)
        go_roundg (hi - ((lo + hi) / 2 + 1))
        case measure => omega
        case rel => exact ⟨(lo + hi) / 2 + 1, hi, by go_num, rfl, by omega, h2, rfl, rfl, fun t ht => (by
          rcases hb : p t with _ | _
          · rfl
          · have := HM.out t ((lo + hi) / 2) (by omega) (by omega) hb; rw [HP.out] at this; cases this), H4.out⟩
      · have HP := Lib.hid hp
        clear hp
        go_wp2_with (go_at_fn g; refine hc.mono ?_; rintro e w' ⟨rfl, rfl⟩)
        go_roundg ((lo + hi) / 2 - lo)
        case measure => omega
        case rel => exact ⟨lo, (lo + hi) / 2, rfl, by go_num, by omega, by omega, rfl, rfl, H3.out, fun _ => HP.out⟩
    · obtain rfl : lo = hi := by omega
      go_wp2_with fail
      go_ret
      exact ⟨lo, rfl, h2, H3.out, H4.out, rfl⟩

theorem ivq_mono (g : Int) (n : Nat) : ∀ a b : Nat, a ≤ b → b < n → decide (g ≤ ((a : Int) + 1) * ((a : Int) + 2)) = true → decide (g ≤ ((b : Int) + 1) * ((b : Int) + 2)) = true := by
  intro a b h _ h1
  simp only [decide_eq_true_eq] at h1 ⊢
  have : ((a : Int) + 1) * ((a : Int) + 2) ≤ ((b : Int) + 1) * ((b : Int) + 2) := Int.mul_le_mul (by omega) (by omega) (by omega) (by omega)
  omega
theorem prod_bd (x y : Int) : 0 ≤ 2 * clampC x * clampC y ∧ 2 * clampC x * clampC y ≤ 2199023255552 := by
  have h1 := clampC_bd x
  have h2 := clampC_bd y
  have h3 : 0 ≤ 2 * clampC x * clampC y := Int.mul_nonneg (by omega) (by omega)
  have h4 : 2 * clampC x * clampC y ≤ 2097152 * 1048576 := Int.mul_le_mul (by omega) (by omega) (by omega) (by omega)
  omega
theorem isIv_of (g : Int) (hg : g ≤ 2199023255552) (r : Nat) (hr : r ≤ 2097152) (h1 : ∀ t : Nat, t < r → decide (g ≤ ((t : Int) + 1) * ((t : Int) + 2)) = false) (h2 : r < 2097152 → decide (g ≤ ((r : Int) + 1) * ((r : Int) + 2)) = true) : IsIv g (1 + r) := by
  refine ⟨by omega, ?_, ?_⟩
  · by_cases h : r < 2097152
    · have := h2 h
      simp only [decide_eq_true_eq] at this
      rw [show (1 + (r : Int)) * (1 + (r : Int) + 1) = ((r : Int) + 1) * ((r : Int) + 2) by rw [Int.add_comm 1 (r : Int), Int.add_assoc (r : Int) 1 1]; rfl]
      exact this
    · obtain rfl : r = 2097152 := by omega
      have : (1 + ((2097152 : Nat) : Int)) * (1 + ((2097152 : Nat) : Int) + 1) = 4398052802562 := by decide
      omega
  · intro s hs1 hs2
    have := h1 (s - 1).toNat (by omega)
    simp only [decide_eq_false_iff_not] at this
    have e1 : (((s - 1).toNat : Nat) : Int) + 1 = s := by omega
    have e2 : (((s - 1).toNat : Nat) : Int) + 2 = s + 1 := by omega
    rw [e1, e2] at this
    omega

theorem goal_eq {a b x y G : Int} (hx : clampC a = x) (hy : clampC b = y) (hG : G = wrap64 (2 * x * y) ∨ G = 2 * x * y) (hp : 0 ≤ 2 * clampC a * clampC b ∧ 2 * clampC a * clampC b ≤ 2199023255552) : 2 * clampC a * clampC b = G := by
  rw [hx, hy] at hp ⊢
  rcases hG with h | h
  · rw [h, IntWalk.wrap64_in _ (by omega)]
  · exact h.symm
set_option maxHeartbeats 1600000 in
theorem interval_any (a b : Int) (w : World) : Calls Try.prog 15 #[.int .i64 a, .int .i64 b] w (ExtPost w (.int .i64 (ivV (2 * clampC a * clampC b)))) := by
  have hp := prod_bd a b
  have HA : Hid (clampC a = min (max a 0) 1048576) := rfl
  have HB : Hid (clampC b = min (max b 0) 1048576) := rfl
  have ca := clampC_bd a
  have cb := clampC_bd b
  have fin : ∀ G : Int, 2 * clampC a * clampC b = G → ∀ K : Ending → World → Prop, (∀ e w', (∃ r : Nat, e = .returned (.int .i64 r) ∧ r ≤ 2097152 ∧ 1 + (r : Int) = ivV (2 * clampC a * clampC b) ∧ (w.alloc (.cells #[.int .i64 G] 3)) = w') → K e w') →
      Calls Try.prog 31 #[.int .i64 2097152, .func (.func 32) #[] #[.pointer (some ⟨w.heap.size, 0, none⟩)]] (w.alloc (.cells #[.int .i64 G] 3)) K := by
    intro G hG K hK
    rw [hG] at hp
    refine (search_any 32 #[.pointer (some ⟨w.heap.size, 0, none⟩)] 2097152 (fun i => decide (G ≤ ((i : Int) + 1) * ((i : Int) + 2))) _ (fun _ _ => by kernel_rfl) (by omega) ?_ (ivq_mono G _)).mono ?_
    · intro i hi
      exact closure_iv G w.heap.size i _ ((Blk.new w _ _).cell 0) hi
    · rintro e w' ⟨r, rfl, h1, h2, h3, rfl⟩
      refine hK _ _ ⟨r, rfl, h1, ?_, rfl⟩
      rw [hG]; exact (ivV_eq (isIv_of G hp.2 r h1 h2 h3) (by omega)).symm
  have FIN := Lib.hid fin
  clear fin
  go_enter Try.func15, Try.ntmps15
  go_wp2_with fail
  all_goals
    refine FIN.out _ ?g _ ?k
    case g =>
      clear FIN
      first
        | exact goal_eq (x := a) (y := b) (by unfold clampC; omega) (by unfold clampC; omega) (by first | exact .inl rfl | exact .inl (congrArg wrap64 (by omega)) | exact .inr (by omega) | exact .inr (by simp)) hp
        | exact goal_eq (x := a) (y := 0) (by unfold clampC; omega) (by unfold clampC; omega) (by first | exact .inl rfl | exact .inl (congrArg wrap64 (by omega)) | exact .inr (by omega) | exact .inr (by simp)) hp
        | exact goal_eq (x := a) (y := 1048576) (by unfold clampC; omega) (by unfold clampC; omega) (by first | exact .inl rfl | exact .inl (congrArg wrap64 (by omega)) | exact .inr (by omega) | exact .inr (by simp)) hp
        | exact goal_eq (x := 0) (y := b) (by unfold clampC; omega) (by unfold clampC; omega) (by first | exact .inl rfl | exact .inl (congrArg wrap64 (by omega)) | exact .inr (by omega) | exact .inr (by simp)) hp
        | exact goal_eq (x := 0) (y := 0) (by unfold clampC; omega) (by unfold clampC; omega) (by first | exact .inl rfl | exact .inl (congrArg wrap64 (by omega)) | exact .inr (by omega) | exact .inr (by simp)) hp
        | exact goal_eq (x := 0) (y := 1048576) (by unfold clampC; omega) (by unfold clampC; omega) (by first | exact .inl rfl | exact .inl (congrArg wrap64 (by omega)) | exact .inr (by omega) | exact .inr (by simp)) hp
        | exact goal_eq (x := 1048576) (y := b) (by unfold clampC; omega) (by unfold clampC; omega) (by first | exact .inl rfl | exact .inl (congrArg wrap64 (by omega)) | exact .inr (by omega) | exact .inr (by simp)) hp
        | exact goal_eq (x := 1048576) (y := 0) (by unfold clampC; omega) (by unfold clampC; omega) (by first | exact .inl rfl | exact .inl (congrArg wrap64 (by omega)) | exact .inr (by omega) | exact .inr (by simp)) hp
        | exact goal_eq (x := 1048576) (y := 1048576) (by unfold clampC; omega) (by unfold clampC; omega) (by first | exact .inl rfl | exact .inl (congrArg wrap64 (by omega)) | exact .inr (by omega) | exact .inr (by simp)) hp
    case k =>
      rintro e w' ⟨r, rfl, hr, hG, rfl⟩
      have HG := Lib.hid hG
      clear hG
      go_wp2_with fail
      go_ret
      exact ⟨ret_int HG.out, (Ext.refl w).allocs _⟩

/-! ### the reference's interval -/
def RefIvRel (g : Int) (w : World) (k : Nat) (i j : Value) (wr : World) : Prop :=
  ∃ lo hi : Int, i = .int .i64 lo ∧ j = .int .i64 hi ∧ 1 ≤ lo ∧ lo ≤ hi ∧ hi ≤ 4194304 ∧ k = (hi - lo).toNat ∧ wr = w ∧ (∀ s : Int, 1 ≤ s → s < lo → s * (s + 1) < g) ∧ g ≤ hi * (hi + 1)
theorem mid_bd (lo hi : Int) (h1 : 1 ≤ lo) (h2 : lo < hi) (h3 : hi ≤ 4194304) : 0 ≤ (lo + hi) / 2 * ((lo + hi) / 2 + 1) ∧ (lo + hi) / 2 * ((lo + hi) / 2 + 1) ≤ 17592190238720 := by
  have a : 0 ≤ (lo + hi) / 2 := by omega
  have b : (lo + hi) / 2 ≤ 4194304 := by omega
  have c : 0 ≤ (lo + hi) / 2 * ((lo + hi) / 2 + 1) := Int.mul_nonneg (by omega) (by omega)
  have d : (lo + hi) / 2 * ((lo + hi) / 2 + 1) ≤ 4194304 * 4194305 := Int.mul_le_mul b (by omega) (by omega) (by omega)
  omega
theorem sq_mono (s t g : Int) (h0 : 1 ≤ s) (h : s ≤ t) (hg : t * (t + 1) < g) : s * (s + 1) < g := by
  have : s * (s + 1) ≤ t * (t + 1) := Int.mul_le_mul h (by omega) (by omega) (by omega)
  omega

set_option maxHeartbeats 3200000 in
theorem interval_ref (a b : Int) (w : World) : Calls Try.prog 16 #[.int .i64 a, .int .i64 b] w (ExtPost w (.int .i64 (ivV (2 * clampC a * clampC b)))) := by
  have hp := prod_bd a b
  go_enter Try.func16, Try.ntmps16
  go_upto_region 1 with fail
  go_cut [5, 6] (fun s5 s6 wx => s5 = .int .i64 (clampC a) ∧ s6 = .int .i64 (clampC b) ∧ wx = w)
  case first =>
    go_wp2_with fail
    all_goals
      go_meet
      refine ⟨?_, ?_, rfl⟩ <;> (congr 1; unfold clampC; omega)
  case rest =>
    obtain ⟨rfl, rfl, rfl⟩ := hcut
    have ca := clampC_bd a
    have cb := clampC_bd b
    have HV : ∀ t : Int, IsIv (2 * clampC a * clampC b) t → t ≤ 4194304 → ivV (2 * clampC a * clampC b) = t := fun t => ivV_eq
    generalize clampC a = x at *
    generalize clampC b = y at *
    have hv := Lib.hid HV
    clear HV
    go_wp2_with fail
    generalize 2 * x * y = G at *
    go_loopg [8, 9] 4194303 (fun k i j wr => RefIvRel G wc k i j wr)
    case atStart => exact ⟨1, 4194304, rfl, rfl, by omega, by omega, by omega, rfl, rfl, fun s h1 h2 => by omega, by omega⟩
    case round =>
      obtain ⟨lo, hi, rfl, rfl, h1, h2, h3, rfl, rfl, h4, h5⟩ := hrel
      have H4 := Lib.hid h4
      have H5 := Lib.hid h5
      clear h4 h5
      by_cases hlt : lo < hi
      · have hm := mid_bd lo hi h1 hlt h3
        have hm1 : lo ≤ (lo + hi) / 2 := by omega
        have hm2 : (lo + hi) / 2 < hi := by omega
        by_cases hc : G ≤ (lo + hi) / 2 * ((lo + hi) / 2 + 1)
        · go_wp2_with fail
          go_roundg ((lo + hi) / 2 - lo).toNat
          case measure => omega
          case rel => exact ⟨lo, (lo + hi) / 2, rfl, rfl, h1, hm1, by omega, rfl, rfl, H4.out, hc⟩
        · go_wp2_with fail
          go_roundg (hi - ((lo + hi) / 2 + 1)).toNat
          case measure => omega
          case rel => exact ⟨(lo + hi) / 2 + 1, hi, rfl, rfl, by omega, by omega, h3, rfl, rfl, fun s g1 g2 => sq_mono s ((lo + hi) / 2) G g1 (by omega) (by omega), H5.out⟩
      · obtain rfl : lo = hi := by omega
        go_wp2_with fail
        go_ret
        exact ⟨ret_int (hv.out lo ⟨h1, H5.out, H4.out⟩ h3).symm, Ext.refl _⟩
end Go.Proofs.Ytddcgholnhhcoaa
