/- Chapter 38: Compare of fractions. No statement of the seat is proved here. -/
import Derived.Test.YtddcgholnhhcoaaFrac
namespace Go.Proofs.Ytddcgholnhhcoaa
open Go.RowKit
set_option linter.unusedVariables false

set_option maxHeartbeats 400000 in
theorem cmpI64_any (a b : Int) (w : World) : Calls Try.prog 48 #[.int .i64 a, .int .i64 b] w fun e w' => e = .returned (.int .i64 (cmpI a b)) ∧ w = w' := by
  have HV : Hid (cmpI a b = if a < b then -1 else if b < a then 1 else 0) := rfl
  have hn : ∀ z : Int, (z != z) = false := fun z => by simp
  by_cases h1 : a < b
  · go_enter Try.func48, Try.ntmps48
    go_wp2
    go_ret
    exact ⟨ret_int (by rw [HV.out, if_pos h1]), rfl⟩
  · by_cases h2 : b < a
    · go_enter Try.func48, Try.ntmps48
      go_wp2
      go_ret
      exact ⟨ret_int (by rw [HV.out, if_neg (by omega), if_pos h2]), rfl⟩
    · go_enter Try.func48, Try.ntmps48
      go_wp2
      go_ret
      exact ⟨ret_int (by rw [HV.out, if_neg (by omega), if_neg (by omega)]), rfl⟩
set_option maxHeartbeats 400000 in
theorem cmpU64_any (a b : Int) (w : World) : Calls Try.prog 50 #[.int .u64 a, .int .u64 b] w fun e w' => e = .returned (.int .i64 (cmpI a b)) ∧ w = w' := by
  have HV : Hid (cmpI a b = if a < b then -1 else if b < a then 1 else 0) := rfl
  have hn : ∀ z : Int, (z != z) = false := fun z => by simp
  by_cases h1 : a < b
  · go_enter Try.func50, Try.ntmps50
    go_wp2
    go_ret
    exact ⟨ret_int (by rw [HV.out, if_pos h1]), rfl⟩
  · by_cases h2 : b < a
    · go_enter Try.func50, Try.ntmps50
      go_wp2
      go_ret
      exact ⟨ret_int (by rw [HV.out, if_neg (by omega), if_pos h2]), rfl⟩
    · go_enter Try.func50, Try.ntmps50
      go_wp2
      go_ret
      exact ⟨ret_int (by rw [HV.out, if_neg (by omega), if_neg (by omega)]), rfl⟩

def denV (x : Int) : Int := max x 1
theorem denV_bd (x : Int) (h : x ≤ 9223372036854775807) : 1 ≤ denV x ∧ denV x ≤ 9223372036854775807 := by unfold denV; omega
def magV (a b : Fr) : Int := orV [cmpI (hiV a.num (denV b.den)) (hiV b.num (denV a.den)), cmpI (loV a.num (denV b.den)) (loV b.num (denV a.den))]
def frV (a b : Fr) : Int := if cmpI (cmpI a.num 0) (cmpI b.num 0) = 0 then cmpI a.num 0 * magV a b else cmpI (cmpI a.num 0) (cmpI b.num 0)
theorem hilo_cmp (X Y : Nat) : orV [cmpI ((X / 18446744073709551616 : Nat) : Int) ((Y / 18446744073709551616 : Nat) : Int), cmpI ((X % 18446744073709551616 : Nat) : Int) ((Y % 18446744073709551616 : Nat) : Int)] = cmpI X Y := by
  simp only [orV]
  unfold cmpI
  repeat' split
  all_goals omega
theorem mag_eq (a b : Fr) : magV a b = cmpI ((a.num.natAbs * (denV b.den).natAbs : Nat) : Int) ((b.num.natAbs * (denV a.den).natAbs : Nat) : Int) := hilo_cmp _ _
theorem mag_bd (a b : Fr) : -1 ≤ magV a b ∧ magV a b ≤ 1 := by rw [mag_eq]; exact cmpI_bd _ _
theorem cmpI_pos (a : Int) : 0 < cmpI a 0 ↔ 0 < a := by unfold cmpI; split <;> (try split) <;> omega
theorem cmpI_congr {a b c d : Int} (h1 : a < b ↔ c < d) (h2 : b < a ↔ d < c) : cmpI a b = cmpI c d := by
  unfold cmpI
  by_cases p : a < b
  · rw [if_pos p, if_pos (h1.1 p)]
  · rw [if_neg p, if_neg (fun h => p (h1.2 h))]
    by_cases q : b < a
    · rw [if_pos q, if_pos (h2.1 q)]
    · rw [if_neg q, if_neg (fun h => q (h2.2 h))]
theorem fr_key (a b : Fr) : frV a b = cmpI (a.num * denV b.den) (b.num * denV a.den) := by
  have hA : 1 ≤ denV a.den := by unfold denV; omega
  have hB : 1 ≤ denV b.den := by unfold denV; omega
  unfold frV
  rw [mag_eq]
  push_cast
  generalize denV a.den = A at *
  generalize denV b.den = B at *
  generalize a.num = x at *
  generalize b.num = y at *
  have nA : (A.natAbs : Int) = A := by omega
  have nB : (B.natAbs : Int) = B := by omega
  rw [nA, nB]
  rcases Int.lt_trichotomy x 0 with hx | hx | hx
  · have ex : cmpI x 0 = -1 := by unfold cmpI; rw [if_pos hx]
    have px : x * B < 0 := Int.mul_neg_of_neg_of_pos hx (by omega)
    have nx : (x.natAbs : Int) = -x := by omega
    rcases Int.lt_trichotomy y 0 with hy | hy | hy
    · have ey : cmpI y 0 = -1 := by unfold cmpI; rw [if_pos hy]
      have ny : (y.natAbs : Int) = -y := by omega
      rw [ex, ey, nx, ny, if_pos (by decide), Int.neg_one_mul, ← cmpI_anti, Int.neg_mul, Int.neg_mul]
      exact cmpI_congr (by omega) (by omega)
    · subst hy
      have ey : cmpI (0 : Int) 0 = 0 := by decide
      rw [ex, ey, if_neg (by decide), Int.zero_mul]
      have : cmpI (x * B) 0 = -1 := by unfold cmpI; rw [if_pos px]
      rw [this]; decide
    · have ey : cmpI y 0 = 1 := by unfold cmpI; rw [if_neg (by omega), if_pos hy]
      have py : 0 < y * A := Int.mul_pos hy (by omega)
      rw [ex, ey, if_neg (by decide)]
      have : cmpI (x * B) (y * A) = -1 := by unfold cmpI; rw [if_pos (by omega)]
      rw [this]; decide
  · subst hx
    have ex : cmpI (0 : Int) 0 = 0 := by decide
    rcases Int.lt_trichotomy y 0 with hy | hy | hy
    · have ey : cmpI y 0 = -1 := by unfold cmpI; rw [if_pos hy]
      have py : y * A < 0 := Int.mul_neg_of_neg_of_pos hy (by omega)
      rw [ex, ey, if_neg (by decide), Int.zero_mul]
      have : cmpI 0 (y * A) = 1 := by unfold cmpI; rw [if_neg (by omega), if_pos py]
      rw [this]; decide
    · subst hy
      rw [ex, if_pos (by decide), Int.zero_mul, Int.zero_mul, Int.zero_mul]
      decide
    · have ey : cmpI y 0 = 1 := by unfold cmpI; rw [if_neg (by omega), if_pos hy]
      have py : 0 < y * A := Int.mul_pos hy (by omega)
      rw [ex, ey, if_neg (by decide), Int.zero_mul]
      have : cmpI 0 (y * A) = -1 := by unfold cmpI; rw [if_pos py]
      rw [this]; decide
  · have ex : cmpI x 0 = 1 := by unfold cmpI; rw [if_neg (by omega), if_pos hx]
    have px : 0 < x * B := Int.mul_pos hx (by omega)
    have nx : (x.natAbs : Int) = x := by omega
    rcases Int.lt_trichotomy y 0 with hy | hy | hy
    · have ey : cmpI y 0 = -1 := by unfold cmpI; rw [if_pos hy]
      have py : y * A < 0 := Int.mul_neg_of_neg_of_pos hy (by omega)
      rw [ex, ey, if_neg (by decide)]
      have : cmpI (x * B) (y * A) = 1 := by unfold cmpI; rw [if_neg (by omega), if_pos (by omega)]
      rw [this]; decide
    · subst hy
      have ey : cmpI (0 : Int) 0 = 0 := by decide
      rw [ex, ey, if_neg (by decide), Int.zero_mul]
      have : cmpI (x * B) 0 = 1 := by unfold cmpI; rw [if_neg (by omega), if_pos px]
      rw [this]; decide
    · have ey : cmpI y 0 = 1 := by unfold cmpI; rw [if_neg (by omega), if_pos hy]
      have ny : (y.natAbs : Int) = y := by omega
      rw [ex, ey, nx, ny, if_pos (by decide), Int.one_mul]
def Fr.ok (f : Fr) : Prop := (-9223372036854775808 ≤ f.num ∧ f.num ≤ 9223372036854775807) ∧ (-9223372036854775808 ≤ f.den ∧ f.den ≤ 9223372036854775807)
def BoxRel (w : World) (g g' : Nat) (a b : Fr) (hh ll : Int) (s : Value) (wx : World) : Prop :=
  ∃ g7 : Nat, s = .pointer (some ⟨g7, 0, none⟩) ∧ Blk wx g7 72 #[.int .u64 hh, .int .u64 ll] ∧ Blk wx g 27 #[.int .i64 a.num, .int .i64 a.den] ∧ Blk wx g' 27 #[.int .i64 b.num, .int .i64 b.den] ∧ Ext w wx

set_option maxRecDepth 100000 in
set_option maxHeartbeats 3200000 in
theorem compare_any (a b : Fr) (w : World) (ha : a.ok) (hb : b.ok) :
    Calls Try.prog 29 #[.agg #[.int .i64 a.num, .int .i64 a.den], .agg #[.int .i64 b.num, .int .i64 b.den]] w (ExtPost w (.int .i64 (frV a b))) := by
  obtain ⟨ha1, ha2⟩ := ha
  obtain ⟨hb1, hb2⟩ := hb
  have hBa := (Blk.new w 27 #[.int .i64 a.num, .int .i64 a.den]).allocs (.cells #[.int .i64 b.num, .int .i64 b.den] 27)
  have hBb := Blk.newAt (w := w.alloc (.cells #[.int .i64 a.num, .int .i64 a.den] 27)) (g := w.heap.size + 1) (t := 27) (cs := #[.int .i64 b.num, .int .i64 b.den]) (by simp)
  have hX := ((Ext.refl w).allocs (.cells #[.int .i64 a.num, .int .i64 a.den] 27)).allocs (.cells #[.int .i64 b.num, .int .i64 b.den] 27)
  go_enter Try.func29, Try.ntmps29
  go_wp2_with fail
  obtain ⟨gb, hgb⟩ : ∃ g, w.heap.size + 1 = g := ⟨_, rfl⟩
  obtain ⟨ga, hga⟩ : ∃ g, w.heap.size = g := ⟨_, rfl⟩
  rw [hgb] at hBb ⊢
  rw [hga] at hBa ⊢
  obtain ⟨W, hW⟩ : ∃ W, (w.alloc (.cells #[.int .i64 a.num, .int .i64 a.den] 27)).alloc (.cells #[.int .i64 b.num, .int .i64 b.den] 27) = W := ⟨_, rfl⟩
  rw [hW] at hBa hBb hX ⊢
  clear hW hga hgb
  obtain ⟨a0, a1⟩ := blk2 hBa
  obtain ⟨b0, b1⟩ := blk2 hBb
  have HF : Hid (frV a b = if cmpI (cmpI a.num 0) (cmpI b.num 0) = 0 then cmpI a.num 0 * magV a b else cmpI (cmpI a.num 0) (cmpI b.num 0)) := rfl
  have hsb := cmpI_bd a.num 0
  refine (cmpI64_any a.num 0 _).mono ?_
  rintro e w' ⟨rfl, rfl⟩
  obtain ⟨s, es⟩ : ∃ s, cmpI a.num 0 = s := ⟨_, rfl⟩
  rw [es] at HF hsb ⊢
  clear es
  go_wp2_with fail
  refine (cmpI64_any b.num 0 _).mono ?_
  rintro e w' ⟨rfl, rfl⟩
  obtain ⟨t, et⟩ : ∃ s, cmpI b.num 0 = s := ⟨_, rfl⟩
  rw [et] at HF ⊢
  clear et
  go_wp2_with fail
  refine (cmpInt_any s t _).mono ?_
  rintro e w' ⟨rfl, rfl⟩
  obtain ⟨c, ec⟩ : ∃ c, cmpI s t = c := ⟨_, rfl⟩
  rw [ec] at HF ⊢
  clear ec
  by_cases h0 : c = 0
  rotate_left
  · have h0' : (c != 0) = true := by simp [h0]
    have HV : Hid (frV a b = c) := by show frV a b = c; rw [HF.out, if_neg h0]
    clear h0 HF
    go_wp2_with fail
    go_ret
    exact ⟨ret_int HV.out.symm, hX⟩
  · subst h0
    have HV : Hid (frV a b = s * magV a b) := by show frV a b = _; rw [HF.out, if_pos rfl]
    have hmb := mag_bd a b
    have HM : Hid (magV a b = orV [cmpI (hiV a.num (denV b.den)) (hiV b.num (denV a.den)), cmpI (loV a.num (denV b.den)) (loV b.num (denV a.den))]) := rfl
    clear HF
    have HDa : Hid (denV a.den = max a.den 1) := rfl
    have HDb : Hid (denV b.den = max b.den 1) := rfl
    have hda := denV_bd a.den ha2.2
    have hdb := denV_bd b.den hb2.2
    have PA := Lib.hid (product_any a.num (denV b.den) ha1 hdb)
    have PB := Lib.hid (product_any b.num (denV a.den) hb1 hda)
    go_upto_region 5 with fail
    go_cut [7] (fun s7 wx => BoxRel w ga gb a b (hiV a.num (denV b.den)) (loV a.num (denV b.den)) s7 wx)
    case first =>
      by_cases hlt : b.den < 1
      · have e : denV b.den = 1 := by rw [HDb.out]; omega
        have E := Lib.hid e
        rw [e] at PA
        clear e
        go_wp2_with fail
        refine (PA.out _).mono ?_
        rintro e w2 ⟨rfl, hE2⟩
        go_wp2_with fail
        go_meet
        rw [E.out]
        exact ⟨w2.heap.size, rfl, Blk.new _ _ _, (hBa.ext hE2).allocs _, (hBb.ext hE2).allocs _, (Ext.trans hX hE2).allocs _⟩
      · have e : denV b.den = b.den := by rw [HDb.out]; omega
        have E := Lib.hid e
        rw [e] at PA
        clear e
        go_wp2_with fail
        refine (PA.out _).mono ?_
        rintro e w2 ⟨rfl, hE2⟩
        go_wp2_with fail
        go_meet
        rw [E.out]
        exact ⟨w2.heap.size, rfl, Blk.new _ _ _, (hBa.ext hE2).allocs _, (hBb.ext hE2).allocs _, (Ext.trans hX hE2).allocs _⟩
    case rest =>
      clear a0 a1 b0 b1 hBa hBb hX
      obtain ⟨g7, rfl, hB7, hBa, hBb, hX⟩ := hcut
      obtain ⟨a0, a1⟩ := blk2 hBa
      obtain ⟨b0, b1⟩ := blk2 hBb
      go_upto_region 6 with fail
      go_cut [8] (fun s8 wx => BoxRel w ga gb a b (hiV b.num (denV a.den)) (loV b.num (denV a.den)) s8 wx ∧ Blk wx g7 72 #[.int .u64 (hiV a.num (denV b.den)), .int .u64 (loV a.num (denV b.den))])
      case first =>
        by_cases hlt : a.den < 1
        · have e : denV a.den = 1 := by rw [HDa.out]; omega
          have E := Lib.hid e
          rw [e] at PB
          clear e
          go_wp2_with fail
          refine (PB.out _).mono ?_
          rintro e w2 ⟨rfl, hE2⟩
          go_wp2_with fail
          go_meet
          rw [E.out]
          exact ⟨⟨w2.heap.size, rfl, Blk.new _ _ _, (hBa.ext hE2).allocs _, (hBb.ext hE2).allocs _, (Ext.trans hX hE2).allocs _⟩, (hB7.ext hE2).allocs _⟩
        · have e : denV a.den = a.den := by rw [HDa.out]; omega
          have E := Lib.hid e
          rw [e] at PB
          clear e
          go_wp2_with fail
          refine (PB.out _).mono ?_
          rintro e w2 ⟨rfl, hE2⟩
          go_wp2_with fail
          go_meet
          rw [E.out]
          exact ⟨⟨w2.heap.size, rfl, Blk.new _ _ _, (hBa.ext hE2).allocs _, (hBb.ext hE2).allocs _, (Ext.trans hX hE2).allocs _⟩, (hB7.ext hE2).allocs _⟩
      case rest =>
        clear a0 a1 b0 b1 hBa hBb hX hB7
        obtain ⟨⟨g8, rfl, hB8, _, _, hX⟩, hB7⟩ := hcut
        clear PA PB HDa HDb hda hdb
        generalize hiV a.num (denV b.den) = h1 at *
        generalize loV a.num (denV b.den) = l1 at *
        generalize hiV b.num (denV a.den) = h2 at *
        generalize loV b.num (denV a.den) = l2 at *
        have hsm : -1 ≤ s * magV a b ∧ s * magV a b ≤ 1 := by
          have : s = -1 ∨ s = 0 ∨ s = 1 := by omega
          rcases this with rfl | rfl | rfl <;> omega
        rw [HM.out] at HV hsm hmb
        have hwr : IntKind.i64.wrap (s * orV [cmpI h1 h2, cmpI l1 l2]) = s * orV [cmpI h1 h2, cmpI l1 l2] := IntWalk.i64_in _ (by omega)
        have k7 := blk2 hB7
        have k8 := blk2 hB8
        obtain ⟨k70, k71⟩ := k7
        obtain ⟨k80, k81⟩ := k8
        go_wp2_with fail
        go_region_held3 (fun w' => w'.cell? ⟨g7, 0, none⟩ = some (.int .u64 h1) ∧ w'.cell? ⟨g8, 0, none⟩ = some (.int .u64 h2) ∧ w'.cell? ⟨g7, 1, none⟩ = some (.int .u64 l1) ∧ w'.cell? ⟨g8, 1, none⟩ = some (.int .u64 l2))
          (first | (refine ⟨?_, ?_, ?_, ?_⟩ <;> (repeat (first | with_reducible exact k70 | with_reducible exact k71 | with_reducible exact k80 | with_reducible exact k81 | with_reducible refine cell_alloc_one _ ?_ | with_reducible refine cell_drew ?_))))
          (first
            | (go_at_call 50; refine (cmpU64_any _ _ _).mono ?_; rintro e w' ⟨rfl, rfl⟩)
            | (go_at_call 43; refine (or_two (x := cmpI h1 h2) (y := cmpI l1 l2) 3 _ ?_).mono ?_; (repeat (first | with_reducible exact Blk.new _ _ _ | with_reducible refine Blk.drews ?_ | with_reducible refine Blk.drewNs ?_ _)); rintro e w' ⟨rfl, rfl⟩))
        clear hwr
        go_wp2_with fail
        go_ret
        exact ⟨ret_int HV.out.symm, Below.drew (hX.allocs _)⟩
end Go.Proofs.Ytddcgholnhhcoaa
