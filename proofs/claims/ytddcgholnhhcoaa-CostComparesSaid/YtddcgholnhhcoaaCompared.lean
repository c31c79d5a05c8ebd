/- The walk of the law CostCompares. -/
import Derived.Test.YtddcgholnhhcoaaArgs38
import Derived.Test.YtddcgholnhhcoaaBestIv
namespace Go.Proofs.Ytddcgholnhhcoaa
open Go.RowKit
set_option linter.unusedVariables false

def LpRel (W : World) (x d : Int) (s5 s6 s7 : Value) (wx : World) : Prop := s5 = .int .i64 (cmpI x 0) ∧ s6 = .int .u64 (hiV x (denV d)) ∧ s7 = .int .u64 (loV x (denV d)) ∧ wx = W
theorem or2_hi {p q x y : Int} (h : p ≠ q) : orV [cmpI p q, cmpI x y] = cmpI p q := by
  have : cmpI p q ≠ 0 := fun e => h ((cmpI_zero p q).1 e)
  simp only [orV, if_neg this]
theorem or2_lo {p x y : Int} : orV [cmpI p p, cmpI x y] = cmpI x y := by
  have : cmpI p p = 0 := (cmpI_zero p p).2 rfl
  simp only [orV, if_pos this]
  split
  · rename_i h; exact h.symm
  · rfl
theorem cmpI_lt {p q : Int} (h : p < q) : cmpI p q = -1 := by unfold cmpI; rw [if_pos h]
theorem cmpI_gt {p q : Int} (h : q < p) : cmpI p q = 1 := by unfold cmpI; rw [if_neg (by omega), if_pos h]

set_option maxRecDepth 100000 in
set_option maxHeartbeats 3200000 in
theorem compared_any (a b : Fr) (w : World) (ha : a.ok) (hb : b.ok) :
    Calls Try.prog 30 #[.agg #[.int .i64 a.num, .int .i64 a.den], .agg #[.int .i64 b.num, .int .i64 b.den]] w (ExtPost w (.bool true)) := by
  have HC := Lib.hid (fun w => compare_any a b w ha hb)
  obtain ⟨ha1, ha2⟩ := ha
  obtain ⟨hb1, hb2⟩ := hb
  have hBa := (Blk.new w 27 #[.int .i64 a.num, .int .i64 a.den]).allocs (.cells #[.int .i64 b.num, .int .i64 b.den] 27)
  have hBb := Blk.newAt (w := w.alloc (.cells #[.int .i64 a.num, .int .i64 a.den] 27)) (g := w.heap.size + 1) (t := 27) (cs := #[.int .i64 b.num, .int .i64 b.den]) (by simp)
  have hX := ((Ext.refl w).allocs (.cells #[.int .i64 a.num, .int .i64 a.den] 27)).allocs (.cells #[.int .i64 b.num, .int .i64 b.den] 27)
  go_enter Try.func30, Try.ntmps30
  go_upto_region 1 with fail
  obtain ⟨gb, hgb⟩ : ∃ g, w.heap.size + 1 = g := ⟨_, rfl⟩
  obtain ⟨ga, hga⟩ : ∃ g, w.heap.size = g := ⟨_, rfl⟩
  rw [hgb] at hBb ⊢
  rw [hga] at hBa ⊢
  obtain ⟨W, hW⟩ : ∃ W, (w.alloc (.cells #[.int .i64 a.num, .int .i64 a.den] 27)).alloc (.cells #[.int .i64 b.num, .int .i64 b.den] 27) = W := ⟨_, rfl⟩
  rw [hW] at hBa hBb hX ⊢
  clear hW hga hgb
  obtain ⟨a0, a1⟩ := blk2 hBa
  obtain ⟨b0, b1⟩ := blk2 hBb
  have HF : Hid (frV a b = if cmpI (cmpI a.num 0) (cmpI b.num 0) = 0 then cmpI a.num 0 * orV [cmpI (hiV a.num (denV b.den)) (hiV b.num (denV a.den)), cmpI (loV a.num (denV b.den)) (loV b.num (denV a.den))] else cmpI (cmpI a.num 0) (cmpI b.num 0)) := rfl
  have hsb := cmpI_bd a.num 0
  have hsb2 := cmpI_bd b.num 0
  have HDa : Hid (denV a.den = max a.den 1) := rfl
  have HDb : Hid (denV b.den = max b.den 1) := rfl
  have hda := denV_bd a.den ha2.2
  have hdb := denV_bd b.den hb2.2
  have PA := Lib.hid (lproduct_any a.num (denV b.den) ha1 hdb)
  have PB := Lib.hid (lproduct_any b.num (denV a.den) hb1 hda)
  clear hda hdb
  go_cut [5, 6, 7] (fun s5 s6 s7 wx => LpRel W a.num b.den s5 s6 s7 wx)
  case first =>
    by_cases hlt : b.den < 1
    · have e : denV b.den = 1 := by rw [HDb.out]; omega
      have E := Lib.hid e
      rw [e] at PA
      clear e
      go_wp2_with fail
      refine (PA.out _).mono ?_
      rintro e w2 ⟨rfl, rfl⟩
      go_wp2_with fail
      go_meet
      unfold LpRel
      rw [E.out]
      exact ⟨rfl, rfl, rfl, rfl⟩
    · have e : denV b.den = b.den := by rw [HDb.out]; omega
      have E := Lib.hid e
      rw [e] at PA
      clear e
      go_wp2_with fail
      refine (PA.out _).mono ?_
      rintro e w2 ⟨rfl, rfl⟩
      go_wp2_with fail
      go_meet
      unfold LpRel
      rw [E.out]
      exact ⟨rfl, rfl, rfl, rfl⟩
  case rest =>
    obtain ⟨rfl, rfl, rfl, rfl⟩ := hcut
    clear PA
    go_upto_region 2 with fail
    go_cut [8, 9, 10] (fun s5 s6 s7 wx => LpRel wc b.num a.den s5 s6 s7 wx)
    case first =>
      by_cases hlt : a.den < 1
      · have e : denV a.den = 1 := by rw [HDa.out]; omega
        have E := Lib.hid e
        rw [e] at PB
        clear e
        go_wp2_with fail
        refine (PB.out _).mono ?_
        rintro e w2 ⟨rfl, rfl⟩
        go_wp2_with fail
        go_meet
        unfold LpRel
        rw [E.out]
        exact ⟨rfl, rfl, rfl, rfl⟩
      · have e : denV a.den = a.den := by rw [HDa.out]; omega
        have E := Lib.hid e
        rw [e] at PB
        clear e
        go_wp2_with fail
        refine (PB.out _).mono ?_
        rintro e w2 ⟨rfl, rfl⟩
        go_wp2_with fail
        go_meet
        unfold LpRel
        rw [E.out]
        exact ⟨rfl, rfl, rfl, rfl⟩
    case rest =>
      obtain ⟨rfl, rfl, rfl, hwc⟩ := hcut
      subst hwc
      clear PB HDa HDb
      generalize hiV a.num (denV b.den) = h1 at *
      generalize loV a.num (denV b.den) = l1 at *
      generalize hiV b.num (denV a.den) = h2 at *
      generalize loV b.num (denV a.den) = l2 at *
      generalize cmpI a.num 0 = p at *
      generalize cmpI b.num 0 = q at *
      by_cases hpq : p = q
      · subst hpq
        have HF1 : Hid (frV a b = p * orV [cmpI h1 h2, cmpI l1 l2]) := by show frV a b = _; rw [HF.out, if_pos ((cmpI_zero p p).2 rfl)]
        have hpp : (p != p) = false := by simp
        clear HF
        by_cases hh : h1 = h2
        · subst hh
          have hhh : (h1 != h1) = false := by simp
          have hhe : (h1 == h1) = true := by simp
          rw [or2_lo] at HF1
          by_cases hl : l1 = l2
          · subst hl
            have hll : (l1 != l1) = false := by simp
            have HV : Hid (frV a b = 0) := by show frV a b = 0; rw [HF1.out, (cmpI_zero l1 l1).2 rfl]; omega
            rw [HV.out] at HC
            clear HF1 HV
            go_wp2_with (go_at_call 29; refine (HC.out _).mono ?_; rintro e w3 ⟨rfl, hE3⟩)
            go_ret
            exact ⟨rfl, Ext.trans hX hE3⟩
          · have hll : (l1 != l2) = true := by simp [hl]
            by_cases hlt : l1 < l2
            · have HV : Hid (frV a b = -p) := by show frV a b = -p; rw [HF1.out, cmpI_lt hlt]; omega
              rw [HV.out] at HC
              clear HF1 HV hl
              go_wp2_with (go_at_call 29; refine (HC.out _).mono ?_; rintro e w3 ⟨rfl, hE3⟩)
              go_ret
              exact ⟨rfl, Ext.trans hX hE3⟩
            · have hgt : l2 < l1 := by omega
              have HV : Hid (frV a b = p) := by show frV a b = p; rw [HF1.out, cmpI_gt hgt]; omega
              rw [HV.out] at HC
              clear HF1 HV hl
              go_wp2_with (go_at_call 29; refine (HC.out _).mono ?_; rintro e w3 ⟨rfl, hE3⟩)
              go_ret
              exact ⟨rfl, Ext.trans hX hE3⟩
        · have hhh : (h1 != h2) = true := by simp [hh]
          have hhe : (h1 == h2) = false := by simp [hh]
          rw [or2_hi hh] at HF1
          by_cases hlt : h1 < h2
          · have HV : Hid (frV a b = -p) := by show frV a b = -p; rw [HF1.out, cmpI_lt hlt]; omega
            rw [HV.out] at HC
            clear HF1 HV hh
            go_wp2_with (go_at_call 29; refine (HC.out _).mono ?_; rintro e w3 ⟨rfl, hE3⟩)
            go_ret
            exact ⟨rfl, Ext.trans hX hE3⟩
          · have hgt : h2 < h1 := by omega
            have HV : Hid (frV a b = p) := by show frV a b = p; rw [HF1.out, cmpI_gt hgt]; omega
            rw [HV.out] at HC
            clear HF1 HV hh
            go_wp2_with (go_at_call 29; refine (HC.out _).mono ?_; rintro e w3 ⟨rfl, hE3⟩)
            go_ret
            exact ⟨rfl, Ext.trans hX hE3⟩
      · have hpp : (p != q) = true := by simp [hpq]
        have HF1 : Hid (frV a b = cmpI p q) := by show frV a b = _; rw [HF.out, if_neg (fun e => hpq ((cmpI_zero p q).1 e))]
        clear HF
        by_cases hlt : p < q
        · rw [HF1.out, cmpI_lt hlt] at HC
          clear HF1 hpq
          go_wp2_with (go_at_call 29; refine (HC.out _).mono ?_; rintro e w3 ⟨rfl, hE3⟩)
          go_ret
          exact ⟨rfl, Ext.trans hX hE3⟩
        · have hgt : q < p := by omega
          rw [HF1.out, cmpI_gt hgt] at HC
          clear HF1 hpq
          go_wp2_with (go_at_call 29; refine (HC.out _).mono ?_; rintro e w3 ⟨rfl, hE3⟩)
          go_ret
          exact ⟨rfl, Ext.trans hX hE3⟩
end Go.Proofs.Ytddcgholnhhcoaa
