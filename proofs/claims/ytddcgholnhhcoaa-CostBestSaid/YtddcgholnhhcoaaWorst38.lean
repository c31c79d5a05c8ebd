/- The walk of the law CostWorst. -/
import Derived.Test.YtddcgholnhhcoaaWorstRef
import Derived.Test.YtddcgholnhhcoaaFaults
namespace Go.Proofs.Ytddcgholnhhcoaa
open Go.RowKit
set_option linter.unusedVariables false

set_option maxRecDepth 100000 in
set_option maxHeartbeats 3200000 in
theorem worst_walk (a0 : Option Addr) (cap0 : Nat) (l : List Tk) (a1 : Option Addr) (cap1 : Nat) (pl : List Int) (x2 x3 : Int) (a4 : Option Addr) (cap4 : Nat) (bs : List Int) (w : World)
    (h0 : TkSeg w a0 l ∧ l.length ≤ cap0 ∧ cap0 ≤ maxLen) (h1 : IntSeg w a1 pl ∧ pl.length ≤ cap1 ∧ cap1 ≤ maxLen ∧ ∀ c ∈ pl, InI64 c) (hx2 : (Lit.int .i64 x2).wf = true) (hx3 : (Lit.int .i64 x3).wf = true)
    (h4 : Seg w 1 a4 bs.length (bs.map (Value.int .u8)) ∧ bs.length ≤ cap4 ∧ cap4 ≤ maxLen ∧ ∀ b ∈ bs, 0 ≤ b ∧ b < 256) :
    Calls Try.prog 5 #[.slice a0 l.length cap0, .slice a1 pl.length cap1, .int .i64 x2, .int .i64 x3, .slice a4 bs.length cap4] w fun e w' => e = .returned (.bool true) ∧ Below w.heap.size w w' := by
  obtain ⟨hs0, hc0, hc0m⟩ := h0
  obtain ⟨hs1, hc1, hc1m, hok1⟩ := h1
  obtain ⟨hb, hb1, hb2, hb3⟩ := h4
  have HB3 := Lib.hid hb3
  clear hb3 hx2 hx3 hok1
  have hm0 := hc0m
  have hm1 := hc1m
  have hm4 := hb2
  unfold maxLen at hm0 hm1 hm4
  by_cases q0 : 100 < l.length
  · go_enter Try.func5, Try.ntmps5
    go_wp2_with fail
    refine (awake_any _).mono ?_
    rintro e w1 ⟨rfl, hE1⟩
    go_wp2_with fail
    go_ret
    exact ⟨rfl, hE1⟩
  have d0 : decide (100 < (l.length : Int)) = false := decide_eq_false (by omega)
  by_cases q1 : 100 < pl.length
  · have d1 : decide (100 < (pl.length : Int)) = true := decide_eq_true (by omega)
    go_enter Try.func5, Try.ntmps5
    go_wp2_with fail
    refine (awake_any _).mono ?_
    rintro e w1 ⟨rfl, hE1⟩
    go_wp2_with fail
    go_ret
    exact ⟨rfl, hE1⟩
  have m0 : 0 ≤ (bs.length : Int) % 7 ∧ (bs.length : Int) % 7 < 7 := by omega
  go_enter Try.func5, Try.ntmps5
  go_wp2_with fail
  refine (awake_any _).mono ?_
  rintro e w1 ⟨rfl, hE1⟩
  go_wp2_with fail
  refine (tasks_any a4 cap4 bs 12 w1 (hb.ext hE1) hb1 hb2 HB3.out (by omega) (by omega)).mono ?_
  rintro e w2 ⟨vT, vP, ts, ps, f, r, rfl, hownT, hownP, hE2, ⟨hn1, hn2⟩, hsm, hasc, hpl, ⟨hf0, hf1⟩, hr0, hr1⟩
  have hne := own_ne hownT hownP (by decide)
  obtain ⟨AT, cT, hvT, hsT, hcT, hcTm⟩ := own_slice hownT
  obtain ⟨AP, cP, hvP, hsP, hcP, hcPm⟩ := own_slice hownP
  subst hvT hvP
  have hX2 := Ext.trans hE1 hE2
  have hw1 := hE1.size
  clear hE1 hsm hasc hb
  by_cases h7 : (bs.length : Int) % 7 = 6
  rotate_left
  · have h7' : ((bs.length : Int) % 7 == 6) = false := beq_eq_false_iff_ne.2 h7
    clear h7
    have hX3 := hX2
    have hs03 := hs0.ext hX3
    have hs13 := hs1.ext hX3
    go_wp2_with fail
    refine (worst_any a0 cap0 l a1 cap1 pl x2 x3 _ hs03 (by omega) hs13 (by omega)).mono ?_
    rintro e w5 ⟨rfl, hE5⟩
    go_wp2_with fail
    refine (worst_ref a0 cap0 l a1 cap1 pl x2 x3 _ (hs03.ext hE5) (by omega) (hs13.ext hE5) (by omega)).mono ?_
    rintro e w6 ⟨rfl, hE6⟩
    have hE56 := Ext.trans hE5 hE6
    generalize worstV l pl x2 x3 = va
    go_wp2_with fail
    refine (worst_any AT cT ts AP cP ps f r _ (hsT.ext hE56) (by omega) (hsP.ext hE56) (by omega)).mono ?_
    rintro e w7 ⟨rfl, hE7⟩
    have hE57 := Ext.trans hE56 hE7
    go_wp2_with fail
    refine (worst_ref AT cT ts AP cP ps f r _ (hsT.ext hE57) (by omega) (hsP.ext hE57) (by omega)).mono ?_
    rintro e w8 ⟨rfl, hE8⟩
    generalize worstV ts ps f r = vb
    go_wp2_with fail
    go_ret
    exact ⟨rfl, Ext.trans hX3 (Ext.trans hE57 hE8)⟩
  have h7' : ((bs.length : Int) % 7 == 6) = true := beq_iff_eq.2 h7
  have hb6 : 6 ≤ bs.length := by omega
  clear h7
  by_cases hp0 : 0 < ps.length
  rotate_left
  · have hpd : decide (0 < (ps.length : Int)) = false := decide_eq_false (by omega)
    have hX3 := hX2
    have hs03 := hs0.ext hX3
    have hs13 := hs1.ext hX3
    go_wp2_with fail
    refine (worst_any a0 cap0 l a1 cap1 pl x2 x3 _ hs03 (by omega) hs13 (by omega)).mono ?_
    rintro e w5 ⟨rfl, hE5⟩
    go_wp2_with fail
    refine (worst_ref a0 cap0 l a1 cap1 pl x2 x3 _ (hs03.ext hE5) (by omega) (hs13.ext hE5) (by omega)).mono ?_
    rintro e w6 ⟨rfl, hE6⟩
    have hE56 := Ext.trans hE5 hE6
    generalize worstV l pl x2 x3 = va
    go_wp2_with fail
    refine (worst_any AT cT ts AP cP ps f r _ (hsT.ext hE56) (by omega) (hsP.ext hE56) (by omega)).mono ?_
    rintro e w7 ⟨rfl, hE7⟩
    have hE57 := Ext.trans hE56 hE7
    go_wp2_with fail
    refine (worst_ref AT cT ts AP cP ps f r _ (hsT.ext hE57) (by omega) (hsP.ext hE57) (by omega)).mono ?_
    rintro e w8 ⟨rfl, hE8⟩
    generalize worstV ts ps f r = vb
    go_wp2_with fail
    go_ret
    exact ⟨rfl, Ext.trans hX3 (Ext.trans hE57 hE8)⟩
  · obtain ⟨g, cur, hA, hgb, hB⟩ : ∃ g cur, AP = some ⟨g, 0, none⟩ ∧ w1.heap.size ≤ g ∧ Blk w2 g 3 cur := by
      rcases hownP.2 with ⟨_, h⟩ | ⟨g, cap', cur, hv, hbase, hh, _⟩
      · omega
      · injection hv with hv
        exact ⟨g, cur, hv, hbase, hh⟩
    subst hA
    obtain ⟨b', off', hA, p0⟩ := Iv.at_ hsP hp0
    injection hA with hA
    injection hA with hA1 hA2
    subst hA1 hA2
    rw [Nat.zero_add] at p0
    have f0 := hB.frozen 0
    have hw1w : w.heap.size ≤ w1.heap.size := hw1
    have hsP3 := Seg.set1 hsP (p := 0) (by rw [flat_len Iv 1 Iv.len]; omega) (.int .i64 ((bs.length : Int) - 8)) hp0
    have hfl : (ps.flatMap Iv).set 0 (.int .i64 ((bs.length : Int) - 8)) = (ps.set 0 ((bs.length : Int) - 8)).flatMap Iv := by
      cases ps with
      | nil => simp at hp0
      | cons a l => simp [Iv]
    rw [hfl, Nat.zero_add] at hsP3
    have hX3 : Ext w (w2.setCell ⟨g, 0, none⟩ (.int .i64 ((bs.length : Int) - 8))) := Ext.set hX2 (by omega) _
    have hsT3 : TkSeg (w2.setCell ⟨g, 0, none⟩ (.int .i64 ((bs.length : Int) - 8))) AT ts := hsT.keep (by simp) (fun hn ad ha hlt => by
      have : ad.block ≠ g := by
        intro e
        rcases hne with h | h
        · rcases hownT.2 with ⟨hv, h0⟩ | ⟨g', cap', cur', hv, _⟩
          · omega
          · injection hv with hv
            rw [hv] at h
            simp [Value.ownBlock] at h
        · rcases hownT.2 with ⟨hv, h0⟩ | ⟨g', cap', cur', hv, _⟩
          · omega
          · injection hv with hv
            rw [hv] at ha h
            injection ha with ha
            subst ha
            simp only [Value.ownBlock] at h
            exact h (by rw [← e])
      exact (World.heap_setCells_other w2 g 0 [.int .i64 ((bs.length : Int) - 8)] hlt this))
    have HA := Lib.hid (fun W hT hn hP hm => worst_any AT cT ts (some ⟨g, 0, none⟩) cP (ps.set 0 ((bs.length : Int) - 8)) f r W hT hn hP hm)
    have HRF := Lib.hid (fun W hT hn hP hm => worst_ref AT cT ts (some ⟨g, 0, none⟩) cP (ps.set 0 ((bs.length : Int) - 8)) f r W hT hn hP hm)
    have hpl2 : (ps.set 0 ((bs.length : Int) - 8)).length = ps.length := List.length_set
    have hseg2 : IntSeg (w2.setCell ⟨g, 0, none⟩ (.int .i64 ((bs.length : Int) - 8))) (some ⟨g, 0, none⟩) (ps.set 0 ((bs.length : Int) - 8)) := by show Seg _ 1 _ (ps.set 0 ((bs.length : Int) - 8)).length _; rw [hpl2]; exact hsP3
    have hpl3 : (ps.set 0 ((bs.length : Int) - 8)).length ≤ 1000 := by rw [hpl2]; omega
    rw [hpl2] at HA HRF
    have hpd : decide (0 < (ps.length : Int)) = true := decide_eq_true (by omega)
    generalize ps.set 0 ((bs.length : Int) - 8) = ps2 at *
    clear hsP hsP3 hfl hsT hX2 hne hownT hownP hE2 hpl2
    have hs03 := hs0.ext hX3
    have hs13 := hs1.ext hX3
    go_wp2_with fail
    refine (worst_any a0 cap0 l a1 cap1 pl x2 x3 _ hs03 (by omega) hs13 (by omega)).mono ?_
    rintro e w5 ⟨rfl, hE5⟩
    go_wp2_with fail
    refine (worst_ref a0 cap0 l a1 cap1 pl x2 x3 _ (hs03.ext hE5) (by omega) (hs13.ext hE5) (by omega)).mono ?_
    rintro e w6 ⟨rfl, hE6⟩
    have hE56 := Ext.trans hE5 hE6
    generalize worstV l pl x2 x3 = va
    go_wp2_with fail
    refine (HA.out _ (hsT3.ext hE56) (by omega) (hseg2.ext hE56) (by omega)).mono ?_
    rintro e w7 ⟨rfl, hE7⟩
    have hE57 := Ext.trans hE56 hE7
    go_wp2_with fail
    refine (HRF.out _ (hsT3.ext hE57) (by omega) (hseg2.ext hE57) (by omega)).mono ?_
    rintro e w8 ⟨rfl, hE8⟩
    generalize worstV ts ps2 f r = vb
    go_wp2_with fail
    go_ret
    exact ⟨rfl, Ext.trans hX3 (Ext.trans hE57 hE8)⟩
end Go.Proofs.Ytddcgholnhhcoaa
