/- The walk of the law CostLeast. -/
import Derived.Test.YtddcgholnhhcoaaLBetter
import Derived.Test.YtddcgholnhhcoaaFaults
namespace Go.Proofs.Ytddcgholnhhcoaa
open Go.RowKit
set_option linter.unusedVariables false

theorem ascF_of {n : Nat} : ∀ (Q : List Int) (i : Nat), (∀ j, j < Q.length → (i : Int) ≤ Q.getD j 0 ∧ Q.getD j 0 < n) → (∀ j, j + 1 < Q.length → Q.getD j 0 < Q.getD (j + 1) 0) → AscF n i Q
  | [], _, _, _ => trivial
  | x :: Q, i, h1, h2 => by
    have a := h1 0 (by simp)
    simp only [List.getD_cons_zero] at a
    refine ⟨x.toNat - i, by omega, by omega, ascF_of Q _ (fun j hj => ⟨?_, ?_⟩) (fun j hj => ?_)⟩
    · have : x < Q.getD j 0 := by
        induction j with
        | zero =>
          have := h2 0 (by simpa using hj)
          simpa using this
        | succ j ih =>
          have b := h2 (j + 1) (by simpa using hj)
          simp only [List.getD_cons_succ] at b
          have c := ih (by omega)
          omega
      omega
    · have := (h1 (j + 1) (by simpa using hj)).2
      simpa using this
    · have := h2 (j + 1) (by simpa using hj)
      simpa using this
theorem Asc.toF {ps : List Int} {n : Nat} (h : Asc ps n) : AscF n 0 ps := ascF_of ps 0 (fun j hj => by have := h.1 j hj; omega) h.2
theorem wv_ok {ts : List Tk} {f r : Int} {ps : List Int} (hz : refuseV ts f r = 0) (h : AscF ts.length 0 ps) : worstV ts ps f r = (wv ts f r ps, 0) := by
  unfold wv
  rw [worst_ok (worst_law ts ps f r hz h).2.1]
theorem not_beats {ts : List Tk} {f r : Int} {Q P : List Int} (h : ¬ Beats ts f r Q P) : ¬ wv ts f r Q < wv ts f r P ∧ (wv ts f r Q = wv ts f r P → betV Q P = false) := by
  unfold Beats keyL at h
  rw [cmpLs, cmpLs] at h
  have c1 := cmpI_neg (wv ts f r Q) (wv ts f r P)
  have c2 := cmpI_zero (wv ts f r Q) (wv ts f r P)
  have c3 := cmpI_neg (Q.length : Int) (P.length : Int)
  have c4 := cmpI_zero (Q.length : Int) (P.length : Int)
  refine ⟨fun hl => ?_, fun he => ?_⟩
  · rw [if_neg (by rw [c2]; omega)] at h
    exact h (c1.2 hl)
  · rw [if_pos (c2.2 he)] at h
    unfold betV
    by_cases hl : Q.length = P.length
    · rw [if_pos (c4.2 (by omega))] at h
      rw [if_pos hl]
      exact decide_eq_false h
    · rw [if_neg (by rw [c4]; omega)] at h
      rw [if_neg hl]
      refine decide_eq_false fun hh => h (c3.2 (by omega))
def LeRel (w : World) (AT AB : Option Addr) (ts : List Tk) (P : List Int) (N : Nat) (g : Nat) (i : Value) (wr : World) : Prop := ∃ m : Nat, m ≤ N ∧ i = .int .i64 m ∧ g = N - m ∧ Ext w wr ∧ TkSeg wr AT ts ∧ IntSeg wr AB P

def InL (wb : World) (ts : List Tk) (g : Nat) (v i : Value) (wr : World) : Prop :=
  ∃ (ps : List Int) (x : Nat), x ≤ ts.length ∧ g = ts.length - x ∧ i = .int .i64 x ∧ wr.ownsRow wb.heap.size 3 1 v ps.length (ps.flatMap Iv) ∧ Asc ps x ∧ ps.length ≤ x ∧ Ext wb wr
theorem wrap_pow : ∀ k : Nat, k ≤ 8 → wrap64 (2 ^ k) = ((2 ^ k : Nat) : Int) ∧ 2 ^ k ≤ 256 := by
  intro k hk
  have : k = 0 ∨ k = 1 ∨ k = 2 ∨ k = 3 ∨ k = 4 ∨ k = 5 ∨ k = 6 ∨ k = 7 ∨ k = 8 := by omega
  rcases this with rfl | rfl | rfl | rfl | rfl | rfl | rfl | rfl | rfl <;> decide +kernel

set_option maxRecDepth 100000 in
set_option maxHeartbeats 3200000 in
theorem least_walk (A : Option Addr) (cap : Nat) (bs : List Int) (w : World)
    (h0 : Seg w 1 A bs.length (bs.map (Value.int .u8)) ∧ bs.length ≤ cap ∧ cap ≤ maxLen ∧ ∀ b ∈ bs, 0 ≤ b ∧ b < 256) :
    Calls Try.prog 7 #[.slice A bs.length cap] w fun e w' => e = .returned (.bool true) ∧ Below w.heap.size w w' := by
  obtain ⟨hb, hb1, hb2, hb3⟩ := h0
  have HB3 := Lib.hid hb3
  clear hb3
  go_enter Try.func7, Try.ntmps7
  go_wp2_with fail
  refine (awake_any _).mono ?_
  rintro e w1 ⟨rfl, hE1⟩
  go_wp2_with fail
  refine (tasks_any A cap bs 8 w1 (hb.ext hE1) hb1 hb2 HB3.out (by omega) (by omega)).mono ?_
  rintro e w2 ⟨vT, vP, ts, ps, f, r, rfl, hownT, hownP, hE2, ⟨hn1, hn2⟩, hsm, hasc, hpl, ⟨hf0, hf1⟩, hr0, hr1⟩
  obtain ⟨AT, cT, rfl, hsT, hcT, hcTm⟩ := own_slice hownT
  have hX2 := Ext.trans hE1 hE2
  have hz := small_ref (f := f) (r := r) hsm hn1 (by omega) (by omega) (by omega)
  clear hE1 hE2 hownT hownP hb HB3 hsm hasc hpl
  go_wp2_with fail
  refine (best_any AT cT ts f r w2 hsT hz hcT hcTm).mono ?_
  rintro e w3 ⟨P, v, rfl, hownB, hPl, hE3, hBest⟩
  obtain ⟨AB, cB, rfl, hsB, hcB, hcBm⟩ := own_slice hownB
  have hsT3 := hsT.ext hE3
  have hX3 := Ext.trans hX2 hE3
  have WP := Lib.hid (wv_ok hz (best_ascF hz hBest))
  have HZ := Lib.hid hz
  have HBEST := Lib.hid (fun Q hQ => not_beats (best_least hz hBest Q hQ))
  have HN : Hid (f = 0 → P = []) := fun h => by subst h; exact best_none hz hBest
  clear hz hBest hownB hsT hE3 hX2
  generalize wv ts f r P = n at *
  go_wp2_with fail
  refine (worst_any AT cT ts AB cB P f r w3 hsT3 (by omega) hsB (by omega)).mono ?_
  rintro e w4 ⟨rfl, hE4⟩
  rw [WP.out]
  have hsT4 := hsT3.ext hE4
  have hsB4 := hsB.ext hE4
  have hX4 := Ext.trans hX3 hE4
  clear hE4 hsT3 hsB hX3 WP
  have hn8 : (ts.length : Int) ≤ 8 := by omega
  have hnn : (n != n) = false := by simp
  have hq : ((f == 0) && decide (0 < P.length)) = false := by
    by_cases h : f = 0
    · rw [HN.out h]; simp
    · simp [h]
  by_cases hf : f = 0
  · have hff : (f == 0) = true := by simp [hf]
    have hp0 : decide (0 < P.length) = false := by rw [HN.out hf]; simp
    clear hq HN hf
    obtain ⟨N, hN, hNb⟩ : ∃ N : Nat, wrap64 (2 ^ ts.length) = (N : Int) ∧ N ≤ 256 := ⟨_, wrap_pow ts.length hn2⟩
    go_wp2_with fail
    go_loopg [12] N (fun g i wr => LeRel w AT AB ts P N g i wr)
    case atStart => exact ⟨0, Nat.zero_le _, rfl, rfl, hX4, hsT4, hsB4⟩
    case round =>
      clear hX4 hsT4 hsB4
      obtain ⟨m, hm, rfl, rfl, hX, hsT, hsB⟩ := hrel
      by_cases hlt : m < N
      · go_wp2_with fail
        rw [hN]
        rename World => wb
        go_loopg [13, 14] ts.length (fun g v i wr => InL wb ts g v i wr)
        case atStart => exact ⟨[], 0, Nat.zero_le _, rfl, rfl, own_nil _ _ _ _ _, Asc.nil _, Nat.zero_le _, Ext.refl _⟩
        case round =>
          obtain ⟨ps, x, hx, rfl, rfl, hown, hasc, hpl, hE⟩ := hrel
          have HASC := Lib.hid hasc
          clear hasc
          by_cases hxl : x < ts.length
          · obtain ⟨bt, hbt⟩ : ∃ bt, (bits BinOp.and IntKind.i64 ((m : Int) / 2 ^ x) 1 == 1) = bt := ⟨_, rfl⟩
            have hsz := hE.size
            cases bt
            · go_wp2_with fail
              go_roundg (ts.length - (x + 1))
              case measure => omega
              case rel => exact ⟨ps, x + 1, by omega, rfl, by go_num, hown, HASC.out.up, by omega, hE⟩
            · go_wp2_with (at_builtin; refine wpList_push Iv 1 8 Iv.len Iv.one (by omega) rfl _ _ _ rfl wb.heap.size 3 Try.underlying33 (by kernel_rfl) u13 ps (x : Int) rfl hown rfl (by unfold maxLen; omega) (by omega) hsz ?_; intro v' w5 hown5 hg5)
              have hE5 : Ext wb w5 := Ext.own hE hown (by omega) hg5
              go_roundg (ts.length - (x + 1))
              case measure => omega
              case rel => exact ⟨ps ++ [(x : Int)], x + 1, by omega, rfl, by go_num, hown5, HASC.out.push, by simp; omega, hE5⟩
          · obtain rfl : x = ts.length := by omega
            obtain ⟨AQ, cQ, rfl, hsQ, hcQ, hcQm⟩ := own_slice hown
            have hsT' := hsT.ext hE
            have hsB' := hsB.ext hE
            have hX' := Ext.trans hX hE
            have hA := HASC.out.toF
            obtain ⟨b1, b2⟩ := HBEST.out ps hA
            have WQ := Lib.hid (wv_ok HZ.out hA)
            clear hA hown hE hsT hsB hX
            go_wp2_with fail
            refine (worst_any AT cT ts AQ cQ ps f r _ hsT' (by omega) hsQ (by omega)).mono ?_
            rintro e w6 ⟨rfl, hE6⟩
            rw [WQ.out]
            have hsT6 := hsT'.ext hE6
            have hsB6 := hsB'.ext hE6
            have hsQ6 := hsQ.ext hE6
            have hX6 := Ext.trans hX' hE6
            clear WQ hE6 hsT' hsB' hsQ hX'
            generalize wv ts f r ps = t at *
            have ht : ¬ t < n := by omega
            have HBT := Lib.hid (lbetter_any AQ AB cQ cB ps P w6 hsQ6 hsB6 (by omega) (by omega))
            by_cases htn : t = n
            · have htn' : (t == n) = true := by simp [htn]
              have hbv := b2 htn
              rw [hbv] at HBT
              clear b2 htn
              go_wp2_with fail
              refine HBT.out.mono ?_
              rintro e w7 ⟨rfl, hE7⟩
              go_wp2_with fail
              go_roundg (N - (m + 1))
              case measure => omega
              case rel => exact ⟨m + 1, by omega, by go_num, rfl, Ext.trans hX6 hE7, hsT6.ext hE7, hsB6.ext hE7⟩
            · have htn' : (t == n) = false := by simp [htn]
              clear b2 htn
              go_wp2_with fail
              go_roundg (N - (m + 1))
              case measure => omega
              case rel => exact ⟨m + 1, by omega, by go_num, rfl, hX6, hsT6, hsB6⟩
      · go_wp2_with fail
        go_ret
        exact ⟨rfl, hX⟩
  · have hff : (f == 0) = false := by simp [hf]
    clear hq HN hf
    obtain ⟨N, hN, hNb⟩ : ∃ N : Nat, wrap64 (2 ^ ts.length) = (N : Int) ∧ N ≤ 256 := ⟨_, wrap_pow ts.length hn2⟩
    go_wp2_with fail
    go_loopg [12] N (fun g i wr => LeRel w AT AB ts P N g i wr)
    case atStart => exact ⟨0, Nat.zero_le _, rfl, rfl, hX4, hsT4, hsB4⟩
    case round =>
      clear hX4 hsT4 hsB4
      obtain ⟨m, hm, rfl, rfl, hX, hsT, hsB⟩ := hrel
      by_cases hlt : m < N
      · go_wp2_with fail
        rw [hN]
        rename World => wb
        go_loopg [13, 14] ts.length (fun g v i wr => InL wb ts g v i wr)
        case atStart => exact ⟨[], 0, Nat.zero_le _, rfl, rfl, own_nil _ _ _ _ _, Asc.nil _, Nat.zero_le _, Ext.refl _⟩
        case round =>
          obtain ⟨ps, x, hx, rfl, rfl, hown, hasc, hpl, hE⟩ := hrel
          have HASC := Lib.hid hasc
          clear hasc
          by_cases hxl : x < ts.length
          · obtain ⟨bt, hbt⟩ : ∃ bt, (bits BinOp.and IntKind.i64 ((m : Int) / 2 ^ x) 1 == 1) = bt := ⟨_, rfl⟩
            have hsz := hE.size
            cases bt
            · go_wp2_with fail
              go_roundg (ts.length - (x + 1))
              case measure => omega
              case rel => exact ⟨ps, x + 1, by omega, rfl, by go_num, hown, HASC.out.up, by omega, hE⟩
            · go_wp2_with (at_builtin; refine wpList_push Iv 1 8 Iv.len Iv.one (by omega) rfl _ _ _ rfl wb.heap.size 3 Try.underlying33 (by kernel_rfl) u13 ps (x : Int) rfl hown rfl (by unfold maxLen; omega) (by omega) hsz ?_; intro v' w5 hown5 hg5)
              have hE5 : Ext wb w5 := Ext.own hE hown (by omega) hg5
              go_roundg (ts.length - (x + 1))
              case measure => omega
              case rel => exact ⟨ps ++ [(x : Int)], x + 1, by omega, rfl, by go_num, hown5, HASC.out.push, by simp; omega, hE5⟩
          · obtain rfl : x = ts.length := by omega
            obtain ⟨AQ, cQ, rfl, hsQ, hcQ, hcQm⟩ := own_slice hown
            have hsT' := hsT.ext hE
            have hsB' := hsB.ext hE
            have hX' := Ext.trans hX hE
            have hA := HASC.out.toF
            obtain ⟨b1, b2⟩ := HBEST.out ps hA
            have WQ := Lib.hid (wv_ok HZ.out hA)
            clear hA hown hE hsT hsB hX
            go_wp2_with fail
            refine (worst_any AT cT ts AQ cQ ps f r _ hsT' (by omega) hsQ (by omega)).mono ?_
            rintro e w6 ⟨rfl, hE6⟩
            rw [WQ.out]
            have hsT6 := hsT'.ext hE6
            have hsB6 := hsB'.ext hE6
            have hsQ6 := hsQ.ext hE6
            have hX6 := Ext.trans hX' hE6
            clear WQ hE6 hsT' hsB' hsQ hX'
            generalize wv ts f r ps = t at *
            have ht : ¬ t < n := by omega
            have HBT := Lib.hid (lbetter_any AQ AB cQ cB ps P w6 hsQ6 hsB6 (by omega) (by omega))
            by_cases htn : t = n
            · have htn' : (t == n) = true := by simp [htn]
              have hbv := b2 htn
              rw [hbv] at HBT
              clear b2 htn
              go_wp2_with fail
              refine HBT.out.mono ?_
              rintro e w7 ⟨rfl, hE7⟩
              go_wp2_with fail
              go_roundg (N - (m + 1))
              case measure => omega
              case rel => exact ⟨m + 1, by omega, by go_num, rfl, Ext.trans hX6 hE7, hsT6.ext hE7, hsB6.ext hE7⟩
            · have htn' : (t == n) = false := by simp [htn]
              clear b2 htn
              go_wp2_with fail
              go_roundg (N - (m + 1))
              case measure => omega
              case rel => exact ⟨m + 1, by omega, by go_num, rfl, hX6, hsT6, hsB6⟩
      · go_wp2_with fail
        go_ret
        exact ⟨rfl, hX⟩
end Go.Proofs.Ytddcgholnhhcoaa
