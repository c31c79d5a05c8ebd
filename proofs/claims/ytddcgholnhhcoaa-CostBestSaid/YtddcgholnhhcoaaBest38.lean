/- The walk of the law CostBest. -/
import Derived.Test.YtddcgholnhhcoaaRBest
import Derived.Test.YtddcgholnhhcoaaWorst38
namespace Go.Proofs.Ytddcgholnhhcoaa
open Go.RowKit
set_option linter.unusedVariables false

/-- what both answer -/
def BestV (ts : List Tk) (f r : Int) (P : List Int) (n e : Int) : Prop :=
  (refuseV ts f r = 0 ∧ e = 0 ∧ n = wv ts f r P ∧ AscF ts.length 0 P ∧ ∀ k, k ∈ lenOut ts ts.length → ∀ L, divideV ts k = some L → ¬ Beats ts f r L P) ∨ (refuseV ts f r ≠ 0 ∧ P = [] ∧ n = 0 ∧ e = refuseV ts f r)
theorem BestV.one {ts : List Tk} {f r : Int} {P Q : List Int} {n m e d : Int} (h : BestV ts f r P n e) (k : BestV ts f r Q m d) : Q = P ∧ m = n ∧ d = e := by
  rcases h with ⟨z, rfl, rfl, ha, hb⟩ | ⟨z, rfl, rfl, rfl⟩
  · rcases k with ⟨_, rfl, rfl, ka, kb⟩ | ⟨z', _⟩
    · have e := same_best (least_of z hb Q ka) (least_of z kb P ha)
      subst e
      exact ⟨rfl, rfl, rfl⟩
    · exact absurd z z'
  · rcases k with ⟨z', _⟩ | ⟨_, rfl, rfl, rfl⟩
    · exact absurd z' z
    · exact ⟨rfl, rfl, rfl⟩
def UPost (ts : List Tk) (f r : Int) (w : World) (e : Ending) (w' : World) : Prop :=
  ∃ P A c n d, e = .returned (.tuple #[.slice A P.length c, .int .i64 n, .int .i64 d]) ∧ IntSeg w' A P ∧ P.length ≤ 1000 ∧ Ext w w' ∧ BestV ts f r P n d
set_option maxHeartbeats 800000 in
theorem best_u (A : Option Addr) (c : Nat) (ts : List Tk) (f r : Int) (w : World) (hs : TkSeg w A ts) (hn : ts.length ≤ 1000) (hc : ts.length ≤ c) (hcm : c ≤ maxLen) :
    Calls Try.prog 23 #[.slice A ts.length c, .int .i64 f, .int .i64 r] w (UPost ts f r w) := by
  by_cases hz : refuseV ts f r = 0
  · refine (best_any A c ts f r w hs hz hc hcm).mono ?_
    rintro e w' ⟨P, v, rfl, hown, hPl, hE, hB⟩
    obtain ⟨AB, cB, rfl, hsB, _, _⟩ := own_slice hown
    exact ⟨P, AB, cB, _, _, rfl, hsB, hPl, hE, .inl ⟨hz, rfl, rfl, best_ascF hz hB, hB.2.2⟩⟩
  · have HR := Lib.hid (refusal_any A c ts f r w hs hn)
    obtain ⟨e, he⟩ : ∃ e, refuseV ts f r = e := ⟨_, rfl⟩
    have HE := Lib.hid he
    rw [he] at HR hz
    have hne : (e != 0) = true := by simp [hz]
    clear he
    go_enter Try.func23, Try.ntmps23
    go_wp2_with fail
    refine HR.out.mono ?_
    rintro e' w1 ⟨rfl, hE1⟩
    go_wp2_with fail
    go_ret3
    exact ⟨[], none, 0, 0, e, rfl, Seg.nil, by simp, hE1, .inr ⟨by rw [HE.out]; exact hz, rfl, rfl, HE.out.symm⟩⟩
set_option maxHeartbeats 800000 in
theorem rbest_u (A : Option Addr) (c : Nat) (ts : List Tk) (f r : Int) (w : World) (hs : TkSeg w A ts) (hn : ts.length ≤ 1000) :
    Calls Try.prog 24 #[.slice A ts.length c, .int .i64 f, .int .i64 r] w (UPost ts f r w) := by
  by_cases hz : refuseV ts f r = 0
  · refine (rbest_any A c ts f r w hs hz).mono ?_
    rintro e w' ⟨P, AB, cB, rfl, hsB, hPl, hE, ha, hb⟩
    exact ⟨P, AB, cB, _, _, rfl, hsB, by omega, hE, .inl ⟨hz, rfl, rfl, ha, hb⟩⟩
  · have HR := Lib.hid (worst_ref A c ts none 0 [] f r w hs hn Seg.nil (by simp))
    have HV := Lib.hid (worst_err (err_nil ts f r) hz)
    obtain ⟨e, he⟩ : ∃ e, refuseV ts f r = e := ⟨_, rfl⟩
    have HE := Lib.hid he
    rw [he] at HV hz
    have hne : (e != 0) = true := by simp [hz]
    clear he
    go_enter Try.func24, Try.ntmps24
    go_wp2_with fail
    refine HR.out.mono ?_
    rintro e' w1 ⟨rfl, hE1⟩
    rw [HV.out]
    go_wp2_with fail
    go_ret3
    exact ⟨[], none, 0, 0, e, rfl, Seg.nil, by simp, hE1, .inr ⟨by rw [HE.out]; exact hz, rfl, rfl, HE.out.symm⟩⟩
def SmRel (w : World) (a : List Int) (g : Nat) (i : Value) (wr : World) : Prop := ∃ j : Nat, j ≤ a.length ∧ i = .int .i64 j ∧ g = a.length - j ∧ Ext w wr
set_option maxHeartbeats 800000 in
theorem same_ints (A B : Option Addr) (ca cb : Nat) (a : List Int) (w : World) (ha : IntSeg w A a) (hb : IntSeg w B a) (hn : a.length ≤ 1000) :
    Calls Try.prog 25 #[.slice A a.length ca, .slice B a.length cb] w (ExtPost w (.bool true)) := by
  have hn' : (a.length : Int) ≤ 1000 := by omega
  have hne : ((a.length : Int) != (a.length : Int)) = false := by simp
  go_enter Try.func25, Try.ntmps25
  go_wp2_with fail
  go_loopg [5] a.length (fun g i wr => SmRel w a g i wr)
  case atStart => exact ⟨0, Nat.zero_le _, rfl, rfl, Ext.refl _⟩
  case round =>
    obtain ⟨j, hj, rfl, rfl, hE⟩ := hrel
    by_cases hlt : j < a.length
    · obtain ⟨ba, oa, rfl, p0⟩ := Iv.at_ (ha.ext hE) hlt
      obtain ⟨bb, ob, rfl, p1⟩ := Iv.at_ (hb.ext hE) hlt
      have hj0 : (0 : Int) ≤ (j : Int) := by omega
      have hja : (j : Int) < (a.length : Int) := by omega
      generalize a[j] = x at *
      have hxy : (x != x) = false := by simp
      go_wp2_with fail
      go_quiet (fail)
      go_wp2_with fail
      go_roundg (a.length - (j + 1))
      case measure => omega
      case rel => exact ⟨j + 1, by omega, by go_num, rfl, hE.drewN _⟩
    · go_wp2_with fail
      go_ret
      exact ⟨rfl, hE⟩

set_option maxRecDepth 100000 in
set_option maxHeartbeats 3200000 in
theorem best_walk (a0 : Option Addr) (cap0 : Nat) (l : List Tk) (x1 x2 : Int) (a3 : Option Addr) (cap3 : Nat) (bs : List Int) (w : World)
    (h0 : TkSeg w a0 l ∧ l.length ≤ cap0 ∧ cap0 ≤ maxLen) (hx1 : (Lit.int .i64 x1).wf = true) (hx2 : (Lit.int .i64 x2).wf = true)
    (h3 : Seg w 1 a3 bs.length (bs.map (Value.int .u8)) ∧ bs.length ≤ cap3 ∧ cap3 ≤ maxLen ∧ ∀ b ∈ bs, 0 ≤ b ∧ b < 256) :
    Calls Try.prog 6 #[.slice a0 l.length cap0, .int .i64 x1, .int .i64 x2, .slice a3 bs.length cap3] w fun e w' => e = .returned (.bool true) ∧ Below w.heap.size w w' := by
  obtain ⟨hs0, hc0, hc0m⟩ := h0
  obtain ⟨hb, hb1, hb2, hb3⟩ := h3
  have HB3 := Lib.hid hb3
  clear hb3 hx1 hx2
  have hm0 := hc0m
  have hm4 := hb2
  unfold maxLen at hm0 hm4
  by_cases q0 : 9 < l.length
  · by_cases q1 : l.length ≤ 64
    · have d0 : decide (9 < (l.length : Int)) = true := decide_eq_true (by omega)
      have d1 : decide ((l.length : Int) ≤ 64) = true := decide_eq_true (by omega)
      go_enter Try.func6, Try.ntmps6
      go_wp2_with fail
      refine (awake_any _).mono ?_
      rintro e w1 ⟨rfl, hE1⟩
      go_wp2_with fail
      go_ret
      exact ⟨rfl, hE1⟩
    · by_cases q2 : 100 < l.length
      · have d0 : decide (9 < (l.length : Int)) = true := decide_eq_true (by omega)
        have d1 : decide ((l.length : Int) ≤ 64) = false := decide_eq_false (by omega)
        have d2 : decide (100 < (l.length : Int)) = true := decide_eq_true (by omega)
        go_enter Try.func6, Try.ntmps6
        go_wp2_with fail
        refine (awake_any _).mono ?_
        rintro e w1 ⟨rfl, hE1⟩
        go_wp2_with fail
        go_ret
        exact ⟨rfl, hE1⟩
      · have d0 : decide (9 < (l.length : Int)) = true := decide_eq_true (by omega)
        have d1 : decide ((l.length : Int) ≤ 64) = false := decide_eq_false (by omega)
        have d2 : decide (100 < (l.length : Int)) = false := decide_eq_false (by omega)
        go_enter Try.func6, Try.ntmps6
        go_wp2_with fail
        refine (awake_any _).mono ?_
        rintro e w1 ⟨rfl, hE1⟩
        go_wp2_with fail
        refine (tasks_any a3 cap3 bs 10 w1 (hb.ext hE1) hb1 hb2 HB3.out (by omega) (by omega)).mono ?_
        rintro e w2 ⟨vT, vP, ts, ps, f, r, rfl, hownT, hownP, hE2, ⟨hn1, hn2⟩, hsm, hasc, hpl, ⟨hf0, hf1⟩, hr0, hr1⟩
        obtain ⟨AT, cT, rfl, hsT, hcT, hcTm⟩ := own_slice hownT
        have hX2 := Ext.trans hE1 hE2
        have hs2 := hs0.ext hX2
        clear hE1 hE2 hownT hownP hb HB3 hsm hasc hpl hs0
        go_wp2_with fail
        refine (best_u a0 cap0 l x1 x2 w2 hs2 (by omega) hc0 hc0m).mono ?_
        rintro e w3 ⟨P, A3, c3, n3, d3, rfl, hsP, hPl, hE3, hV3⟩
        have hs3 := hs2.ext hE3
        go_wp2_with fail
        refine (rbest_u a0 cap0 l x1 x2 w3 hs3 (by omega)).mono ?_
        rintro e w4 ⟨Q, A4, c4, n4, d4, rfl, hsQ, hQl, hE4, hV4⟩
        obtain ⟨hPQ, rfl, rfl⟩ := hV3.one hV4
        subst hPQ
        have hE34 := Ext.trans hE3 hE4
        have hsT4 := hsT.ext hE34
        have hsP4 := hsP.ext hE4
        clear hV3 hV4 hs3 hsP hE3 hE4 hs2
        go_wp2_with fail
        refine (best_u AT cT ts f r w4 hsT4 (by omega) hcT hcTm).mono ?_
        rintro e w5 ⟨P5, A5, c5, n5, d5, rfl, hsP5, hPl5, hE5, hV5⟩
        have hsT5 := hsT4.ext hE5
        go_wp2_with fail
        refine (rbest_u AT cT ts f r w5 hsT5 (by omega)).mono ?_
        rintro e w6 ⟨Q6, A6, c6, n6, d6, rfl, hsQ6, hQl6, hE6, hV6⟩
        obtain ⟨hPQ6, rfl, rfl⟩ := hV5.one hV6
        subst hPQ6
        have hE56 := Ext.trans hE5 hE6
        have hsP6 := hsP5.ext hE6
        have hX6 := Ext.trans hX2 (Ext.trans hE34 hE56)
        have b1 := hsP4.ext hE56
        have b2 := hsQ.ext hE56
        clear hV5 hV6 hsT5 hsP5 hE5 hE6 hsT4 hsP4 hsQ hE34 hE56 hX2 hsT
        have e1 : (d4 == d4) = true := by simp
        have e2 : (n4 == n4) = true := by simp
        have e3 : (d6 == d6) = true := by simp
        have e4 : (n6 == n6) = true := by simp
        go_wp2_with fail
        refine (same_ints A3 A4 c3 c4 _ w6 b1 b2 (by omega)).mono ?_
        rintro e w7 ⟨rfl, hE7⟩
        go_wp2_with fail
        refine (same_ints A5 A6 c5 c6 _ w7 (hsP6.ext hE7) (hsQ6.ext hE7) (by omega)).mono ?_
        rintro e w8 ⟨rfl, hE8⟩
        go_wp2_with fail
        go_ret
        exact ⟨rfl, Ext.trans hX6 (Ext.trans hE7 hE8)⟩
  · have d0 : decide (9 < (l.length : Int)) = false := decide_eq_false (by omega)
    have d2 : decide (100 < (l.length : Int)) = false := decide_eq_false (by omega)
    go_enter Try.func6, Try.ntmps6
    go_wp2_with fail
    refine (awake_any _).mono ?_
    rintro e w1 ⟨rfl, hE1⟩
    go_wp2_with fail
    refine (tasks_any a3 cap3 bs 10 w1 (hb.ext hE1) hb1 hb2 HB3.out (by omega) (by omega)).mono ?_
    rintro e w2 ⟨vT, vP, ts, ps, f, r, rfl, hownT, hownP, hE2, ⟨hn1, hn2⟩, hsm, hasc, hpl, ⟨hf0, hf1⟩, hr0, hr1⟩
    obtain ⟨AT, cT, rfl, hsT, hcT, hcTm⟩ := own_slice hownT
    have hX2 := Ext.trans hE1 hE2
    have hs2 := hs0.ext hX2
    clear hE1 hE2 hownT hownP hb HB3 hsm hasc hpl hs0
    go_wp2_with fail
    refine (best_u a0 cap0 l x1 x2 w2 hs2 (by omega) hc0 hc0m).mono ?_
    rintro e w3 ⟨P, A3, c3, n3, d3, rfl, hsP, hPl, hE3, hV3⟩
    have hs3 := hs2.ext hE3
    go_wp2_with fail
    refine (rbest_u a0 cap0 l x1 x2 w3 hs3 (by omega)).mono ?_
    rintro e w4 ⟨Q, A4, c4, n4, d4, rfl, hsQ, hQl, hE4, hV4⟩
    obtain ⟨hPQ, rfl, rfl⟩ := hV3.one hV4
    subst hPQ
    have hE34 := Ext.trans hE3 hE4
    have hsT4 := hsT.ext hE34
    have hsP4 := hsP.ext hE4
    clear hV3 hV4 hs3 hsP hE3 hE4 hs2
    go_wp2_with fail
    refine (best_u AT cT ts f r w4 hsT4 (by omega) hcT hcTm).mono ?_
    rintro e w5 ⟨P5, A5, c5, n5, d5, rfl, hsP5, hPl5, hE5, hV5⟩
    have hsT5 := hsT4.ext hE5
    go_wp2_with fail
    refine (rbest_u AT cT ts f r w5 hsT5 (by omega)).mono ?_
    rintro e w6 ⟨Q6, A6, c6, n6, d6, rfl, hsQ6, hQl6, hE6, hV6⟩
    obtain ⟨hPQ6, rfl, rfl⟩ := hV5.one hV6
    subst hPQ6
    have hE56 := Ext.trans hE5 hE6
    have hsP6 := hsP5.ext hE6
    have hX6 := Ext.trans hX2 (Ext.trans hE34 hE56)
    have b1 := hsP4.ext hE56
    have b2 := hsQ.ext hE56
    clear hV5 hV6 hsT5 hsP5 hE5 hE6 hsT4 hsP4 hsQ hE34 hE56 hX2 hsT
    have e1 : (d4 == d4) = true := by simp
    have e2 : (n4 == n4) = true := by simp
    have e3 : (d6 == d6) = true := by simp
    have e4 : (n6 == n6) = true := by simp
    go_wp2_with fail
    refine (same_ints A3 A4 c3 c4 _ w6 b1 b2 (by omega)).mono ?_
    rintro e w7 ⟨rfl, hE7⟩
    go_wp2_with fail
    refine (same_ints A5 A6 c5 c6 _ w7 (hsP6.ext hE7) (hsQ6.ext hE7) (by omega)).mono ?_
    rintro e w8 ⟨rfl, hE8⟩
    go_wp2_with fail
    go_ret
    exact ⟨rfl, Ext.trans hX6 (Ext.trans hE7 hE8)⟩
end Go.Proofs.Ytddcgholnhhcoaa
