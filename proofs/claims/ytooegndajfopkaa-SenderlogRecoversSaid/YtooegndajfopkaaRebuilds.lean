/- The law of rebuilding, walked. No statement of the seat is proved here. -/
import Derived.Test.YtooegndajfopkaaSizedR
namespace Go.Proofs.Ytooegndajfopkaa
open Go.RowKit
set_option linter.unusedVariables false
set_option maxRecDepth 100000

set_option maxHeartbeats 1600000 in
theorem sameRc_any (A B : Option Addr) (ca cb : Nat) (l : List Rc) (w : World) (ha : RcSeg w A l) (hb : RcSeg w B l) (hn : l.length ≤ 1000) :
    Calls Try.prog 29 #[.slice A l.length ca, .slice B l.length cb] w fun e w' => e = .returned (.bool true) ∧ ∃ q, w' = w.drewN q := by
  go_enter Try.func29, Try.ntmps29
  go_wp2_with fail
  go_loopg [5] l.length (fun g i wr => ∃ j q : Nat, j ≤ l.length ∧ i = .int .i64 j ∧ g = l.length - j ∧ wr = w.drewN q)
  case atStart => exact ⟨0, 0, Nat.zero_le _, rfl, rfl, rfl⟩
  case round =>
    obtain ⟨j, q, hj, rfl, rfl, rfl⟩ := hrel
    by_cases hlt : j < l.length
    · obtain ⟨b, off, rfl, p0, p1, p2⟩ := Rc.at_ ha hlt
      obtain ⟨b', off', rfl, r0, r1, r2⟩ := Rc.at_ hb hlt
      generalize l[j].frm = x0 at *
      generalize l[j].ssn = x1 at *
      generalize l[j].val = x2 at *
      clear ha hb
      go_wp2_with fail
      go_quiet (fail)
      go_wp2_with fail
      go_roundg (l.length - (j + 1))
      case measure => omega
      case rel => exact ⟨j + 1, _, by omega, by go_num, rfl, rfl⟩
    · go_wp2_with fail
      go_ret
      exact ⟨rfl, q, rfl⟩
theorem sumL_take (R : List TR) (i : Nat) (h : i < R.length) : sumL (R.take (i + 1)) = sumL (R.take i) + (1 + R[i].cs.length) := by
  unfold sumL
  rw [List.take_succ_eq_append_getElem h, List.map_append, List.sum_append]
  simp
theorem sumL_mem : ∀ (R : List TR), R.length ≤ sumL R ∧ ∀ r ∈ R, r.cs.length ≤ sumL R := by
  intro R
  induction R with
  | nil => exact ⟨Nat.le_refl _, fun r hr => by cases hr⟩
  | cons r R ih =>
    unfold sumL at *
    rw [List.map_cons, List.sum_cons, List.length_cons]
    refine ⟨by omega, fun s hs => ?_⟩
    rcases List.mem_cons.1 hs with rfl | hs
    · omega
    · have := ih.2 s hs
      omega
theorem both_reb {E : List Ps} {l l' : List Rc} {N N' : Nat} (h : Reb E l N) (h' : Reb E l' N') : l' = l ∧ N' = N := reb_unique h' h
theorem rc_own {w w' : World} {base : Nat} {v : Value} {l : List Rc} (h : OwnRc w base v l) (hE : Ext w w') : ∃ A c, v = .slice A l.length c ∧ RcSeg w' A l := by
  obtain ⟨A, c, e, h1, _, _⟩ := own_slice h
  exact ⟨A, c, e, h1.ext hE⟩

set_option maxHeartbeats 6400000 in
theorem rebuilds_walk (a0 : Option Addr) (cap0 : Nat) (R0 : List TR) (x1 : Int) (a2 : Option Addr) (cap2 : Nat) (bs : List Int) (w : World)
    (h0 : TabSeg w a0 R0 ∧ R0.length ≤ cap0 ∧ cap0 ≤ maxLen ∧ (∀ r ∈ R0, ∀ x ∈ r.cs, x.ok) ∧ R0.length * 24 ≤ reachBytes ∧ ∀ r ∈ R0, r.cs.length * 32 ≤ reachBytes)
    (hx1 : (Lit.int .i64 x1).wf = true)
    (h3 : Seg w 1 a2 bs.length (bs.map (Value.int .u8)) ∧ bs.length ≤ cap2 ∧ cap2 ≤ maxLen ∧ ∀ b ∈ bs, 0 ≤ b ∧ b < 256) :
    Calls Try.prog 8 #[.slice a0 R0.length cap0, .int .i64 x1, .slice a2 bs.length cap2] w fun e w' => e = .returned (.bool true) ∧ Below w.heap.size w w' := by
  obtain ⟨hs0, hc0, hm0, hok0, hz1, hz0⟩ := h0
  obtain ⟨hb, hb1, hb2, hb3⟩ := h3
  have HB3 := Lib.hid hb3
  have HB := Lib.hid hb
  have HOK0 := Lib.hid hok0
  have HZ0 := Lib.hid hz0
  have HX1 := Lib.hid hx1
  clear hb3 hb hok0 hz0 hx1
  have hz1' : R0.length * 24 ≤ reachBytes := hz1
  unfold reachBytes at hz1
  have hR0 : (R0.length : Int) ≤ 140737488355328 := by omega
  clear hz1'
  go_enter Try.func8, Try.ntmps8
  go_upto_block 0 with fail
  go_cut [7, 8] (fun s7 _ wx => ∃ m i : Nat, s7 = .int .i64 (m : Int) ∧ wx = w ∧ i ≤ R0.length ∧ (m ≤ 100 → i = R0.length) ∧ Hid (m = sumL (R0.take i)))
  case first =>
    go_wp2_with fail
    go_loopg [7, 8] R0.length (fun kx s7 s8 wr => ∃ m i : Nat, s7 = .int .i64 (m : Int) ∧ s8 = .int .i64 (i : Int) ∧ wr = w ∧ i ≤ R0.length ∧ R0.length - i ≤ kx ∧ Hid (m = sumL (R0.take i)))
    case atStart => exact ⟨0, 0, rfl, rfl, rfl, Nat.zero_le _, by omega, rfl⟩
    case round =>
      obtain ⟨m, i, rfl, rfl, rfl, hi, hk, HM⟩ := hrel
      by_cases hlt : i < R0.length
      · have d1 : decide ((i : Int) < (R0.length : Int)) = true := decide_eq_true (by omega)
        have d1M : (i : Int) < (R0.length : Int) := by omega
        by_cases hm : m ≤ 100
        · have d2 : decide ((m : Int) ≤ 100) = true := decide_eq_true (by omega)
          have d2M : (m : Int) ≤ 100 := by omega
          obtain ⟨tb, toff, rfl, pc⟩ := hs0.at_ hlt
          have hrz := HZ0.out R0[i] (List.getElem_mem hlt)
          have HM2 : Hid (m + (1 + R0[i].cs.length) = sumL (R0.take (i + 1))) := by show _ = _; rw [sumL_take R0 i hlt, HM.out]
          obtain ⟨ln, hln⟩ : ∃ n, n = R0[i].cs.length := ⟨_, rfl⟩
          rw [← hln] at pc hrz HM2
          unfold reachBytes at hrz
          have hi0 : (0 : Int) ≤ (i : Int) := by omega
          clear hln
          go_wp2_with fail
          go_roundg (R0.length - (i + 1))
          case measure => omega
          case rel => exact ⟨m + (1 + ln), i + 1, by first | go_num | (congr 1; omega), by go_num, rfl, by omega, Nat.le_refl _, HM2⟩
        · have d2 : decide ((m : Int) ≤ 100) = false := decide_eq_false (by omega)
          have d2M : ¬ (m : Int) ≤ 100 := by omega
          go_wp2_with fail
          go_meet
          exact ⟨m, i, rfl, rfl, hi, fun h => absurd h hm, HM⟩
      · have d1 : decide ((i : Int) < (R0.length : Int)) = false := decide_eq_false (by omega)
        have d1M : ¬ (i : Int) < (R0.length : Int) := by omega
        go_wp2_with fail
        go_meet
        exact ⟨m, i, rfl, rfl, hi, fun _ => by omega, HM⟩
  case rest =>
    obtain ⟨m, i, rfl, rfl, hi, him, HM⟩ := hcut
    by_cases hm : m ≤ 100
    · have d2 : decide ((100 : Int) < (m : Int)) = false := decide_eq_false (by omega)
      have d2M : ¬ (100 : Int) < (m : Int) := by omega
      have hi' := him hm
      subst hi'
      have hms : sumL R0 ≤ 100 := by
        have := HM.out
        rw [List.take_length] at this
        omega
      have TK : Aside (TabOk wc a0 R0) := ⟨hs0, HOK0.out, by have := (sumL_mem R0).1; omega, fun r hr => by have := (sumL_mem R0).2 r hr; omega, fun tg => by have := tabE_sum tg R0 0; omega⟩
      clear HM him hms HOK0 HZ0 hs0
      go_wp2_with fail
      refine (awake_any _).mono ?_
      rintro e w1 ⟨rfl, hE1⟩
      have hc1 := rebuild_sl a0 cap0 R0 x1 w1 (TK.out.1.ext hE1) TK.out.2.1 TK.out.2.2.1 (TK.out.2.2.2.2 x1) TK.out.2.2.2.1
      go_wp2_with fail
      refine hc1.mono ?_
      rintro e w2 ⟨v1, l1, N1, rfl, hown1, hreb1, hl1, hN1, hE2⟩
      have hc2 := rebuild_ref a0 cap0 R0 x1 w2 (TK.out.1.ext (hE1.trans hE2)) TK.out.2.2.1 (TK.out.2.2.2.2 x1) TK.out.2.2.2.1
      obtain ⟨A1, c1, rfl, _, _, _⟩ := own_slice hown1
      have OW1 : Aside _ := hown1
      have HR1 := Lib.hid hreb1
      clear hc1 hown1 hreb1
      go_wp2_with fail
      refine hc2.mono ?_
      rintro e w3 ⟨v2, l2, N2, rfl, hown2, hreb2, hl2, hN2, hE3⟩
      obtain ⟨rfl, rfl⟩ := both_reb HR1.out hreb2
      obtain ⟨A2, c2, rfl, _, _, _⟩ := own_slice hown2
      have OW2 : Aside _ := hown2
      have E3 : Aside (Ext wc w3) := (hE1.trans hE2).trans hE3
      have E23 : Aside (Ext w2 w3) := hE3
      have ht := tables_any a2 cap2 bs w3 (HB.out.ext E3.out) hb1 hb2 HB3.out
      clear hc2 hown2 hreb2 HR1 hE1 hE2 hE3
      go_wp2_with fail
      refine ht.mono ?_
      rintro e w4 ⟨A4, c4, R4, rfl, hT4, hE4⟩
      have T4 : Aside (TabOk w4 A4 R4) := hT4
      have E4 : Aside (Ext w3 w4) := hE4
      clear ht hT4 hE4
      go_wp2_with fail
      refine (mod_any x1 4 _ (by omega) (by omega)).mono ?_
      rintro e w5 ⟨rfl, rfl⟩
      obtain ⟨y, hy⟩ : ∃ y, y = modv x1 4 := ⟨_, rfl⟩
      rw [← hy]
      have HY := Lib.hid hy
      clear hy
      have hc5 := rebuild_sl A4 c4 R4 y w4 T4.out.1 T4.out.2.1 T4.out.2.2.1 (T4.out.2.2.2.2 y) T4.out.2.2.2.1
      go_wp2_with fail
      refine hc5.mono ?_
      rintro e w5 ⟨v5, l5, N5, rfl, hown5, hreb5, hl5, hN5, hE5⟩
      have hc6 := rebuild_ref A4 c4 R4 y w5 (T4.out.1.ext hE5) T4.out.2.2.1 (T4.out.2.2.2.2 y) T4.out.2.2.2.1
      obtain ⟨A5, c5, rfl, _, _, _⟩ := own_slice hown5
      have OW5 : Aside _ := hown5
      have HR5 := Lib.hid hreb5
      have E5 : Aside (Ext w4 w5) := hE5
      clear hc5 hown5 hreb5 hE5
      go_wp2_with fail
      refine (mod_any x1 4 _ (by omega) (by omega)).mono ?_
      rintro e w6 ⟨rfl, rfl⟩
      rw [← HY.out]
      go_wp2_with fail
      refine hc6.mono ?_
      rintro e w6 ⟨v6, l6, N6, rfl, hown6, hreb6, hl6, hN6, hE6⟩
      obtain ⟨rfl, rfl⟩ := both_reb HR5.out hreb6
      obtain ⟨A6, c6, rfl, _, _, _⟩ := own_slice hown6
      obtain ⟨A1', c1', h1, hs1⟩ := rc_own OW1.out (((E23.out.trans E4.out).trans E5.out).trans hE6)
      injection h1 with h1a _ h1c
      subst h1a
      subst h1c
      obtain ⟨A2', c2', h2, hs2⟩ := rc_own OW2.out ((E4.out.trans E5.out).trans hE6)
      injection h2 with h2a _ h2c
      subst h2a
      subst h2c
      obtain ⟨A5', c5', h5, hs5⟩ := rc_own OW5.out hE6
      injection h5 with h5a _ h5c
      subst h5a
      subst h5c
      obtain ⟨A6', c6', h6, hs6⟩ := rc_own hown6 (Ext.refl _)
      injection h6 with h6a _ h6c
      subst h6a
      subst h6c
      have hs1' := sameRc_any A1 A2 c1 c2 _ w6 hs1 hs2 (by omega)
      have HS5 : Aside _ := hs5
      have HS6 : Aside _ := hs6
      have EF : Aside (Ext wc w6) := ((E3.out.trans E4.out).trans E5.out).trans hE6
      clear hc6 hown6 hreb6 HR5 hE6 OW1 OW2 OW5 hs1 hs2 hs5 hs6
      go_wp2_with fail
      refine hs1'.mono ?_
      rintro e w7 ⟨rfl, q7, rfl⟩
      have hs5' := sameRc_any A5 A6 c5 c6 _ (w6.drewN q7) (Seg.drewN HS5.out q7) (Seg.drewN HS6.out q7) (by omega)
      go_wp2_with fail
      refine hs5'.mono ?_
      rintro e w8 ⟨rfl, q8, rfl⟩
      go_wp2_with fail
      go_ret
      exact ⟨rfl, EF.out.drewN _⟩
    · have d2 : decide ((100 : Int) < (m : Int)) = true := decide_eq_true (by omega)
      have d2M : (100 : Int) < (m : Int) := by omega
      clear him
      go_wp2_with fail
      refine (awake_any _).mono ?_
      rintro e w1 ⟨rfl, hE1⟩
      go_wp2_with fail
      go_ret
      exact ⟨rfl, hE1⟩
end Go.Proofs.Ytooegndajfopkaa
