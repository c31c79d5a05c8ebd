/- The walk of CommitPasts. No statement of the seat is proved here. -/
import Derived.Test.YtcljdkjlfciacaaScene35
import Derived.Test.YtcljdkjlfciacaaAwake35
import Derived.Test.YtcljdkjlfciacaaPast3
import Derived.Test.YtcljdkjlfciacaaSent
import Derived.Test.YtcljdkjlfciacaaOpenLin
namespace Go.Proofs.Ytcljdkjlfciacaa
open Go.RowKit
set_option linter.unusedVariables false

theorem Drew.ext {c : Nat} {bs : List Int} {k : Nat} {W w w' : World} (h : Drew c bs k w w') (hE : Ext W w) (hc : W.heap.size ≤ c) : Ext W w' :=
  Below.grown hE h.1 hE.size (fun k hk => by injection hk; omega)
/-- the state behind the scene -/
structure ScAt (c : Nat) (bs : List Int) (k : Nat) (w : World) (base gl : Nat) (p : Pt) (R : List Rw) (W : World) : Prop where
  d : Drew c bs k w W
  l : LinOwn W base gl R
  m : PtMem W w.heap.size p
section
variable {c : Nat} {bs : List Int} {k : Nat} {w : World} {base gl : Nat} {p : Pt} {R : List Rw} {W W' : World}
theorem ScAt.ext (h : ScAt c bs k w base gl p R W) (hE : Ext W W') : ScAt c bs k w base gl p R W' := ⟨h.d.post hE, h.l.ext hE, h.m.ext hE⟩
theorem ScAt.draw (h : ScAt c bs k w base gl p R W) (hD : Drew c bs k w W') (hg : W.grownBy W' (some c)) (hc : c < w.heap.size) (hb : w.heap.size ≤ base) (hl : w.heap.size ≤ gl) : ScAt c bs k w base gl p R W' := ⟨hD, h.l.low hg (by omega) (by omega), h.m.grown hg hc⟩
end
theorem szL_small {R : List Rw} (h : ¬ 60 < szL R (R.length : Int)) : R.length ≤ 60 := by
  by_cases h1 : (R.length : Int) ≤ 60
  · omega
  · rw [szL_big h1] at h
    omega
def PsCut (c : Nat) (bs : List Int) (k : Nat) (w : World) (base gl : Nat) (p : Pt) (R : List Rw) (s : Value) (wx : World) : Prop := ∃ z : Int, s = .int .i64 z ∧ ScAt c bs k w base gl p R wx
set_option maxRecDepth 100000 in
set_option maxHeartbeats 3200000 in
theorem pasts_walk (a0 : Option Addr) (cap0 : Nat) (R0 : List Rw) (x1 x2 : Int) (a3 : Option Addr) (cap3 : Nat) (bs : List Int) (w : World)
    (h0 : LinSeg w a0 R0 ∧ R0.length ≤ cap0 ∧ cap0 ≤ maxLen ∧ ∀ r ∈ R0, ∀ e ∈ r.es, e.ok) (hx1 : (Lit.int .i64 x1).wf = true) (hx2 : (Lit.int .i64 x2).wf = true)
    (h3 : Seg w 1 a3 bs.length (bs.map (Value.int .u8)) ∧ bs.length ≤ cap3 ∧ cap3 ≤ maxLen ∧ ∀ b ∈ bs, 0 ≤ b ∧ b < 256) :
    Calls Try.prog 3 #[.slice a0 R0.length cap0, .int .i64 x1, .int .i64 x2, .slice a3 bs.length cap3] w fun e w' => e = .returned (.bool true) ∧ Below w.heap.size w w' := by
  obtain ⟨hs0, hc0, hm0, -⟩ := h0
  obtain ⟨hb, hb1, hb2, hb3⟩ := h3
  have HB3 := Lib.hid hb3
  have HS0 := Lib.hid hs0
  have HB := Lib.hid hb
  clear hb3 hx1 hx2 hs0 hb
  have hm0' := hm0
  have hb2' := hb2
  unfold maxLen at hm0' hb2'
  go_enter Try.func3, Try.ntmps3
  go_wp2_with fail
  refine (awake_any w).mono ?_
  rintro e w1 ⟨rfl, hE1⟩
  go_wp2_with fail
  refine (size_any a0 cap0 R0 w1 (HS0.out.ext hE1) hc0 hm0).mono ?_
  rintro e w2 ⟨rfl, hE2⟩
  have hE2' := hE1.trans hE2
  clear hE1 hE2
  by_cases hz : 60 < szL R0 (R0.length : Int)
  · have dz : decide (60 < szL R0 (R0.length : Int)) = true := decide_eq_true hz
    go_wp2_with fail
    refine (size_any a0 cap0 R0 w2 (HS0.out.ext hE2') hc0 hm0).mono ?_
    rintro e w3 ⟨rfl, hE3⟩
    go_wp2_with fail
    go_ret
    exact ⟨rfl, hE2'.trans hE3⟩
  have hR0 : R0.length ≤ 1000 := by have := szL_small hz; omega
  have dz : decide (60 < szL R0 (R0.length : Int)) = false := decide_eq_false hz
  clear hz
  go_wp2_with fail
  refine (new_any a3 cap3 bs 200 w2 (HB.out.ext hE2') hb1 hb2 (by omega) HB3.out).mono ?_
  rintro e w3 ⟨rfl, hC3, hE3⟩
  obtain ⟨c, hcw⟩ : ∃ c, w2.heap.size = c := ⟨_, rfl⟩
  rw [hcw] at hC3
  have hc0' : w.heap.size ≤ c := by have := hE2'.size; omega
  have hE3' := hE2'.trans hE3
  have hc3 : c < w3.heap.size := hC3.lt
  try rw [hcw]
  clear hcw hE3 hE2' dz
  go_wp2_with fail
  refine (scene_any c _ 0 w3 hC3).mono ?_
  rintro e w4 ⟨base, gl, p, R, rfl, hn2, hn4, hb4, hgl4, hL4, hRl, hrl, -, hM4, hO4, hD4⟩
  obtain ⟨A0, c0, Ls, A1, c1, Ks, v2, As⟩ := p
  obtain ⟨A2, c2, hv2, _, _, _⟩ := own_slice hM4.a
  dsimp only at hv2
  subst hv2
  dsimp only at hn2 hn4 hRl hrl
  have hSc : ScAt c (bs.take 200) 0 w3 base gl ⟨A0, c0, Ls, A1, c1, Ks, .slice A2 As.length c2, As⟩ R w4 := ⟨hD4, hL4, hM4⟩
  have HRl := Lib.hid hRl
  have HO := Lib.hid hO4
  clear hL4 hM4 hD4 hrl hRl hO4 hC3
  have hX5 := (Ext.refl w4).allocs (.cells #[.slice A0 Ls.length c0, .slice A1 Ks.length c1, .slice A2 As.length c2] 32)
  have hB5 := Blk.new w4 32 #[.slice A0 Ls.length c0, .slice A1 Ks.length c1, .slice A2 As.length c2]
  have hc4 : c < w4.heap.size := by have := hSc.d.1.size; omega
  have hSc5 := hSc.ext hX5
  obtain ⟨w5, hw5⟩ : ∃ w5, w4.alloc (.cells #[.slice A0 Ls.length c0, .slice A1 Ks.length c1, .slice A2 As.length c2] 32) = w5 := ⟨_, rfl⟩
  obtain ⟨g5, hg5⟩ : ∃ g5, w4.heap.size = g5 := ⟨_, rfl⟩
  go_upto_region 5 with fail
  rw [hw5] at hB5 hSc5
  try rw [hw5]
  rw [hg5] at hB5 hc4
  try rw [hg5]
  clear hX5 hw5 hSc hg5
  go_wp2_with fail
  refine (next_on hSc5.d (Ext.refl _) ((Ls.length : Int) + 1) (by omega) (by omega)).mono ?_
  rintro e w6 ⟨q, rfl, ⟨hq0, hq1⟩, hD6, hg6⟩
  have hSc6 := hSc5.draw hD6 hg6 hc3 hb4 hgl4
  have hB6 := hB5.grown hg6 hc4
  clear hSc5 hB5 hD6 hg6
  go_wp2_with fail
  refine (next_on hSc6.d (Ext.refl _) 20 (by omega) (by omega)).mono ?_
  rintro e w7 ⟨k, rfl, ⟨hk0, hk1⟩, hD7, hg7⟩
  have HSc := Lib.hid (hSc6.draw hD7 hg7 hc3 hb4 hgl4)
  have hB7 := hB6.grown hg7 hc4
  clear hSc6 hB6 hD7 hg7
  have hwk : IntKind.i64.wrap (k - 1) = k - 1 := IntWalk.i64_in _ (by omega)
  obtain ⟨q, rfl⟩ : ∃ qn : Nat, q = (qn : Int) := ⟨q.toNat, by omega⟩
  go_upto_if 42 with fail
  go_cut [13] (fun s13 wx => PsCut c (bs.take 200) 0 w3 base gl ⟨A0, c0, Ls, A1, c1, Ks, .slice A2 As.length c2, As⟩ R s13 wx)
  case first =>
    by_cases hlt : q < Ls.length
    · have hqd : decide ((q : Int) < (Ls.length : Int)) = true := decide_eq_true (by omega)
      have hlb := HO.out.lb q hlt
      dsimp only at hlb
      obtain ⟨bL, oL, hAL, pq⟩ := Iv.at_ HSc.out.m.l hlt
      rw [← elX_at hlt] at pq
      dsimp only at hAL
      subst hAL
      obtain ⟨⟨x0, _, _⟩, _, _, _⟩ := blk3 hB7
      have hq0' : (0 : Int) ≤ (q : Int) := by omega
      have hq1' : (q : Int) < (Ls.length : Int) := by omega
      have hB7 := Lib.hid hB7
      go_upto_region 8 with fail
      refine wp_region_sched (by kernel_rfl) 14 [(0, true), (1, true), (2, true), (3, true), (4, true), (5, true), (6, true), (7, true), (8, true), (9, true), (10, true), (11, true), (12, false), (13, true), (14, false)] (fun w' => w'.cell? ⟨g5, 0, none⟩ = some (.slice (some ⟨bL, oL, none⟩) Ls.length c0) ∧ w'.cell? ⟨bL, oL + q, none⟩ = some (.int .i64 (elX Ls q))) (by kernel_rfl) (fun _ _ dd _ _ h => by cases dd <;> exact h) ⟨x0, pq⟩ (fun hHeld => ?_)
      clear x0 pq
      have hw1 : IntKind.i64.wrap (elX Ls q + 1) = elX Ls q + 1 := IntWalk.i64_in _ (by omega)
      iterate 12 ((refine sched_read (v := ?_) rfl (Or.inl ⟨by rfl, ?_⟩) hHeld ?_; rotate_left 1; · (intro w' hSw; obtain ⟨t0, t1⟩ := hSw; go_simp; (first | done | with_reducible rfl))); (try simp only [Act.put, List.setIfInBounds_toArray, List.set_cons_zero, List.set_cons_succ]))
      refine sched_eff rfl (fun K hK => ?_)
      go_simp
      refine (next_on HSc.out.d (Below.drew (Ext.refl _)) (elX Ls q + 1) (by omega) (by omega)).mono ?_
      rintro e w8 ⟨r8, rfl, ⟨hr80, hr81⟩, hD8, hg8⟩
      have HSc8 := Lib.hid ((HSc.out.ext (Below.drew (Ext.refl _))).draw hD8 hg8 hc3 hb4 hgl4)
      obtain ⟨⟨x0, _, _⟩, _, _, _⟩ := blk3 ((hB7.out.ext (Below.drew (Ext.refl _))).grown hg8 hc4)
      have pq := Iv.cellX HSc8.out.m.l hlt
      clear hD8 hg8
      go_wp2_with fail
      refine hK.out _ _ ⟨x0, pq⟩ (fun hHeld => ?_)
      clear hK K x0 pq
      try simp only [Act.put, List.setIfInBounds_toArray, List.set_cons_zero, List.set_cons_succ]
      iterate 1 ((refine sched_read (v := ?_) rfl (Or.inl ⟨by rfl, ?_⟩) hHeld ?_; rotate_left 1; · (intro w' hSw; obtain ⟨t0, t1⟩ := hSw; go_simp; (first | done | with_reducible rfl))); (try simp only [Act.put, List.setIfInBounds_toArray, List.set_cons_zero, List.set_cons_succ]))
      refine sched_tail rfl (by decide) (fun K hK => ?_)
      go_simp
      refine hK.out _ _ ?_
      clear hK K
      refine sched_done ?_
      go_wp2_with fail
      go_meet
      exact ⟨_, rfl, HSc8.out⟩
    · have hqd : decide ((q : Int) < (Ls.length : Int)) = false := decide_eq_false (by omega)
      go_wp2_with fail
      go_meet
      exact ⟨_, rfl, HSc.out⟩
  case rest =>
    obtain ⟨z, rfl, hS8⟩ := hcut
    clear HSc hB7 hwk hk0 hk1
    have hn0 : (pastL (evsL R0) x1 x2).length ≤ 1000 := by have := pastL_len (evsL R0) x1 x2; rw [evsL_len] at this; omega
    have hn1 : (pastL (evsL R) (q : Int) z).length ≤ 1000 := by have := pastL_len (evsL R) (q : Int) z; rw [evsL_len, HRl.out] at this; omega
    have HS := Lib.hid hS8
    have hE8 := hS8.d.ext hE3' hc0'
    clear hS8
    go_wp2_with fail
    refine (past_code a0 cap0 R0 x1 x2 _ (HS0.out.ext hE8) hR0).mono ?_
    rintro e w9 ⟨B1, d1, rfl, hI1, hl1, hl1', hE9⟩
    have HSb := Lib.hid (HS.out.ext hE9)
    have hE9' := hE8.trans hE9
    clear HS hE8 hE9
    go_wp2_with fail
    refine (past_ref a0 cap0 R0 x1 x2 _ (HS0.out.ext hE9') hR0).mono ?_
    rintro e w10 ⟨B2, d2, rfl, hI2, hl2, hl2', hE10⟩
    have HSc := Lib.hid (HSb.out.ext hE10)
    have hE10' := hE9'.trans hE10
    have hI1' := hI1.ext hE10
    clear HSb hE9' hE10 hI1
    go_wp2_with fail
    refine (same_ints B1 B2 d1 d2 _ _ hI1' hI2 hn0).mono ?_
    rintro e w11 ⟨rfl, hE11⟩
    have HSd := Lib.hid (HSc.out.ext hE11)
    have hE11' := hE10'.trans hE11
    clear HSc hE10' hE11 hI1' hI2
    go_wp2_with fail
    have hp := past_code (some ⟨gl, 0, none⟩) Ls.length R q z _ HSd.out.l.seg (by have := HRl.out; omega)
    rw [HRl.out] at hp
    refine hp.mono ?_
    clear hp
    rintro e w12 ⟨B3, d3, rfl, hI3, hl3, hl3', hE12⟩
    have HSe := Lib.hid (HSd.out.ext hE12)
    have hE12' := hE11'.trans hE12
    clear HSd hE11' hE12
    go_wp2_with fail
    have hp := past_ref (some ⟨gl, 0, none⟩) Ls.length R q z _ HSe.out.l.seg (by have := HRl.out; omega)
    rw [HRl.out] at hp
    refine hp.mono ?_
    clear hp
    rintro e w13 ⟨B4, d4, rfl, hI4, hl4, hl4', hE13⟩
    have hE13' := hE12'.trans hE13
    have hI3' := hI3.ext hE13
    clear HSe hE12' hE13 hI3
    go_wp2_with fail
    refine (same_ints B3 B4 d3 d4 _ _ hI3' hI4 hn1).mono ?_
    rintro e w14 ⟨rfl, hE14⟩
    go_wp2_with fail
    go_ret
    exact ⟨rfl, hE13'.trans hE14⟩
end Go.Proofs.Ytcljdkjlfciacaa
