/- The walk of CommitStable. No statement of the seat is proved here. -/
import Derived.Test.YtcljdkjlfciacaaPasts
import Derived.Test.YtcljdkjlfciacaaRStable
import Derived.Test.YtcljdkjlfciacaaCut35
import Derived.Test.YtcljdkjlfciacaaSized
namespace Go.Proofs.Ytcljdkjlfciacaa
open Go.RowKit
set_option linter.unusedVariables false

theorem open_intsl {H : Type} {enc : TypeId × Value → H} {w : World} {base : Nat} {spare : Nat → Bool} {held : Bool} {a : Option Addr} {len cap : Nat} {d : DataW H} {p : List MemPlace} (h : DataW.Trod enc Try.prog w base spare held 28 (.slice a len cap) d p) :
    ∃ l : List Int, len = l.length ∧ IntSeg w a l ∧ len ≤ cap ∧ cap ≤ maxLen ∧ ∀ c ∈ l, InI64 c := by
  obtain ⟨fuel, hf⟩ := h
  obtain ⟨css, hl, hs, h1, h2, hc⟩ := open_seg 1 Try.underlying28 (by kernel_rfl) (by omega) (show DataW.trod enc Try.prog w base spare held fuel 28 [.slice a len cap] = some (d, p) from hf)
  obtain ⟨l, rfl, hb⟩ := lift_all' Iv InI64 css (fun cs hcs => by
    obtain ⟨_, n, y, hy⟩ := hc cs hcs
    obtain ⟨z, rfl, _, hz⟩ := DataW.trod_int Try.underlying3 hy
    exact ⟨z, rfl, inI_of hz⟩)
  rw [List.length_map] at hl
  subst hl
  refine ⟨l, rfl, ?_, h1, h2, hb⟩
  show Seg w 1 a l.length (l.flatMap Iv)
  rw [List.flatMap_def]
  exact hs


def StCut (c : Nat) (bs : List Int) (k : Nat) (w : World) (base gl : Nat) (p : Pt) (R : List Rw) (s : Value) (wx : World) : Prop := ∃ (A : Option Addr) (cA : Nat) (X : List Int), s = .slice A X.length cA ∧ IntSeg wx A X ∧ X.length ≤ cA ∧ cA ≤ maxLen ∧ ScAt c bs k w base gl p R wx
set_option maxRecDepth 100000 in
set_option maxHeartbeats 3200000 in
theorem stables_walk (a0 : Option Addr) (cap0 : Nat) (R0 : List Rw) (a1 : Option Addr) (cap1 : Nat) (St : List Int) (a2 : Option Addr) (cap2 : Nat) (bs : List Int) (w : World)
    (h0 : LinSeg w a0 R0 ∧ R0.length ≤ cap0 ∧ cap0 ≤ maxLen ∧ (∀ r ∈ R0, ∀ e ∈ r.es, e.ok) ∧ R0.length * 24 ≤ reachBytes ∧ ∀ r ∈ R0, r.es.length * 56 ≤ reachBytes)
    (h1 : IntSeg w a1 St ∧ St.length ≤ cap1 ∧ cap1 ≤ maxLen ∧ ∀ c ∈ St, InI64 c)
    (h3 : Seg w 1 a2 bs.length (bs.map (Value.int .u8)) ∧ bs.length ≤ cap2 ∧ cap2 ≤ maxLen ∧ ∀ b ∈ bs, 0 ≤ b ∧ b < 256) :
    Calls Try.prog 4 #[.slice a0 R0.length cap0, .slice a1 St.length cap1, .slice a2 bs.length cap2] w fun e w' => e = .returned (.bool true) ∧ Below w.heap.size w w' := by
  obtain ⟨hs0, hc0, hm0, -, -, hz0⟩ := h0
  obtain ⟨hs1, hc1, hm1, -⟩ := h1
  obtain ⟨hb, hb1, hb2, hb3⟩ := h3
  have HB3 := Lib.hid hb3
  have HS0 := Lib.hid hs0
  have HS1 := Lib.hid hs1
  have HB := Lib.hid hb
  have HZ0 := Lib.hid hz0
  clear hb3 hs0 hb hs1 hz0
  have hm0' := hm0
  have hm1' := hm1
  have hb2' := hb2
  unfold maxLen at hm0' hm1' hb2'
  go_enter Try.func4, Try.ntmps4
  go_wp2_with fail
  refine (awake_any w).mono ?_
  rintro e w1 ⟨rfl, hE1⟩
  go_wp2_with fail
  refine (size_any a0 cap0 R0 w1 (HS0.out.ext hE1) hc0 hm0).mono ?_
  rintro e w2 ⟨rfl, hE2⟩
  have hE2' := hE1.trans hE2
  clear hE1 hE2
  by_cases hz : 60 < szL R0 (R0.length : Int)
  · have dz : decide (60 < szL R0 (R0.length : Int)) = true := decide_eq_true hz
    go_wp2_with fail
    refine (size_any a0 cap0 R0 w2 (HS0.out.ext hE2') hc0 hm0).mono ?_
    rintro e w3 ⟨rfl, hE3⟩
    go_wp2_with fail
    go_ret
    exact ⟨rfl, hE2'.trans hE3⟩
  have hR0 : R0.length ≤ 1000 := by have := szL_small hz; omega
  have HR60 := Lib.hid (szL_each R0 (R0.length : Int) (by omega) HZ0.out hz)
  have dz : decide (60 < szL R0 (R0.length : Int)) = false := decide_eq_false hz
  clear hz
  by_cases hl : 60 < St.length
  · have dl : decide ((60 : Int) < (St.length : Int)) = true := decide_eq_true (by omega)
    go_wp2_with fail
    refine (size_any a0 cap0 R0 w2 (HS0.out.ext hE2') hc0 hm0).mono ?_
    rintro e w3 ⟨rfl, hE3⟩
    go_wp2_with fail
    go_ret
    exact ⟨rfl, hE2'.trans hE3⟩
  have dl : decide ((60 : Int) < (St.length : Int)) = false := decide_eq_false (by omega)
  go_wp2_with fail
  refine (new_any a2 cap2 bs 200 w2 (HB.out.ext hE2') hb1 hb2 (by omega) HB3.out).mono ?_
  rintro e w3 ⟨rfl, hC3, hE3⟩
  obtain ⟨c, hcw⟩ : ∃ c, w2.heap.size = c := ⟨_, rfl⟩
  rw [hcw] at hC3
  have hc0' : w.heap.size ≤ c := by have := hE2'.size; omega
  have hE3' := hE2'.trans hE3
  have hc3 : c < w3.heap.size := hC3.lt
  try rw [hcw]
  clear hcw hE3 hE2' dz dl
  go_wp2_with fail
  refine (scene_any c _ 0 w3 hC3).mono ?_
  rintro e w4 ⟨base, gl, p, R, rfl, hn2, hn4, hb4, hgl4, hL4, hRl, hrl, -, hM4, hO4, hD4⟩
  obtain ⟨A0, c0, Ls, A1, c1, Ks, v2, As⟩ := p
  obtain ⟨A2, c2, hv2, _, _, _⟩ := own_slice hM4.a
  dsimp only at hv2
  subst hv2
  dsimp only at hn2 hn4 hRl hrl
  have hSc : ScAt c (bs.take 200) 0 w3 base gl ⟨A0, c0, Ls, A1, c1, Ks, .slice A2 As.length c2, As⟩ R w4 := ⟨hD4, hL4, hM4⟩
  have HRl := Lib.hid hRl
  have HO := Lib.hid hO4
  have HRs : Hid (∀ r ∈ R, r.es.length < 4611686018427387904) := fun s hs => by
    obtain ⟨q, hq⟩ := List.mem_iff_getElem?.1 hs
    have h1 := hrl q s hq
    have h2 := (hO4.lb q (by have := (List.getElem?_eq_some_iff.1 hq).1; show q < Ls.length; omega)).2
    dsimp only at h1 h2
    omega
  clear hL4 hM4 hD4 hrl hRl hO4 hC3
  have hX5 := (Ext.refl w4).allocs (.cells #[.slice A0 Ls.length c0, .slice A1 Ks.length c1, .slice A2 As.length c2] 32)
  have hB5 := Blk.new w4 32 #[.slice A0 Ls.length c0, .slice A1 Ks.length c1, .slice A2 As.length c2]
  have hc4 : c < w4.heap.size := by have := hSc.d.1.size; omega
  have hSc5 := hSc.ext hX5
  obtain ⟨w5, hw5⟩ : ∃ w5, w4.alloc (.cells #[.slice A0 Ls.length c0, .slice A1 Ks.length c1, .slice A2 As.length c2] 32) = w5 := ⟨_, rfl⟩
  obtain ⟨g5, hg5⟩ : ∃ g5, w4.heap.size = g5 := ⟨_, rfl⟩
  go_upto_region 5 with fail
  rw [hw5] at hB5 hSc5
  try rw [hw5]
  rw [hg5] at hB5 hc4
  try rw [hg5]
  clear hX5 hw5 hSc hg5
  obtain ⟨⟨x0, x1, x2⟩, _, _, _⟩ := blk3 hB5
  have HSc5 := Lib.hid hSc5
  clear hSc5 hB5
  go_wp2_with fail
  refine (cut_any c (bs.take 200) 0 w3 w5 A0 c0 Ls _ _ HSc5.out.d HSc5.out.m.l HSc5.out.m.lf hc3 hn4 (fun q hq => by have := HO.out.lb q hq; dsimp only at this; omega) ⟨rfl, rfl⟩).mono ?_
  rintro e w6 ⟨v6, X6, rfl, hO6, -, hD6, hg6⟩
  have HSc6 := Lib.hid (HSc5.out.draw hD6 hg6 hc3 hb4 hgl4)
  obtain ⟨A6, c6, rfl, hI6, hl6, hm6⟩ := own_slice hO6
  have HO6 := Lib.hid hO6
  clear hO6 hD6 hg6 x0 x1 x2
  go_wp2_with fail
  refine (next_on HSc6.out.d (Ext.refl _) 4 (by omega) (by omega)).mono ?_
  rintro e w7 ⟨k, rfl, ⟨hk0, hk1⟩, hD7, hg7⟩
  have HSc := Lib.hid (HSc6.out.draw hD7 hg7 hc3 hb4 hgl4)
  have HI7 : Hid (IntSeg w7 A6 X6) := Seg.of_own (own_keptc HO6.out hg7 (by have := HSc5.out.d.1.size; omega))
  clear hD7 hg7 hI6 HSc6 HSc5 HO6
  go_upto_if 43 with fail
  go_cut [10] (fun s10 wx => StCut c (bs.take 200) 0 w3 base gl ⟨A0, c0, Ls, A1, c1, Ks, .slice A2 As.length c2, As⟩ R s10 wx)
  case first =>
    by_cases hk : k = 3
    · have dk : (k == 3) = true := by simp [hk]
      go_wp2_with fail
      refine (ints_any c (bs.take 200) 0 w3 w7 4 HSc.out.d hc3 (by omega)).mono ?_
      rintro e w8 ⟨v8, X8, rfl, hO8, -, hD8, hg8⟩
      have HSc8 := Lib.hid (HSc.out.draw hD8 hg8 hc3 hb4 hgl4)
      obtain ⟨A8, c8, rfl, hI8, hl8, hm8⟩ := own_slice hO8
      clear hO8 hD8 hg8
      go_wp2_with fail
      go_meet
      exact ⟨A8, c8, X8, rfl, hI8, hl8, hm8, HSc8.out⟩
    · have dk : (k == 3) = false := by simp [hk]
      go_wp2_with fail
      go_meet
      exact ⟨A6, c6, X6, rfl, HI7.out, hl6, hm6, HSc.out⟩
  case rest =>
    obtain ⟨A8, c8, X, rfl, hI8, hl8, hm8, hS8⟩ := hcut
    have HI8 := Lib.hid hI8
    clear HSc HI7 hk0 hk1 hl6 hm6 hI8
    have hn0 : (searchL (evsL R0) (mtS St)).length ≤ 1000 := by rw [searchL_len, evsL_len]; exact hR0
    have hn1 : (searchL (evsL R) (mtS X)).length ≤ 1000 := by rw [searchL_len, evsL_len, HRl.out]; omega
    have HS := Lib.hid hS8
    have hE8 := hS8.d.ext hE3' hc0'
    have hR60 : ∀ r ∈ R0, r.es.length < 4611686018427387904 := fun r hr => by have := HR60.out r hr; omega
    have HR0' := Lib.hid hR60
    clear hS8 hR60
    go_wp2_with fail
    refine (stable_code a0 cap0 R0 a1 cap1 St _ (HS0.out.ext hE8) hR0 HR0'.out (HS1.out.ext hE8) hc1 hm1).mono ?_
    rintro e w9 ⟨B1, d1, rfl, hI1, hl1, hl1', hE9⟩
    have HSb := Lib.hid (HS.out.ext hE9)
    have HI9 := Lib.hid (HI8.out.ext hE9)
    have hE9' := hE8.trans hE9
    clear HS hE8 hE9 HI8
    go_wp2_with fail
    have hr := stable_ref a0 cap0 R0 a1 cap1 St _ (HS0.out.ext hE9') hR0 HR0'.out (HS1.out.ext hE9') hc1 hm1
    rw [← stable_same] at hr
    refine hr.mono ?_
    clear hr
    rintro e w10 ⟨B2, d2, rfl, hI2, hl2, hl2', hE10⟩
    have HSc := Lib.hid (HSb.out.ext hE10)
    have HI10 := Lib.hid (HI9.out.ext hE10)
    have hE10' := hE9'.trans hE10
    have hI1' := hI1.ext hE10
    clear HSb hE9' hE10 hI1 HI9
    go_wp2_with fail
    refine (same_ints B1 B2 d1 d2 _ _ hI1' hI2 hn0).mono ?_
    rintro e w11 ⟨rfl, hE11⟩
    have HSd := Lib.hid (HSc.out.ext hE11)
    have HI11 := Lib.hid (HI10.out.ext hE11)
    have hE11' := hE10'.trans hE11
    clear HSc hE10' hE11 hI1' hI2 HI10
    go_wp2_with fail
    have hp := stable_code (some ⟨gl, 0, none⟩) Ls.length R A8 c8 X _ HSd.out.l.seg (by have := HRl.out; omega) HRs.out HI11.out hl8 hm8
    rw [HRl.out] at hp
    refine hp.mono ?_
    clear hp
    rintro e w12 ⟨B3, d3, rfl, hI3, hl3, hl3', hE12⟩
    have HSe := Lib.hid (HSd.out.ext hE12)
    have HI12 := Lib.hid (HI11.out.ext hE12)
    have hE12' := hE11'.trans hE12
    clear HSd hE11' hE12 HI11
    go_wp2_with fail
    have hp := stable_ref (some ⟨gl, 0, none⟩) Ls.length R A8 c8 X _ HSe.out.l.seg (by have := HRl.out; omega) HRs.out HI12.out hl8 hm8
    rw [HRl.out, ← stable_same] at hp
    refine hp.mono ?_
    clear hp
    rintro e w13 ⟨B4, d4, rfl, hI4, hl4, hl4', hE13⟩
    have hE13' := hE12'.trans hE13
    have hI3' := hI3.ext hE13
    clear HSe hE12' hE13 hI3 HI12
    go_wp2_with fail
    refine (same_ints B3 B4 d3 d4 _ _ hI3' hI4 hn1).mono ?_
    rintro e w14 ⟨rfl, hE14⟩
    go_wp2_with fail
    go_ret
    exact ⟨rfl, hE13'.trans hE14⟩
end Go.Proofs.Ytcljdkjlfciacaa
