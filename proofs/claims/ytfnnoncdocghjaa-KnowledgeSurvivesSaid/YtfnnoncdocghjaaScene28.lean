/- scene of the law. No statement of the seat is proved here. -/
import Derived.Test.YtfnnoncdocghjaaPlayT
import Derived.Test.YtfnnoncdocghjaaBelPlain
namespace Go.Proofs.Ytfnnoncdocghjaa
open Go.RowKit
set_option linter.unusedVariables false
set_option maxRecDepth 100000

/-- five results, the third in a cell -/
theorem results_5 {fn : Func} {p t u x y : Tmp} {ty : TypeId} (h : fn.results = #[.tmp t, .tmp u, .cell p ty, .tmp x, .tmp y]) (tmps : Array Value) (P : Program) (w : World) :
    (results fn tmps).run P w = ((asAddr (tmps.getD p undef)).run P w).andThen fun a w₁ => ((loadVar ty a).run P w₁).andThen fun v w₂ => .ok (.tuple #[tmps.getD t undef, tmps.getD u undef, v, tmps.getD x undef, tmps.getD y undef]) w₂ := by
  simp only [results, h]
  simp [Sem.run_bind, Result.andThen]
theorem res_sc {W : World} {b : Nat} {v1 v2 e2 e3 e5 e6 : Value} {tmps : Array Value} (h : Blk W b 50 #[v1, v2]) (h4 : tmps.getD 4 undef = .pointer (some ⟨b, 0, none⟩)) (h2 : tmps.getD 2 undef = e2) (h3 : tmps.getD 3 undef = e3) (h5 : tmps.getD 5 undef = e5) (h6 : tmps.getD 6 undef = e6) :
    (results Try.f27 tmps).run Try.prog W = .ok (.tuple #[e2, e3, .agg #[v1, v2], e5, e6]) W := by
  rw [results_5 rfl, h4, h2, h3, h5, h6]
  simp [asAddr, load_sp h]
/-- what scene returns -/
def ScPost (w : World) (e : Ending) (w' : World) : Prop := ∃ (N f : Nat) (l : List Av) (SA : Option Addr) (Sc : Nat) (A1 A2 : Option Addr) (c1 c2 : Nat) (R : List (Gr Ev)) (K : List (Gr Kn)), e = .returned (.tuple #[.int .i64 N, .int .i64 f, .agg #[.slice A1 N c1, .slice A2 N c2], .slice SA (playS N f l).2.length Sc, .bool true]) ∧ 2 ≤ N ∧ N ≤ 4 ∧ f ≤ N ∧ l.length ≤ 60 ∧
  GSeg Ev.cells 7 w' A1 R ∧ GSeg Kn.cells 10 w' A2 K ∧ R.map Gr.l = (playS N f l).1.ev ∧ K.map Gr.l = (playS N f l).1.kn ∧ DtSeg w' SA (playS N f l).2 ∧ Ext w w'
/-- the loops of scene: the acts, the processes, the events -/
def SaRel (w1 : World) (g N : Nat) (f : Int) (l : List Av) (base : Nat) (gg : Nat) (iv : Value) (wr : World) : Prop :=
  ∃ (j : Nat) (r : Rn), j ≤ l.length ∧ iv = .int .i64 j ∧ gg = l.length - j ∧ RnM wr base g N f r ∧ (r.p.st, r.S) = playS N f (l.take j) ∧ Ext w1 wr
def SpRel (w1 : World) (N : Nat) (gg : Nat) (ok pv : Value) (wr : World) : Prop := ∃ p : Nat, p ≤ N ∧ pv = .int .i64 p ∧ ok = .bool true ∧ gg = N - p ∧ Ext w1 wr
def SkRel (w1 : World) (m : Nat) (gg : Nat) (ok kv : Value) (wr : World) : Prop := ∃ k : Nat, k ≤ m ∧ kv = .int .i64 k ∧ ok = .bool true ∧ gg = m - k ∧ Ext w1 wr
set_option maxHeartbeats 6400000 in
theorem scene_any (a0 : Option Addr) (cap0 : Nat) (bs : List Int) (w : World) (hs : Seg w 1 a0 bs.length (bs.map (Value.int .u8))) (hcap : bs.length ≤ cap0) (hcap2 : cap0 ≤ maxLen) (hv : ∀ b ∈ bs, 0 ≤ b ∧ b < 256) :
    Calls Try.prog 27 #[.slice a0 bs.length cap0] w (ScPost w) := by
  have hX0 : Ext w (w.alloc (.cells #[.slice none 0 0, .slice none 0 0] 50)) := (Ext.refl w).allocs _
  have HB4 : Hid (Blk (w.alloc (.cells #[.slice none 0 0, .slice none 0 0] 50)) w.heap.size 50 #[.slice none 0 0, .slice none 0 0]) := Blk.new w _ _
  have HDR := Lib.hid (draw_any a0 cap0 bs (w.alloc (.cells #[.slice none 0 0, .slice none 0 0] 50)) (hs.ext hX0) hcap hcap2 hv)
  have HX0 := Lib.hid hX0
  clear hs hv hX0
  go_enter Try.func27, Try.ntmps27
  go_wp2_with fail
  refine HDR.out.mono ?_
  rintro e w1 ⟨N, f, A, c, l, rfl, hN1, hN2, hf, hS, hl, hE1⟩
  have HB41 := Lib.hid (Blk.ext HB4.out hE1)
  have HE1 := Lib.hid (Ext.trans HX0.out hE1)
  have HS := Lib.hid hS
  clear hE1 hS HDR HB4 HX0
  have hpr : playR N f l = (0, (playV N f l).ev, (playV N f l).kn) := by
    unfold playR
    rw [if_pos ⟨by omega, by omega, by omega, by omega⟩, if_pos (by omega), Int.toNat_natCast]
  have HPR : Hid (playR N f l = (0, (playV N f l).ev, (playV N f l).kn)) := hpr
  clear hpr
  have HPL := Lib.hid (play_typed N f A c l w1 HS.out)
  go_wp2_with fail
  refine HPL.out.mono ?_
  rintro e w2 ⟨v, rfl, hsp, hE2, hty⟩
  rw [HPR.out] at hsp hty ⊢
  dsimp only at hsp hty ⊢
  obtain ⟨A1, A2, c1, c2, R, K, rfl, h1, h2, h3, h4⟩ := hsp
  have hrep := Rep.play N f (by omega) l
  have hwf := WS.play N f (by omega) l l.length (Nat.le_refl _)
  rw [List.take_length] at hwf
  have hfst := playS_fst N f l
  have hRl : R.length = N := by have := congrArg List.length h3; rw [List.length_map, ← hfst, hrep.ev] at this; exact this
  have hKl : K.length = N := by have := congrArg List.length h4; rw [List.length_map, ← hfst, hrep.bel.kn] at this; exact this
  have hR0 : 0 < R.length := by omega
  obtain ⟨b1, o1, hA1, -⟩ := h1.at_ hR0
  subst hA1
  have HTY := Lib.hid hty
  have HB42 := Lib.hid (Blk.ext HB41.out hE2)
  have HE2 := Lib.hid (Ext.trans HE1.out hE2)
  have HREP := Lib.hid hrep
  have HWF := Lib.hid hwf
  have HFST := Lib.hid hfst
  have hAl : Ext w2 (w2.alloc (.cells #[.slice (some ⟨b1, o1, none⟩) R.length c1, .slice A2 K.length c2] 50)) := (Ext.refl w2).allocs _
  have hBk : Blk (w2.alloc (.cells #[.slice (some ⟨b1, o1, none⟩) R.length c1, .slice A2 K.length c2] 50)) w2.heap.size 50 #[.slice (some ⟨b1, o1, none⟩) R.length c1, .slice A2 K.length c2] := Blk.new w2 _ _
  rw [hRl, hKl] at hAl hBk ⊢
  have H1 := Lib.hid (h1.ext hAl)
  have H34 : Hid (R.map Gr.l = (playS N f l).1.ev ∧ K.map Gr.l = (playS N f l).1.kn) := by show _ ∧ _; rw [hfst]; exact ⟨h3, h4⟩
  have HLL : Hid (R.length = N ∧ K.length = N) := ⟨hRl, hKl⟩
  have HTW : Hid (∀ (W' : World) (g : Nat) (cs : Array Value), Blk w2 g 50 cs → w2.grownBy W' (some g) → GSeg Ev.cells 7 W' (some ⟨b1, o1, none⟩) R ∧ GSeg Kn.cells 10 W' A2 K ∨ True) := fun _ _ _ _ _ => .inr trivial
  clear HTW
  have HBG := Lib.hid (begin_any N (by omega) f (w2.alloc (.cells #[.slice (some ⟨b1, o1, none⟩) N c1, .slice A2 N c2] 50)))
  clear h1 h2 h3 h4 hrep hwf hfst hty HPL hRl hKl hR0
  go_wp2_with fail
  refine HBG.out.mono ?_
  rintro e w4 ⟨g, r0, rfl, hC0, hst0, hS0, hE0⟩
  obtain ⟨w3, hw3⟩ : ∃ w3, w2.alloc (.cells #[.slice (some ⟨b1, o1, none⟩) N c1, .slice A2 N c2] 50) = w3 := ⟨_, rfl⟩
  obtain ⟨g10, hg10⟩ : ∃ g10, w2.heap.size = g10 := ⟨_, rfl⟩
  have HNE : Hid (g10 ≠ w.heap.size) := by show _ ≠ _; have := HB42.out.lt; omega
  rw [hw3] at hAl hBk H1 hC0 hE0
  rw [hg10] at hBk ⊢
  have HC0 := Lib.hid hC0
  have HST0 : Hid ((r0.p.st, r0.S) = playS N f (l.take 0)) := by show _ = _; rw [hst0, hS0, List.take_zero]; rfl
  have HE0 := Lib.hid hE0
  have HAL := Lib.hid hAl
  have HB10 := Lib.hid hBk
  clear hC0 hst0 hS0 hE0 HBG hw3 hg10 hAl hBk
  go_wp2_with fail
  go_loopg [13] l.length (fun gg iv wr => SaRel w3 g N f l w3.heap.size gg iv wr)
  case atStart => exact ⟨0, r0, Nat.zero_le _, rfl, rfl, HC0.out, HST0.out, HE0.out⟩
  case round =>
    obtain ⟨j, r, hj, rfl, rfl, hC, hst, hE⟩ := hrel
    by_cases hlt : j < l.length
    · have hws := WS.play N f (by omega) l j hj
      have HNX := Lib.hid (playS_take N f l j hlt)
      rw [← hst] at hws HNX
      obtain ⟨b, off, rfl, q0, q1, q2⟩ := Av.at_ (HS.out.ext (Ext.trans (Ext.trans hE2 HAL.out) hE)) hlt
      obtain ⟨a, ha⟩ : ∃ a, l[j] = a := ⟨_, rfl⟩
      rw [ha] at q0 q1 q2 HNX
      clear ha
      have hj200 : j ≤ 200 := by omega
      have HACT := Lib.hid (act_any wr w3.heap.size g N j f r hC hws hj200 (by omega) hE.size a)
      have HE := Lib.hid hE
      clear hC hE hws hst
      have hj0 : (0 : Int) ≤ (j : Int) := by omega
      have hj1 : (j : Int) < (l.length : Int) := by omega
      go_wp2_with fail
      refine HACT.out.mono ?_
      rintro e w5 ⟨rfl, r', hC', hst', hS', hL'⟩
      have HC' := Lib.hid hC'
      have HST' : Hid ((r'.p.st, r'.S) = playS N f (l.take (j + 1))) := by show _ = _; rw [hst', hS', HNX.out]; rfl
      have HL' := Lib.hid hL'
      clear hC' hst' hS' hL' HACT
      go_wp2_with fail
      go_roundg (l.length - (j + 1))
      case measure => omega
      case rel => exact ⟨j + 1, r', by omega, by go_num, rfl, HC'.out, HST'.out, Below.trans HE.out HL'.out⟩
    · obtain rfl : j = l.length := by omega
      rw [List.take_of_length_le (Nat.le_refl _)] at hst
      have HSTL := Lib.hid hst
      have HC := Lib.hid hC
      have HE := Lib.hid hE
      have hst1 : r.p.st = (playS N f l).1 := by rw [← hst]
      have hstS : r.S = (playS N f l).2 := by rw [← hst]
      have HST1 : Hid (r.p.st = (playS N f l).1 ∧ r.S = (playS N f l).2) := ⟨hst1, hstS⟩
      obtain ⟨z0, z1⟩ := (blk2 (Blk.ext HB10.out hE)).1
      have eN : ((N : Int) == (N : Int)) = true := by simp
      clear hC hst hE hst1 hstS HC0 HST0 HE0
      go_wp2_with fail
      go_loopg [14, 15] N (fun gg ok pv wx => SpRel wr N gg ok pv wx)
      case atStart => exact ⟨0, Nat.zero_le _, rfl, rfl, rfl, Ext.refl wr⟩
      case round =>
        obtain ⟨p, hp, rfl, rfl, rfl, hEp⟩ := hrel
        rename World => wp
        by_cases hpl : p < N
        · have hpR : p < R.length := by rw [HLL.out.1]; exact hpl
          have hH1 := H1.out.ext (Ext.trans HE.out hEp)
          obtain ⟨b1', o1', hA1', q1⟩ := hH1.at_ hpR
          injection hA1' with hA1'
          injection hA1' with hx1 hx2
          subst hx1 hx2
          have hr1 := (hH1.row hpR).1
          obtain ⟨se, hse⟩ : ∃ se, r.p.t.R[p]? = some se := ⟨_, List.getElem?_eq_getElem (by rw [HC.out.t.ne]; exact hpl)⟩
          have hevp : (playS N f l).1.ev.getD p [] = R[p].l := by rw [← H34.out.1]; simp [List.getD_eq_getElem?_getD, hpR]
          have hsel : se.l = R[p].l := by
            rw [← hevp, ← HST1.out.1]
            simp [Cp.st, List.getD_eq_getElem?_getD, hse]
          have hcE := (HC.out.ext hEp).t.cellE hse
          have hc2 := (HC.out.ext hEp).cells.2.2.1
          rw [hsel] at hcE
          have hw1 := HREP.out.w1 p
          rw [hevp] at hw1
          have hel : R[p].l.length ≤ 64 := HWF.out.el _ (by rw [← hevp]; exact getD_mem _ _ _ (by rw [HREP.out.ev]; exact hpl))
          obtain ⟨xa, hxa⟩ : ∃ xa, R[p].A = xa := ⟨_, rfl⟩
          obtain ⟨xc, hxc⟩ : ∃ xc, R[p].c = xc := ⟨_, rfl⟩
          obtain ⟨xl, hxl⟩ : ∃ xl, R[p].l = xl := ⟨_, rfl⟩
          rw [hxa, hxl, hxc] at q1
          rw [hxa, hxl] at hr1
          rw [hxl] at hcE hw1 hel
          clear hxa hxl hxc hevp hsel
          obtain ⟨sa, hsa⟩ : ∃ sa, se.A = sa := ⟨_, rfl⟩
          obtain ⟨sc, hsc⟩ : ∃ sc, se.c = sc := ⟨_, rfl⟩
          rw [hsa, hsc] at hcE
          clear hsa hsc hse
          have HR1 := Lib.hid hr1
          have HW1 := Lib.hid hw1
          have HEP := Lib.hid hEp
          have hq1 := World.block_lt_of_cell? wp _ q1
          obtain ⟨z2, z3⟩ := (blk2 (Blk.ext HB10.out (Ext.trans HE.out hEp))).1
          have hp0 : (0 : Int) ≤ (p : Int) := by omega
          have hp1 : (p : Int) < (N : Int) := by omega
          have eL : ((xl.length : Int) == (xl.length : Int)) = true := by simp
          clear hr1 hw1 hEp hH1
          go_upto_region 12 with fail
          go_quiet (fail)
          go_upto_region 13 with fail
          obtain ⟨wq, hwq⟩ : ∃ wq, wp.drewN nq = wq := ⟨_, rfl⟩
          have HEQ : Hid (Ext wp wq) := by show Ext _ _; rw [← hwq]; exact (Ext.refl wp).drewN nq
          rw [hwq]
          have HQ1 : Hid (∀ W', Ext wq W' → W'.cell? ⟨b1, o1 + p, none⟩ = some (.slice xa xl.length xc)) := fun W' hW => by
            have hx := Ext.trans HEQ.out hW
            exact (hx.cell (p := ⟨b1, o1 + p, none⟩) hq1).trans q1
          clear hwq q1 hq1 hcE hc2 z2 z3
          go_wp2_with fail
          go_loopg [14, 16] xl.length (fun gg ok kv wx => SkRel wq xl.length gg ok kv wx)
          case atStart => exact ⟨0, Nat.zero_le _, rfl, rfl, rfl, Ext.refl wq⟩
          case round =>
            obtain ⟨k, hk, rfl, rfl, rfl, hEk⟩ := hrel
            rename World => wk
            have q1 := HQ1.out _ hEk
            have hEPK := Ext.trans HEP.out (Ext.trans HEQ.out hEk)
            obtain ⟨z2, z3⟩ := (blk2 (Blk.ext HB10.out (Ext.trans HE.out hEPK))).1
            by_cases hkl : k < xl.length
            · obtain ⟨tb, toff, htA, e0, e1, e2, e3, e4, e5, e6⟩ := Ev.at_ (HR1.out.ext (Ext.trans HEQ.out hEk)) hkl
              obtain ⟨hkind, gf, tt, hfrm, hsid, hgN, hgp, htl⟩ := HW1.out xl[k] (List.getElem_mem hkl)
              rw [hkind] at e0
              rw [hfrm] at e2
              rw [hsid] at e4
              have hgR : gf < R.length := by rw [HLL.out.1]; exact hgN
              obtain ⟨b3, o3, hA3, q3⟩ := (H1.out.ext (Ext.trans HE.out hEPK)).at_ hgR
              injection hA3 with hA3
              injection hA3 with hx1 hx2
              subst hx1 hx2
              have hevg : (playS N f l).1.ev.getD gf [] = R[gf].l := by rw [← H34.out.1]; simp [List.getD_eq_getElem?_getD, hgR]
              rw [hevg] at htl
              obtain ⟨ya, hya⟩ : ∃ ya, R[gf].A = ya := ⟨_, rfl⟩
              obtain ⟨yc, hyc⟩ : ∃ yc, R[gf].c = yc := ⟨_, rfl⟩
              obtain ⟨yn, hyn⟩ : ∃ yn, R[gf].l.length = yn := ⟨_, rfl⟩
              rw [hya, hyc, hyn] at q3
              rw [hyn] at htl
              generalize xl[k].inc = x1 at e1
              generalize xl[k].sinc = x3 at e3
              generalize xl[k].ord = x5 at e5
              generalize xl[k].val = x6 at e6
              clear hya hyc hyn hevg hkind hfrm hsid
              subst htA
              have hk0 : (0 : Int) ≤ (k : Int) := by omega
              have hk1 : (k : Int) < (xl.length : Int) := by omega
              have hg0 : (0 : Int) ≤ (gf : Int) := by omega
              have hg1 : (gf : Int) < (N : Int) := by omega
              have hgne : ((gf : Int) != (p : Int)) = true := by
                have : (gf : Int) ≠ (p : Int) := by omega
                simpa using this
              have ht0 : (0 : Int) ≤ (tt : Int) := by omega
              have ht1 : (tt : Int) ≤ (yn : Int) := by omega
              have dg0 : decide ((0 : Int) ≤ (gf : Int)) = true := decide_eq_true hg0
              have dg1 : decide ((gf : Int) < (N : Int)) = true := decide_eq_true hg1
              have dt0 : decide ((0 : Int) ≤ (tt : Int)) = true := decide_eq_true ht0
              have dt1 : decide ((tt : Int) ≤ (yn : Int)) = true := decide_eq_true ht1
              have hX5 : Ext wk (wk.alloc (.cells #[.int .i64 1, .int .i64 x1, .int .i64 gf, .int .i64 x3, .int .i64 tt, .int .i64 x5, .int .i64 x6] 30)) := (Ext.refl wk).allocs _
              have hBE : Blk (wk.alloc (.cells #[.int .i64 1, .int .i64 x1, .int .i64 gf, .int .i64 x3, .int .i64 tt, .int .i64 x5, .int .i64 x6] 30)) wk.heap.size 30 #[.int .i64 1, .int .i64 x1, .int .i64 gf, .int .i64 x3, .int .i64 tt, .int .i64 x5, .int .i64 x6] := Blk.new wk _ _
              obtain ⟨⟨f0, f1, f2, f3, f4, f5, f6⟩, -⟩ := blk7 hBE
              have q3' := (hX5.cell (p := ⟨b1, o1 + gf, none⟩) (World.block_lt_of_cell? wk _ q3)).trans q3
              obtain ⟨z4, z5⟩ := (blk2 (Blk.ext HB10.out (Ext.trans HE.out (Ext.trans hEPK hX5)))).1
              have HEK := Lib.hid (Ext.trans hEk hX5)
              clear hEk hEPK hBE hX5
              go_upto_region 17 with fail
              go_quiet (fail)
              go_wp2_with fail
              go_roundg (xl.length - (k + 1))
              case measure => omega
              case rel => exact ⟨k + 1, by omega, by go_num, rfl, rfl, HEK.out.drewN nq⟩
            · have hk1 : ¬ (k : Int) < (xl.length : Int) := by omega
              have HEPK := Lib.hid hEPK
              clear hEk hEPK
              go_wp2_with fail
              go_roundg (N - (p + 1))
              case measure => omega
              case rel => exact ⟨p + 1, by omega, by go_num, rfl, rfl, HEPK.out⟩
        · obtain rfl : p = N := by omega
          have hp1 : ¬ (p : Int) < (p : Int) := by omega
          have HCP := Lib.hid (HC.out.ext hEp)
          have HEP := Lib.hid (Ext.trans HE.out hEp)
          clear hEp z0 z1
          go_upto_region 18 with fail
          have HS18 : Hid (∀ W', Ext wp W' → (fun W' => W'.cell? ⟨g10, 0, none⟩ = some (.slice (some ⟨b1, o1, none⟩) p c1) ∧ W'.cell? ⟨g10, 1, none⟩ = some (.slice A2 p c2) ∧ W'.cell? ⟨g, 4, none⟩ = some (.slice r.SA r.S.length r.Sc)) W') := fun W' hW => by
            have hz := (blk2 (Blk.ext HB10.out (Ext.trans HEP.out hW))).1
            exact ⟨hz.1, hz.2, (HCP.out.ext hW).cells.2.2.2.2.1⟩
          refine wp_region_sched (by kernel_rfl) 12 [(0, true), (1, true), (2, true), (3, true), (4, true), (5, true), (6, true), (7, true), (8, true), (9, true), (10, false), (11, true), (12, false)] (fun W' => W'.cell? ⟨g10, 0, none⟩ = some (.slice (some ⟨b1, o1, none⟩) p c1) ∧ W'.cell? ⟨g10, 1, none⟩ = some (.slice A2 p c2) ∧ W'.cell? ⟨g, 4, none⟩ = some (.slice r.SA r.S.length r.Sc)) (by kernel_rfl) (fun _ _ dd _ _ h => by cases dd <;> exact h) (HS18.out _ (Below.drew (Ext.refl wp))) (fun hHeld => ?_)
          iterate 10 ((refine sched_read (v := ?_) rfl (Or.inl ⟨by rfl, ?_⟩) hHeld ?_; rotate_left 1; · (intro w' hSw; obtain ⟨t0, t1, t2⟩ := hSw; go_simp; (first | done | with_reducible rfl))); (try simp only [Act.put, List.setIfInBounds_toArray, List.set_cons_zero, List.set_cons_succ]))
          have hEd : Ext wp wp.drew := Below.drew (Ext.refl wp)
          have hX2 := Ext.trans HAL.out (Ext.trans HEP.out hEd)
          have hCd := HCP.out.ext hEd
          have hB10 := Blk.ext HB10.out (Ext.trans HEP.out hEd)
          generalize wp.drew = wd at hHeld hX2 hCd hB10 ⊢
          clear hEd HS18
          have hB4 := Blk.ext HB42.out hX2
          obtain ⟨⟨x0, x1⟩, y0, y1⟩ := blk2 hB4
          obtain ⟨hp1, hp2⟩ := Blk.put2s hB4 (.slice (some ⟨b1, o1, none⟩) p c1) (.slice A2 p c2)
          have hsp := HTY.out _ _ _ HB42.out (grownBy_trans (grownBy_ext hX2) hp2)
          have hB10' := (hp2.block g10 hB10.lt (fun e => by injection e with e; exact HNE.out e)).trans hB10
          have hSu := own_typed hCd.s hp2 (TyRow.blk hB4 (by decide))
          have hRb := (blk_typed hCd.b hp2 (TyRow.blk hB4 (by decide))).cell 4
          have hS18 : (fun W' => W'.cell? ⟨g10, 0, none⟩ = some (.slice (some ⟨b1, o1, none⟩) p c1) ∧ W'.cell? ⟨g10, 1, none⟩ = some (.slice A2 p c2) ∧ W'.cell? ⟨g, 4, none⟩ = some (.slice r.SA r.S.length r.Sc)) ((wd.setCell ⟨w.heap.size, 0, none⟩ (.slice (some ⟨b1, o1, none⟩) p c1)).setCell ⟨w.heap.size, 1, none⟩ (.slice A2 p c2)) := ⟨(blk2 hB10').1.1, (blk2 hB10').1.2, hRb.trans rfl⟩
          have hEf : Ext w ((wd.setCell ⟨w.heap.size, 0, none⟩ (.slice (some ⟨b1, o1, none⟩) p c1)).setCell ⟨w.heap.size, 1, none⟩ (.slice A2 p c2)) := ((Ext.trans HE2.out hX2).set (o := 0) (Nat.le_refl w.heap.size) _).set (o := 1) (Nat.le_refl w.heap.size) _
          have HEF := Lib.hid hEf
          have HSP := Lib.hid hsp
          have HPUT := Lib.hid hp1
          have HSU := Lib.hid hSu
          have HS2 := Lib.hid hS18
          clear hp1 hp2 hsp hB10 hB10' hSu hRb hS18 hEf hHeld hCd hX2 hB4
          refine sched_eff rfl (fun K hK => ?_)
          go_simp
          refine hK.out _ ((wd.setCell ⟨w.heap.size, 0, none⟩ (.slice (some ⟨b1, o1, none⟩) p c1)).setCell ⟨w.heap.size, 1, none⟩ (.slice A2 p c2)) HS2.out (fun hHeld => ?_)
          clear hK K x0 x1 y0 y1
          (try simp only [Act.put, List.setIfInBounds_toArray, List.set_cons_zero, List.set_cons_succ])
          iterate 1 ((refine sched_read (v := ?_) rfl (Or.inl ⟨by rfl, ?_⟩) hHeld ?_; rotate_left 1; · (intro w' hSw; obtain ⟨t0, t1, t2⟩ := hSw; go_simp; (first | done | with_reducible rfl))); (try simp only [Act.put, List.setIfInBounds_toArray, List.set_cons_zero, List.set_cons_succ]))
          refine sched_tail rfl (by decide) (fun K hK => ?_)
          go_simp
          refine hK.out _ _ ?_
          clear hK K
          (try simp only [Act.put, List.setIfInBounds_toArray, List.set_cons_zero, List.set_cons_succ])
          refine sched_done ?_
          clear hHeld HS2
          go_wp2_with fail
          (try simp only [Exit.inBlock, Exit.then])
          refine bodyPost_ret (res_sc HPUT.out rfl rfl rfl rfl rfl) rfl ?_
          obtain ⟨A1', A2', c1', c2', R', K', hv, s1, s2, s3, s4⟩ := HSP.out
          injection hv with hv
          have hv0 := congrArg (fun a => a[0]?) hv
          have hv1 := congrArg (fun a => a[1]?) hv
          simp only [List.getElem?_toArray, List.getElem?_cons_zero, List.getElem?_cons_succ, Option.some.injEq, Value.slice.injEq] at hv0 hv1
          obtain ⟨ha1, ha2, ha3⟩ := hv0
          obtain ⟨hc1, hc2, hc3⟩ := hv1
          subst ha1 ha3 hc1 hc3
          refine ⟨p, f, l, r.SA, r.Sc, _, _, _, _, R', K', by rw [← HST1.out.2]; rfl, hN1, hN2, hf, hl, s1, s2, ?_, ?_, ?_, HEF.out⟩
          · rw [HFST.out]; exact s3
          · rw [HFST.out]; exact s4
          · rw [← HST1.out.2]; exact Seg.of_own HSU.out
end Go.Proofs.Ytfnnoncdocghjaa
