/- The law KnowledgeBelieves walked. No statement of the seat is proved here. -/
import Derived.Test.YtfnnoncdocghjaaScene28
import Derived.Test.YtfnnoncdocghjaaKnows
namespace Go.Proofs.Ytfnnoncdocghjaa
open Go.RowKit
set_option linter.unusedVariables false
set_option maxRecDepth 100000

theorem shr_val {h : Int} (hk : okH h) (i : Nat) : bits .and .u32 (h / 2 ^ i) 1 = ((h.toNat / 2 ^ i % 2 : Nat) : Int) := by
  obtain ⟨h0, h1⟩ := hk
  have hle : h.toNat / 2 ^ i ≤ h.toNat := Nat.div_le_self _ _
  have e : h / 2 ^ i = ((h.toNat / 2 ^ i : Nat) : Int) := by
    rw [Int.natCast_ediv, Int.natCast_pow, show ((h.toNat : Nat) : Int) = h by omega]
    rfl
  rw [e]
  obtain ⟨dq, hdq⟩ : ∃ dq, h.toNat / 2 ^ i = dq := ⟨_, rfl⟩
  rw [hdq] at hle ⊢
  have h2 := bits_mask .u32 32 (by decide) wraps_u32' 1 (by decide) (dq : Int) (by omega) (by omega)
  rw [show ((2 : Int) ^ 1 - 1) = 1 by decide, show ((2 : Int) ^ 1) = 2 by decide] at h2
  rw [h2]
  omega
theorem shr_one {h : Int} (hk : okH h) (i : Nat) : (bits .and .u32 (h / 2 ^ i) 1 == 1) = h.toNat.testBit i := by
  rw [shr_val hk, Nat.testBit_eq_decide_div_mod_eq]
  have : h.toNat / 2 ^ i % 2 = 0 ∨ h.toNat / 2 ^ i % 2 = 1 := by omega
  rcases this with e | e <;> rw [e] <;> rfl
theorem shr_zero {h : Int} (hk : okH h) (i : Nat) : (bits .and .u32 (h / 2 ^ i) 1 == 0) = !h.toNat.testBit i := by
  rw [shr_val hk, Nat.testBit_eq_decide_div_mod_eq]
  have : h.toNat / 2 ^ i % 2 = 0 ∨ h.toNat / 2 ^ i % 2 = 1 := by omega
  rcases this with e | e <;> rw [e] <;> rfl
theorem shr_none {h : Int} (hk : okH h) {n : Nat} (hb : ∀ i, n ≤ i → h.toNat.testBit i = false) : (h / 2 ^ n != 0) = false := by
  have hlt : h.toNat < 2 ^ n := Nat.lt_pow_two_of_testBit _ hb
  have e : h / 2 ^ n = ((h.toNat / 2 ^ n : Nat) : Int) := by
    rw [Int.natCast_ediv, Int.natCast_pow, show ((h.toNat : Nat) : Int) = h by have := hk.1; omega]
    rfl
  rw [e, Nat.div_eq_of_lt hlt]
  rfl
def LpRel (w1 : World) (m : Nat) (gg : Nat) (v : Value) (wr : World) : Prop := ∃ j : Nat, j ≤ m ∧ v = .int .i64 j ∧ gg = m - j ∧ Ext w1 wr
set_option maxHeartbeats 6400000 in
theorem believes_walk (a0 : Option Addr) (cap0 : Nat) (bs : List Int) (w : World)
    (w0 : Seg w 1 a0 bs.length (bs.map (Value.int .u8)) ∧ bs.length ≤ cap0 ∧ cap0 ≤ maxLen ∧ ∀ b ∈ bs, 0 ≤ b ∧ b < 256) :
    Calls Try.prog 6 #[.slice a0 bs.length cap0] w fun e w' => e = .returned (.bool true) ∧ Below w.heap.size w w' := by
  have W0 := Lib.hid w0
  clear w0
  go_enter Try.func6, Try.ntmps6
  go_wp2_with fail
  refine (awake_any _).mono ?_
  rintro e wA ⟨rfl, hEA⟩
  have HEA := Lib.hid hEA
  clear hEA
  go_wp2_with fail
  refine (scene_any a0 cap0 bs wA (W0.out.1.ext HEA.out) W0.out.2.1 W0.out.2.2.1 W0.out.2.2.2).mono ?_
  rintro e wB ⟨N, f, l, SA, Sc, A1, A2, c1, c2, R, K, rfl, hN1, hN2, hf, hl, h1, h2, h3, h4, hs, hEB⟩
  have hrep := Rep.play N f (by omega) l
  have hws := WS.play N f (by omega) l l.length (Nat.le_refl _)
  rw [List.take_length] at hws
  obtain ⟨st, hst⟩ : ∃ st, (playS N f l).1 = st := ⟨_, rfl⟩
  obtain ⟨S, hS⟩ : ∃ S, (playS N f l).2 = S := ⟨_, rfl⟩
  rw [hst] at hrep hws h3 h4
  rw [hS] at hrep hws hs ⊢
  have hRl : R.length = N := by have := congrArg List.length h3; rw [List.length_map, hrep.ev] at this; exact this
  have hKl : K.length = N := by have := congrArg List.length h4; rw [List.length_map, hrep.bel.kn] at this; exact this
  have hKd : ∀ q (hq : q < K.length), st.kn.getD q [] = K[q].l := fun q hq => by rw [← h4]; simp [List.getD_eq_getElem?_getD, hq]
  have hRd : ∀ q (hq : q < R.length), st.ev.getD q [] = R[q].l := fun q hq => by rw [← h3]; simp [List.getD_eq_getElem?_getD, hq]
  have hkb : ∀ q (hq : q < K.length), K[q].l.length ≤ 200 := fun q hq => by
    obtain ⟨G, g1, g2, -⟩ := hws.g
    have := (g2 K[q].l (by rw [← hKd q hq]; exact getD_mem _ _ _ (by rw [hrep.bel.kn]; omega))).len
    omega
  have heb : ∀ q (hq : q < R.length), R[q].l.length ≤ 64 := fun q hq => hws.el _ (by rw [← hRd q hq]; exact getD_mem _ _ _ (by rw [hrep.ev]; omega))
  have hsb : S.length ≤ 200 := by have := hws.sl; omega
  have hK0 : 0 < K.length := by omega
  have hR0 : 0 < R.length := by omega
  obtain ⟨b2, o2, hA2, -⟩ := h2.at_ hK0
  obtain ⟨b1, o1, hA1, -⟩ := h1.at_ hR0
  subst hA1 hA2
  have HREP := Lib.hid hrep
  have HKD := Lib.hid hKd
  have HRD := Lib.hid hRd
  have HKB := Lib.hid hkb
  have HEBD := Lib.hid heb
  have HLL : Hid (R.length = N ∧ K.length = N) := ⟨hRl, hKl⟩
  have hAl : Ext wB (wB.alloc (.cells #[.slice (some ⟨b1, o1, none⟩) N c1, .slice (some ⟨b2, o2, none⟩) N c2] 50)) := (Ext.refl wB).allocs _
  have hBk : Blk (wB.alloc (.cells #[.slice (some ⟨b1, o1, none⟩) N c1, .slice (some ⟨b2, o2, none⟩) N c2] 50)) wB.heap.size 50 #[.slice (some ⟨b1, o1, none⟩) N c1, .slice (some ⟨b2, o2, none⟩) N c2] := Blk.new wB _ _
  have H1 := Lib.hid (h1.ext hAl)
  have H2 := Lib.hid (h2.ext hAl)
  have HS := Lib.hid (hs.ext hAl)
  have HE0 : Hid (Ext w (wB.alloc (.cells #[.slice (some ⟨b1, o1, none⟩) N c1, .slice (some ⟨b2, o2, none⟩) N c2] 50))) := Ext.trans HEA.out (Ext.trans hEB hAl)
  clear h1 h2 h3 h4 hs hEB hrep hws hKd hRd hkb heb hRl hKl hK0 hR0 hst hS hAl HEA
  go_upto_if 23 with fail
  obtain ⟨wC, hwC⟩ : ∃ wC, wB.alloc (.cells #[.slice (some ⟨b1, o1, none⟩) N c1, .slice (some ⟨b2, o2, none⟩) N c2] 50) = wC := ⟨_, rfl⟩
  obtain ⟨g5, hg5⟩ : ∃ g5, wB.heap.size = g5 := ⟨_, rfl⟩
  rw [hwC] at hBk H1 H2 HS HE0 ⊢
  rw [hg5] at hBk ⊢
  have HB5 := Lib.hid hBk
  clear hBk hwC hg5
  have HZ : Hid (∀ W', Ext wC W' → W'.cell? ⟨g5, 0, none⟩ = some (.slice (some ⟨b1, o1, none⟩) N c1) ∧ W'.cell? ⟨g5, 1, none⟩ = some (.slice (some ⟨b2, o2, none⟩) N c2)) := fun W' hW => (blk2 (Blk.ext HB5.out hW)).1
  have HK2 : Hid (∀ q (hq : q < K.length) W', Ext wC W' → W'.cell? ⟨b2, o2 + q, none⟩ = some (.slice K[q].A K[q].l.length K[q].c)) := fun q hq W' hW => by
    obtain ⟨b, o, hA, hc⟩ := (H2.out.ext hW).at_ hq
    injection hA with hA
    injection hA with e1 e2
    subst e1 e2
    exact hc
  have HR2 : Hid (∀ q (hq : q < R.length) W', Ext wC W' → W'.cell? ⟨b1, o1 + q, none⟩ = some (.slice R[q].A R[q].l.length R[q].c)) := fun q hq W' hW => by
    obtain ⟨b, o, hA, hc⟩ := (H1.out.ext hW).at_ hq
    injection hA with hA
    injection hA with e1 e2
    subst e1 e2
    exact hc
  have HKN : Hid (∀ q, q < N → ∀ (d : Dt) W', Ext wC W' → ∃ bb : Bool, Calls Try.prog 28 #[.agg #[.slice (some ⟨b1, o1, none⟩) N c1, .slice (some ⟨b2, o2, none⟩) N c2], .int .i64 q, d.val] W' (ExtPost W' (.bool bb)) ∧ (bb = true ↔ Kw st q d)) := fun q hq d W' hW => by
    have hqK : q < K.length := by rw [HLL.out.2]; exact hq
    refine ⟨_, knows_any _ _ c1 c2 N K q K[q].l d W' (H2.out.ext hW) hqK HLL.out.2 rfl (by have := HKB.out q hqK; omega), ?_⟩
    rw [hasB_iff, List.mem_map]
    unfold Kw
    rw [HKD.out q hqK]
  have HHS : Hid (∀ (d : Dt) W', Ext wC W' → ∃ bb : Bool, Calls Try.prog 29 #[.slice SA S.length Sc, d.val] W' (ExtPost W' (.bool bb)) ∧ (bb = true ↔ d ∈ S)) := fun d W' hW => ⟨_, has_ref SA Sc S d W' (HS.out.ext hW) (by omega), hasB_iff S d⟩
  go_wp2_with fail
  go_loopg [8] N (fun gg v wr => LpRel wC N gg v wr)
  case atStart => exact ⟨0, Nat.zero_le _, rfl, rfl, Ext.refl wC⟩
  case round =>
    obtain ⟨p, hp, rfl, rfl, hEp⟩ := hrel
    rename World => wp
    by_cases hpl : p < N
    · have hpK : p < K.length := by rw [HLL.out.2]; exact hpl
      have hkl := HKB.out p hpK
      have HKP : Hid (∀ k ∈ K[p].l, k ∈ st.kn.getD p []) := fun k hk => by rw [HKD.out p hpK]; exact hk
      have HRW := Lib.hid (((H2.out.ext hEp).row hpK).1)
      have HC2 := Lib.hid (HK2.out p hpK)
      obtain ⟨ka, hka⟩ : ∃ ka, K[p].A = ka := ⟨_, rfl⟩
      obtain ⟨kc, hkc⟩ : ∃ kc, K[p].c = kc := ⟨_, rfl⟩
      obtain ⟨kl, hkll⟩ : ∃ kl, K[p].l = kl := ⟨_, rfl⟩
      rw [hka, hkll] at HRW
      rw [hka, hkll, hkc] at HC2
      rw [hkll] at HKP hkl
      clear hka hkc hkll
      have HEP := Lib.hid hEp
      have hp0 : (0 : Int) ≤ (p : Int) := by omega
      have hp1 : (p : Int) < (N : Int) := by omega
      clear hEp
      go_wp2_with fail
      go_loopg [9] kl.length (fun gg v wr => LpRel wp kl.length gg v wr)
      case atStart => exact ⟨0, Nat.zero_le _, rfl, rfl, Ext.refl wp⟩
      case round =>
        obtain ⟨i, hi, rfl, rfl, hEi⟩ := hrel
        rename World => wi
        have hEpi := Ext.trans HEP.out hEi
        obtain ⟨z0, z1⟩ := HZ.out wi hEpi
        have z2 := HC2.out wi hEpi
        by_cases hil : i < kl.length
        · obtain ⟨tb, toff, htA, e0, e1, e2, e3, e4, e5, e6, e7, e8, e9⟩ := Kn.at_ (HRW.out.ext hEi) hil
          have hkm := HKP.out _ (List.getElem_mem hil)
          obtain ⟨k, hk⟩ : ∃ k, kl[i] = k := ⟨_, rfl⟩
          rw [hk] at e0 e1 e2 e3 e4 e5 e6 e7 e8 e9 hkm
          clear hk
          subst htA
          have hok := HREP.out.bel.ok p k hkm
          have x1 : (bits .and .u32 (k.h / 2 ^ p) 1 == 0) = false := by rw [shr_zero hok]; have := HREP.out.bel.own p k hkm; unfold bitH at this; rw [this]; rfl
          have x2 : (k.h / 2 ^ N != 0) = false := shr_none hok fun j hj => by
            cases hb : k.h.toNat.testBit j with
            | false => rfl
            | true => have := (HREP.out.bel.held p k hkm j hb).1; omega
          have HKM := Lib.hid hkm
          have HOK := Lib.hid hok
          have hX5 : Ext wi (wi.alloc (.cells k.cells.toArray 34)) := (Ext.refl wi).allocs _
          have hBE : Blk (wi.alloc (.cells k.cells.toArray 34)) wi.heap.size 34 k.cells.toArray := Blk.new wi _ _
          have hi0 : (0 : Int) ≤ (i : Int) := by omega
          have hi1 : (i : Int) < (kl.length : Int) := by omega
          obtain ⟨f0, f1, f2, f3, f4, f5, f6, f7, f8, f9⟩ := blk10 hBE
          clear hkm hok hEpi
          go_upto_region 15 with fail
          obtain ⟨wj, hwj⟩ : ∃ wj, wi.alloc (.cells k.cells.toArray 34) = wj := ⟨_, rfl⟩
          obtain ⟨g10, hg10⟩ : ∃ g10, wi.heap.size = g10 := ⟨_, rfl⟩
          have hwj' := hwj
          unfold Kn.cells at hwj'
          rw [hwj] at hX5 hBE
          try rw [hwj']
          try rw [hwj]
          rw [hg10] at hBE ⊢
          have HB10 := Lib.hid hBE
          have HEJ := Lib.hid (Ext.trans hEi hX5)
          clear hwj hwj' hg10 hX5 hBE hEi e0 e1 e2 e3 e4 e5 e6 e7 e8 e9 f0 f1 f2 f3 f4 f5 f6 f7 f8 f9 z0 z1 z2 x1 x2
          go_wp2_with fail
          go_loopg [11] N (fun gg v wr => LpRel wj N gg v wr)
          case atStart => exact ⟨0, Nat.zero_le _, rfl, rfl, Ext.refl wj⟩
          case round =>
            obtain ⟨q, hq, rfl, rfl, hEq⟩ := hrel
            rename World => wq
            have hX := Ext.trans HEP.out (Ext.trans HEJ.out hEq)
            by_cases hql : q < N
            · have hq0 : (0 : Int) ≤ (q : Int) := by omega
              have hq1 : (q : Int) < (N : Int) := by omega
              have hbit := shr_one HOK.out q
              obtain ⟨f0, f1, f2, f3, f4, f5, f6, f7, f8, f9⟩ := blk10 (Blk.ext HB10.out hEq)
              obtain ⟨z0, z1⟩ := HZ.out wq hX
              cases hb : k.h.toNat.testBit q with
              | false =>
                rw [hb] at hbit
                have HEQ := Lib.hid hEq
                clear hEq hX hb
                go_wp2_with fail
                go_roundg (N - (q + 1))
                case measure => omega
                case rel => exact ⟨q + 1, by omega, by go_num, rfl, HEQ.out⟩
              | true =>
                rw [hb] at hbit
                have HH := Lib.hid (HREP.out.bel.held p k HKM.out q hb)
                obtain ⟨bb, hkn, hbb⟩ := HKN.out q hql k.d wq hX
                have HKC := Lib.hid hkn
                have HBB := Lib.hid hbb
                have HEQ := Lib.hid hEq
                have HX := Lib.hid hX
                clear hEq hX hb hkn hbb
                go_wp2_with fail
                refine HKC.out.mono ?_
                rintro e wk ⟨rfl, hEk⟩
                have HEK := Lib.hid hEk
                clear hEk f0 f1 f2 f3 f4 f5 f6 f7 f8 f9 z0 z1
                obtain ⟨f0, f1, f2, f3, f4, f5, f6, f7, f8, f9⟩ := blk10 (Blk.ext HB10.out (Ext.trans HEQ.out HEK.out))
                cases bb with
                | true =>
                  go_wp2_with fail
                  go_roundg (N - (q + 1))
                  case measure => omega
                  case rel => exact ⟨q + 1, by omega, by go_num, rfl, Ext.trans HEQ.out HEK.out⟩
                | false =>
                  have hin : k.d ∈ S := HH.out.2.resolve_left fun hk => by have := HBB.out.2 hk; cases this
                  obtain ⟨b9, hh, hbh⟩ := HHS.out k.d wk (Ext.trans HX.out HEK.out)
                  obtain rfl : b9 = true := hbh.2 hin
                  have HHC := Lib.hid hh
                  clear hh hbh hin
                  go_wp2_with fail
                  refine HHC.out.mono ?_
                  rintro e wm ⟨rfl, hEm⟩
                  have HEM := Lib.hid hEm
                  clear hEm f0 f1 f2 f3 f4 f5 f6 f7 f8 f9
                  go_wp2_with fail
                  go_roundg (N - (q + 1))
                  case measure => omega
                  case rel => exact ⟨q + 1, by omega, by go_num, rfl, Ext.trans HEQ.out (Ext.trans HEK.out HEM.out)⟩
            · have hq1 : ¬ (q : Int) < (N : Int) := by omega
              have HEQ := Lib.hid hEq
              clear hEq hX
              go_wp2_with fail
              go_roundg (kl.length - (i + 1))
              case measure => omega
              case rel => exact ⟨i + 1, by omega, by go_num, rfl, Ext.trans HEJ.out HEQ.out⟩
        · have hi1 : ¬ (i : Int) < (kl.length : Int) := by omega
          have HEI := Lib.hid hEi
          clear hEi hEpi
          go_wp2_with fail
          go_roundg (N - (p + 1))
          case measure => omega
          case rel => exact ⟨p + 1, by omega, by go_num, rfl, Ext.trans HEP.out HEI.out⟩
    · have hp1 : ¬ (p : Int) < (N : Int) := by omega
      have HEP := Lib.hid hEp
      clear hEp
      go_wp2_with fail
      go_ret
      exact ⟨rfl, Ext.trans HE0.out HEP.out⟩
end Go.Proofs.Ytfnnoncdocghjaa
