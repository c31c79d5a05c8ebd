/- The law KnowledgeSurvives walked. No statement of the seat is proved here. -/
import Derived.Test.YtfnnoncdocghjaaReplK
namespace Go.Proofs.Ytfnnoncdocghjaa
open Go.RowKit
set_option linter.unusedVariables false
set_option maxRecDepth 100000

open Go.Sort
theorem shr_i64 (m p : Nat) (hm : m < 1000) : (bits .and .i64 ((m : Int) / 2 ^ p) 1 == 1) = m.testBit p := by
  have hle : m / 2 ^ p ≤ m := Nat.div_le_self _ _
  have e : (m : Int) / 2 ^ p = ((m / 2 ^ p : Nat) : Int) := by
    rw [Int.natCast_ediv, Int.natCast_pow]
    rfl
  rw [e]
  obtain ⟨dq, hdq⟩ : ∃ dq, m / 2 ^ p = dq := ⟨_, rfl⟩
  rw [hdq] at hle ⊢
  have h2 := bits_mask .i64 63 (by decide) (fun n h0 h1 => IntWalk.i64_in _ (by omega)) 1 (by decide) (dq : Int) (by omega) (by omega)
  rw [show ((2 : Int) ^ 1 - 1) = 1 by decide, show ((2 : Int) ^ 1) = 2 by decide] at h2
  rw [h2, Nat.testBit_eq_decide_div_mod_eq, hdq]
  have : dq % 2 = 0 ∨ dq % 2 = 1 := by omega
  rcases this with h | h
  · rw [show (dq : Int) % 2 = 0 by omega, h]; rfl
  · rw [show (dq : Int) % 2 = 1 by omega, h]; rfl
theorem shr_i64z (m p : Nat) (hm : m < 1000) : (bits .and .i64 ((m : Int) / 2 ^ p) 1 == 0) = !m.testBit p := by
  have hle : m / 2 ^ p ≤ m := Nat.div_le_self _ _
  have e : (m : Int) / 2 ^ p = ((m / 2 ^ p : Nat) : Int) := by
    rw [Int.natCast_ediv, Int.natCast_pow]
    rfl
  rw [e]
  obtain ⟨dq, hdq⟩ : ∃ dq, m / 2 ^ p = dq := ⟨_, rfl⟩
  rw [hdq] at hle ⊢
  have h2 := bits_mask .i64 63 (by decide) (fun n h0 h1 => IntWalk.i64_in _ (by omega)) 1 (by decide) (dq : Int) (by omega) (by omega)
  rw [show ((2 : Int) ^ 1 - 1) = 1 by decide, show ((2 : Int) ^ 1) = 2 by decide] at h2
  rw [h2, Nat.testBit_eq_decide_div_mod_eq, hdq]
  have : dq % 2 = 0 ∨ dq % 2 = 1 := by omega
  rcases this with h | h
  · rw [show (dq : Int) % 2 = 0 by omega, h]; rfl
  · rw [show (dq : Int) % 2 = 1 by omega, h]; rfl
/-- found among the first, outside the failed ones -/
def fnd (s : Cm) (S : List Dt) (m : Nat) (d : Dt) (r : Nat) : Bool := hasB S d || (List.range r).any fun q => !m.testBit q && kwB s q d
theorem fnd_succ (s : Cm) (S : List Dt) (m : Nat) (d : Dt) (r : Nat) : fnd s S m d (r + 1) = (fnd s S m d r || (!m.testBit r && kwB s r d)) := by
  unfold fnd
  rw [List.range_succ, List.any_append, Bool.or_assoc]
  simp [List.any]
theorem fnd_zero (s : Cm) (S : List Dt) (m : Nat) (d : Dt) : fnd s S m d 0 = hasB S d := by unfold fnd; simp
theorem surv_law {n f : Nat} {s : Cm} {S : List Dt} (hn : n ≤ 32) {p m : Nat} {d : Dt} (hp : p < n) (hm : cnt (m : Int) ≤ f) (hpm : m.testBit p = false) (h : kwB s p d = true ∨ f < kcnt s d n ∨ hasB S d = true) : fnd s S m d n = true := by
  have hin : ∀ r, r < n → m.testBit r = false → kwB s r d = true → fnd s S m d n = true := fun r hr h1 h2 => by
    unfold fnd
    rw [Bool.or_eq_true]
    right
    rw [List.any_eq_true]
    exact ⟨r, List.mem_range.2 hr, by rw [h1, h2]; rfl⟩
  rcases h with h | h | h
  · exact hin p hp hpm h
  · refine Classical.byContradiction fun hc => ?_
    have hsub : ∀ r ∈ (List.range n).filter (fun q => kwB s q d), r ∈ (List.range 32).filter (fun i => m.testBit i) := fun r hr => by
      obtain ⟨h1, h2⟩ := List.mem_filter.1 hr
      have h3 := List.mem_range.1 h1
      refine List.mem_filter.2 ⟨List.mem_range.2 (by omega), ?_⟩
      cases hb : m.testBit r with
      | true => rfl
      | false => exact absurd (hin r h3 hb h2) hc
    have h4 := nodup_len (List.Nodup.sublist List.filter_sublist List.nodup_range) hsub
    rw [← pop_filter] at h4
    have h5 : cnt (m : Int) = popI 32 m := by rw [cnt_def, Int.toNat_natCast]
    unfold kcnt at h
    omega
  · unfold fnd; rw [h]; rfl
def SfRel (w1 : World) (s : Cm) (S : List Dt) (m : Nat) (d : Dt) (N : Nat) (gg : Nat) (fv v : Value) (wr : World) : Prop := ∃ j : Nat, j ≤ N ∧ v = .int .i64 j ∧ fv = .bool (fnd s S m d j) ∧ gg = N - j ∧ Ext w1 wr
set_option maxHeartbeats 6400000 in
theorem survives_walk (a0 : Option Addr) (cap0 : Nat) (bs : List Int) (w : World)
    (w0 : Seg w 1 a0 bs.length (bs.map (Value.int .u8)) ∧ bs.length ≤ cap0 ∧ cap0 ≤ maxLen ∧ ∀ b ∈ bs, 0 ≤ b ∧ b < 256) :
    Calls Try.prog 8 #[.slice a0 bs.length cap0] w fun e w' => e = .returned (.bool true) ∧ Below w.heap.size w w' := by
  have W0 := Lib.hid w0
  clear w0
  go_enter Try.func8, Try.ntmps8
  go_wp2_with fail
  refine (awake_any _).mono ?_
  rintro e wA ⟨rfl, hEA⟩
  have HEA := Lib.hid hEA
  clear hEA
  go_wp2_with fail
  refine (scene_any a0 cap0 bs wA (W0.out.1.ext HEA.out) W0.out.2.1 W0.out.2.2.1 W0.out.2.2.2).mono ?_
  rintro e wB ⟨N, f, l, SA, Sc, A1, A2, c1, c2, R, K, rfl, hN1, hN2, hf, hl, h1, h2, h3, h4, hs, hEB⟩
  have hrep := Rep.play N f (by omega) l
  have hws := WS.play N f (by omega) l l.length (Nat.le_refl _)
  rw [List.take_length] at hws
  obtain ⟨st, hst⟩ : ∃ st, (playS N f l).1 = st := ⟨_, rfl⟩
  obtain ⟨S, hS⟩ : ∃ S, (playS N f l).2 = S := ⟨_, rfl⟩
  rw [hst] at hrep hws h3 h4
  rw [hS] at hrep hws hs ⊢
  have hRl : R.length = N := by have := congrArg List.length h3; rw [List.length_map, hrep.ev] at this; exact this
  have hKl : K.length = N := by have := congrArg List.length h4; rw [List.length_map, hrep.bel.kn] at this; exact this
  have hKd : ∀ q (hq : q < K.length), st.kn.getD q [] = K[q].l := fun q hq => by rw [← h4]; simp [List.getD_eq_getElem?_getD, hq]
  have hRd : ∀ q (hq : q < R.length), st.ev.getD q [] = R[q].l := fun q hq => by rw [← h3]; simp [List.getD_eq_getElem?_getD, hq]
  have hkb : ∀ q (hq : q < K.length), K[q].l.length ≤ 200 := fun q hq => by
    obtain ⟨G, g1, g2, -⟩ := hws.g
    have := (g2 K[q].l (by rw [← hKd q hq]; exact getD_mem _ _ _ (by rw [hrep.bel.kn]; omega))).len
    omega
  have heb : ∀ q (hq : q < R.length), R[q].l.length ≤ 64 := fun q hq => hws.el _ (by rw [← hRd q hq]; exact getD_mem _ _ _ (by rw [hrep.ev]; omega))
  have hsb : S.length ≤ 200 := by have := hws.sl; omega
  have hK0 : 0 < K.length := by omega
  have hR0 : 0 < R.length := by omega
  obtain ⟨b2, o2, hA2, -⟩ := h2.at_ hK0
  obtain ⟨b1, o1, hA1, -⟩ := h1.at_ hR0
  subst hA1 hA2
  have HREP := Lib.hid hrep
  have HKD := Lib.hid hKd
  have HRD := Lib.hid hRd
  have HKB := Lib.hid hkb
  have HEBD := Lib.hid heb
  have HLL : Hid (R.length = N ∧ K.length = N) := ⟨hRl, hKl⟩
  have hAl : Ext wB (wB.alloc (.cells #[.slice (some ⟨b1, o1, none⟩) N c1, .slice (some ⟨b2, o2, none⟩) N c2] 50)) := (Ext.refl wB).allocs _
  have hBk : Blk (wB.alloc (.cells #[.slice (some ⟨b1, o1, none⟩) N c1, .slice (some ⟨b2, o2, none⟩) N c2] 50)) wB.heap.size 50 #[.slice (some ⟨b1, o1, none⟩) N c1, .slice (some ⟨b2, o2, none⟩) N c2] := Blk.new wB _ _
  have H1 := Lib.hid (h1.ext hAl)
  have H2 := Lib.hid (h2.ext hAl)
  have HS := Lib.hid (hs.ext hAl)
  have HE0 : Hid (Ext w (wB.alloc (.cells #[.slice (some ⟨b1, o1, none⟩) N c1, .slice (some ⟨b2, o2, none⟩) N c2] 50))) := Ext.trans HEA.out (Ext.trans hEB hAl)
  clear h1 h2 h3 h4 hs hEB hrep hws hKd hRd hkb heb hRl hKl hK0 hR0 hst hS hAl HEA
  go_upto_if 27 with fail
  obtain ⟨wC, hwC⟩ : ∃ wC, wB.alloc (.cells #[.slice (some ⟨b1, o1, none⟩) N c1, .slice (some ⟨b2, o2, none⟩) N c2] 50) = wC := ⟨_, rfl⟩
  obtain ⟨g5, hg5⟩ : ∃ g5, wB.heap.size = g5 := ⟨_, rfl⟩
  rw [hwC] at hBk H1 H2 HS HE0 ⊢
  rw [hg5] at hBk ⊢
  have HB5 := Lib.hid hBk
  clear hBk hwC hg5
  have HZ : Hid (∀ W', Ext wC W' → W'.cell? ⟨g5, 0, none⟩ = some (.slice (some ⟨b1, o1, none⟩) N c1) ∧ W'.cell? ⟨g5, 1, none⟩ = some (.slice (some ⟨b2, o2, none⟩) N c2)) := fun W' hW => (blk2 (Blk.ext HB5.out hW)).1
  have HK2 : Hid (∀ q (hq : q < K.length) W', Ext wC W' → W'.cell? ⟨b2, o2 + q, none⟩ = some (.slice K[q].A K[q].l.length K[q].c)) := fun q hq W' hW => by
    obtain ⟨b, o, hA, hc⟩ := (H2.out.ext hW).at_ hq
    injection hA with hA
    injection hA with e1 e2
    subst e1 e2
    exact hc
  have HR2 : Hid (∀ q (hq : q < R.length) W', Ext wC W' → W'.cell? ⟨b1, o1 + q, none⟩ = some (.slice R[q].A R[q].l.length R[q].c)) := fun q hq W' hW => by
    obtain ⟨b, o, hA, hc⟩ := (H1.out.ext hW).at_ hq
    injection hA with hA
    injection hA with e1 e2
    subst e1 e2
    exact hc
  have HKN : Hid (∀ q, q < N → ∀ (d : Dt) W', Ext wC W' → ∃ bb : Bool, Calls Try.prog 28 #[.agg #[.slice (some ⟨b1, o1, none⟩) N c1, .slice (some ⟨b2, o2, none⟩) N c2], .int .i64 q, d.val] W' (ExtPost W' (.bool bb)) ∧ (bb = true ↔ Kw st q d)) := fun q hq d W' hW => by
    have hqK : q < K.length := by rw [HLL.out.2]; exact hq
    refine ⟨_, knows_any _ _ c1 c2 N K q K[q].l d W' (H2.out.ext hW) hqK HLL.out.2 rfl (by have := HKB.out q hqK; omega), ?_⟩
    rw [hasB_iff, List.mem_map]
    unfold Kw
    rw [HKD.out q hqK]
  have HHS : Hid (∀ (d : Dt) W', Ext wC W' → ∃ bb : Bool, Calls Try.prog 29 #[.slice SA S.length Sc, d.val] W' (ExtPost W' (.bool bb)) ∧ (bb = true ↔ d ∈ S)) := fun d W' hW => ⟨_, has_ref SA Sc S d W' (HS.out.ext hW) (by omega), hasB_iff S d⟩
  have HKW : Hid (∀ q, q < N → ∀ (d : Dt) W', Ext wC W' → Calls Try.prog 28 #[.agg #[.slice (some ⟨b1, o1, none⟩) N c1, .slice (some ⟨b2, o2, none⟩) N c2], .int .i64 q, d.val] W' (ExtPost W' (.bool (kwB st q d)))) := fun q hq d W' hW => by
    have hqK : q < K.length := by rw [HLL.out.2]; exact hq
    unfold kwB
    rw [HKD.out q hqK]
    exact knows_any _ _ c1 c2 N K q K[q].l d W' (H2.out.ext hW) hqK HLL.out.2 rfl (by have := HKB.out q hqK; omega)
  have HHB : Hid (∀ (d : Dt) W', Ext wC W' → Calls Try.prog 29 #[.slice SA S.length Sc, d.val] W' (ExtPost W' (.bool (hasB S d)))) := fun d W' hW => has_ref SA Sc S d W' (HS.out.ext hW) (by omega)
  have HPA : Hid (∀ p, p < N → ∀ W', Ext wC W' → Calls Try.prog 30 #[.agg #[.slice (some ⟨b1, o1, none⟩) N c1, .slice (some ⟨b2, o2, none⟩) N c2], .int .i64 p] W' (PsPost W' N p st.ev)) := fun p hp W' hW =>
    past_any b1 o1 _ c1 c2 N R st.ev p W' (H1.out.ext hW) HLL.out.1 (by omega) hp (fun q hq => HRD.out q hq) (fun q e he => HREP.out.w1 q e he) (fun q hq => HEBD.out q hq)
  clear HKN HHS
  obtain ⟨P, hP⟩ : ∃ P : Nat, 2 ^ N = P := ⟨_, rfl⟩
  have hP16 : P ≤ 16 := by
    rw [← hP]
    have : N = 2 ∨ N = 3 ∨ N = 4 := by omega
    rcases this with e | e | e <;> rw [e] <;> decide
  have hshl : (1 : Int) * 2 ^ N = (P : Int) := by rw [← hP, Int.one_mul, Int.natCast_pow]; rfl
  have hshl2 : (2 : Int) ^ N = (P : Int) := by rw [← hP, Int.natCast_pow]; rfl
  have hwp : IntKind.i64.wrap (P : Int) = (P : Int) := IntWalk.i64_in _ (by omega)
  clear hP
  go_wp2_with fail
  go_loopg [8] P (fun gg v wr => LpRel wC P gg v wr)
  case atStart => exact ⟨0, Nat.zero_le _, rfl, rfl, Ext.refl wC⟩
  case round =>
    obtain ⟨m, hm, rfl, rfl, hEm⟩ := hrel
    rename World => wm
    have hN64 : (N : Int) ≤ 4 := by omega
    have hN0 : (0 : Int) ≤ (N : Int) := by omega
    by_cases hml : m < P
    · have hm0 : (0 : Int) ≤ (m : Int) := by omega
      have hm1 : (m : Int) < (P : Int) := by omega
      have hwm : IntKind.u32.wrap (m : Int) = (m : Int) := wraps_u32' _ (by omega) (by omega)
      have HCT := Lib.hid (count_any (m : Int) wm (by omega) (by omega))
      have HEMM := Lib.hid hEm
      obtain ⟨cm, hcm⟩ : ∃ cm, cnt (m : Int) = cm := ⟨_, rfl⟩
      rw [hcm] at HCT
      have HCMM := Lib.hid hcm
      clear hcm hEm
      go_wp2_with fail
      refine HCT.out.mono ?_
      rintro e w9 ⟨rfl, rfl⟩
      clear HCT
      by_cases hcf : f < cm
      · have dcf : (f : Int) < (cm : Int) := by omega
        go_wp2_with fail
        go_roundg (P - (m + 1))
        case measure => omega
        case rel => exact ⟨m + 1, by omega, by go_num, rfl, HEMM.out⟩
      · have dcf : ¬ (f : Int) < (cm : Int) := by omega
        have HCM : Hid (cnt (m : Int) ≤ f) := by show _ ≤ _; rw [HCMM.out]; omega
        go_wp2_with fail
        go_loopg [9] N (fun gg v wr => LpRel wm N gg v wr)
        case atStart => exact ⟨0, Nat.zero_le _, rfl, rfl, Ext.refl _⟩
        case round =>
        obtain ⟨p, hp, rfl, rfl, hEp⟩ := hrel
        rename World => wp
        by_cases hpl : p < N
        · have hp0 : (0 : Int) ≤ (p : Int) := by omega
          have hp1 : (p : Int) < (N : Int) := by omega
          have hpm := shr_i64 m p (by omega)
          obtain ⟨bp, hbp⟩ : ∃ bp, m.testBit p = bp := ⟨_, rfl⟩
          rw [hbp] at hpm
          cases bp with
          | true =>
            have HEP := Lib.hid hEp
            clear hEp hbp
            go_wp2_with fail
            go_roundg (N - (p + 1))
            case measure => omega
            case rel => exact ⟨p + 1, by omega, by go_num, rfl, HEP.out⟩
          | false =>
            have HPM : Hid (m.testBit p = false) := hbp
            obtain ⟨z0, z1⟩ := HZ.out wp (Ext.trans HEMM.out hEp)
            have HPC := Lib.hid (HPA.out p hpl wp (Ext.trans HEMM.out hEp))
            have HEP := Lib.hid hEp
            clear hEp hbp
            go_wp2_with fail
            refine HPC.out.mono ?_
            rintro e wx ⟨gx, X, rfl, hBX, hPI, hEx⟩
            have HPI := Lib.hid hPI
            have HBX0 := Lib.hid hBX
            have HXP := Lib.hid (Ext.trans HEMM.out (Ext.trans HEP.out hEx))
            have HEX0 := Lib.hid hEx
            clear hBX hPI hEx HPC z0 z1 hpm
            go_wp2_with fail
            go_loopg [11] N (fun gg v wr => LpRel wx N gg v wr)
            case atStart => exact ⟨0, Nat.zero_le _, rfl, rfl, Ext.refl wx⟩
            case round =>
            obtain ⟨q, hq, rfl, rfl, hEq⟩ := hrel
            rename World => wq
            by_cases hql : q < N
            · have hX := Ext.trans HXP.out hEq
              have hBX := Blk.ext HBX0.out hEq
              have hqR : q < R.length := by rw [HLL.out.1]; exact hql
              have hxb := HPI.out.b q hql
              have hye := HEBD.out q hqR
              rw [HRD.out q hqR] at hxb
              have hrw := ((H1.out.ext hX).row hqR)
              have HC2 := Lib.hid (HR2.out q hqR)
              have hyd := HRD.out q hqR
              obtain ⟨ya, hya⟩ : ∃ ya, R[q].A = ya := ⟨_, rfl⟩
              obtain ⟨yc, hyc⟩ : ∃ yc, R[q].c = yc := ⟨_, rfl⟩
              obtain ⟨yl, hyl⟩ : ∃ yl, R[q].l = yl := ⟨_, rfl⟩
              rw [hya, hyl, hyc] at hrw
              rw [hya, hyl, hyc] at HC2
              rw [hyl] at hxb hye hyd
              obtain ⟨hrs, hrc, hrm⟩ := hrw
              have HYD := Lib.hid hyd
              obtain ⟨xq, hxq⟩ : ∃ xq, X.getD q 0 = xq := ⟨_, rfl⟩
              rw [hxq] at hxb
              have HXQ := Lib.hid hxq
              have HRS := Lib.hid hrs
              have HXx := Lib.hid hX
              have HBX := Lib.hid hBX
              have HEqq := Lib.hid hEq
              clear hya hyc hyl hyd hxq hrs hX hBX hEq
              have hsl := fun w => run_upto w ya yl.length yc xq (xq : Int) rfl (by omega)
              have HEU := Lib.hid (ev_upto HRS.out yc xq hxb)
              obtain ⟨yu, hyu⟩ : ∃ yu, (if yc = 0 then ya else ya.map (·.add (0 * 7))) = yu := ⟨_, rfl⟩
              rw [hyu] at hsl HEU
              clear hyu
              have hq0 : (0 : Int) ≤ (q : Int) := by omega
              have hq1 : (q : Int) < (N : Int) := by omega
              have hx0 : (0 : Int) ≤ (xq : Int) := by omega
              have HS13 : Hid (∀ W', Ext wq W' → (fun W' => W'.cell? ⟨g5, 0, none⟩ = some (.slice (some ⟨b1, o1, none⟩) N c1) ∧ W'.cell? ⟨b1, o1 + q, none⟩ = some (.slice ya yl.length yc) ∧ W'.cell? ⟨gx, q, none⟩ = some (.int .i64 xq)) W') := fun W' hW => by
                have hx := Ext.trans HXx.out hW
                have h9 := nv_cell (Blk.ext HBX.out hW) (q := q) (by rw [HPI.out.l]; exact hql)
                rw [HXQ.out] at h9
                exact ⟨(HZ.out W' hx).1, HC2.out W' hx, h9⟩
              obtain ⟨z0, z1, z2⟩ := HS13.out _ (Ext.refl wq)
              go_upto_region 18 with fail
              clear z0 z1 z2
              refine wp_region_sched (by kernel_rfl) 11 [(0, true), (1, true), (2, true), (3, true), (4, true), (5, true), (6, true), (7, true), (8, true), (9, true), (10, true), (11, false), (12, false)] (fun W' => W'.cell? ⟨g5, 0, none⟩ = some (.slice (some ⟨b1, o1, none⟩) N c1) ∧ W'.cell? ⟨b1, o1 + q, none⟩ = some (.slice ya yl.length yc) ∧ W'.cell? ⟨gx, q, none⟩ = some (.int .i64 xq)) (by kernel_rfl) (fun _ _ dd _ _ h => by cases dd <;> exact h) (HS13.out _ (Below.drew (Ext.refl wq))) (fun hHeld => ?_)
              iterate 11 ((refine sched_read (v := ?_) rfl (Or.inl ⟨by rfl, ?_⟩) hHeld ?_; rotate_left 1; · (intro w' hSw; obtain ⟨t0, t1, t2⟩ := hSw; go_simp; (first | done | with_reducible rfl))); (try simp only [Act.put, List.setIfInBounds_toArray, List.set_cons_zero, List.set_cons_succ]))
              have hEd : Ext wq wq.drew := Below.drew (Ext.refl wq)
              have hll : (yl.take xq).length = xq := by rw [List.length_take]; omega
              have hLN := lineage_sl yu yc q (yl.take xq) wq.drew (HEU.out.ext hEd) (by omega)
              rw [hll] at hLN
              have HLN := Lib.hid hLN
              clear hLN hll
              refine sched_tail rfl (by decide) (fun K hK => ?_)
              go_simp
              refine HLN.out.mono ?_
              rintro e6 w6 ⟨v6, rfl, hown6, hE6⟩
              obtain ⟨A6, c6, rfl, hs6, -, -⟩ := own_slice hown6
              have HE6 : Hid (Ext wq w6) := Ext.trans hEd hE6
              refine hK.out _ _ ?_
              clear hK K HLN
              (try simp only [Act.put, List.setIfInBounds_toArray, List.set_cons_zero, List.set_cons_succ])
              refine sched_tail rfl (by decide) (fun K hK => ?_)
              go_simp
              refine hK.out _ _ ?_
              clear hK K
              (try simp only [Act.put, List.setIfInBounds_toArray, List.set_cons_zero, List.set_cons_succ])
              refine sched_done ?_
              have hlen : (linV q (yl.take xq)).length = xq := by unfold linV; rw [lin_len, List.length_take]; omega
              rw [hlen] at hs6 ⊢
              have HS6 : Hid (Seg w6 9 A6 xq ((linV q (yl.take xq)).flatMap Dt.cells)) := hs6
              have HLE := Lib.hid hlen
              have HX6 := Lib.hid (Ext.trans HXx.out HE6.out)
              clear hHeld hEd hE6 hown6 hs6 hlen hsl HRS HEU
              go_wp2_with fail
              go_loopg [13] xq (fun gg v wr => LpRel w6 xq gg v wr)
              case atStart => exact ⟨0, Nat.zero_le _, rfl, rfl, Ext.refl w6⟩
              case round =>
              obtain ⟨i, hi, rfl, rfl, hEi⟩ := hrel
              rename World => wi
              by_cases hil : i < xq
              · have tokI : True := trivial
                have hdl : i < (linV q (yl.take xq)).length := by rw [HLE.out]; exact hil
                have hsx : DtSeg wi A6 (linV q (yl.take xq)) := by show Seg _ 9 _ _ _; rw [HLE.out]; exact HS6.out.ext hEi
                obtain ⟨tb, toff, htA, e0, e1, e2, e3, e4, e5, e6, e7, e8⟩ := Dt.at_ hsx hdl
                have hil2 : i < yl.length := by omega
                have hdv := linV_at q (yl.take xq) i (by rw [List.length_take]; omega) hdl
                rw [List.getElem_take] at hdv
                have hge : (st.ev.getD q [])[i]? = some yl[i] := by rw [HYD.out, List.getElem?_eq_getElem hil2]
                obtain ⟨d, hd⟩ : ∃ d, (linV q (yl.take xq))[i] = d := ⟨_, rfl⟩
                rw [hd] at e0 e1 e2 e3 e4 e5 e6 e7 e8 hdv
                have hXi := Ext.trans HX6.out hEi
                subst htA
                have HDC : Hid (∀ W', Ext wi W' → W'.cell? ⟨tb, toff + i * 9, none⟩ = some (.int .i64 d.proc) ∧ W'.cell? ⟨tb, toff + i * 9 + 1, none⟩ = some (.int .i64 d.index) ∧ W'.cell? ⟨tb, toff + i * 9 + 2, none⟩ = some (.int .i64 d.ev.kind) ∧ W'.cell? ⟨tb, toff + i * 9 + 3, none⟩ = some (.int .i64 d.ev.inc) ∧ W'.cell? ⟨tb, toff + i * 9 + 4, none⟩ = some (.int .i64 d.ev.frm) ∧ W'.cell? ⟨tb, toff + i * 9 + 5, none⟩ = some (.int .i64 d.ev.sinc) ∧ W'.cell? ⟨tb, toff + i * 9 + 6, none⟩ = some (.int .i64 d.ev.sidx) ∧ W'.cell? ⟨tb, toff + i * 9 + 7, none⟩ = some (.int .i64 d.ev.ord) ∧ W'.cell? ⟨tb, toff + i * 9 + 8, none⟩ = some (.int .i64 d.ev.val)) := fun W' hW => by
                  have h9 := Dt.cellsS' (hsx.ext hW) hdl hd
                  exact h9
                have hi0 : (0 : Int) ≤ (i : Int) := by omega
                have hi1 : (i : Int) < (xq : Int) := by omega
                have hlaw := rep_law HREP.out hpl hql HPI.out (by rw [HXQ.out]; exact hil) hge
                rw [← hdv] at hlaw
                have HLAW : Hid (fnd st S m d N = true) := surv_law (by omega) hpl HCM.out HPM.out hlaw
                have HHD := Lib.hid (HHB.out d wi hXi)
                have HEI := Lib.hid hEi
                have HXI := Lib.hid hXi
                clear hd hdv hge hlaw hEi hXi hsx
                go_wp2_with fail
                refine HHD.out.mono ?_
                rintro e wj ⟨rfl, hEj⟩
                have HEJ := Lib.hid hEj
                have HF0 := Lib.hid (fnd_zero st S m d)
                clear hEj HHD e0 e1 e2 e3 e4 e5 e6 e7 e8
                go_wp2_with fail
                go_loopg [14, 15] N (fun gg fv v wr => SfRel wj st S m d N gg fv v wr)
                case atStart => exact ⟨0, Nat.zero_le _, rfl, by rw [HF0.out], rfl, Ext.refl wj⟩
                case round =>
                obtain ⟨r, hr, rfl, rfl, rfl, hEm⟩ := hrel
                rename World => wr
                by_cases hrl : r < N
                · have hm0 : (0 : Int) ≤ (r : Int) := by omega
                  have hm1 : (r : Int) < (N : Int) := by omega
                  have hXm := Ext.trans HXI.out (Ext.trans HEJ.out hEm)
                  have fZ := fun dd os => HZ.out (grow (redrawn wr dd) os) (Ext.trans hXm (below_regrown wr dd os))
                  have fD := fun dd os => HDC.out (grow (redrawn wr dd) os) (Ext.trans HEJ.out (Ext.trans hEm (below_regrown wr dd os)))
                  have HK1 : Hid (∀ X, Ext wr X → Calls Try.prog 28 #[.agg #[.slice (some ⟨b1, o1, none⟩) N c1, .slice (some ⟨b2, o2, none⟩) N c2], .int .i64 r, d.val] X (ExtPost X (.bool (kwB st r d)))) := fun X hX => HKW.out r hrl d X (Ext.trans hXm hX)
                  have HFS := Lib.hid (fnd_succ st S m d r)
                  have hsh := shr_i64z m r (by omega)
                  have HEM := Lib.hid hEm
                  obtain ⟨bf, hbf⟩ : ∃ bf, fnd st S m d r = bf := ⟨_, rfl⟩
                  obtain ⟨bk, hbk⟩ : ∃ bk, kwB st r d = bk := ⟨_, rfl⟩
                  obtain ⟨bt, hbt⟩ : ∃ bt, m.testBit r = bt := ⟨_, rfl⟩
                  rw [hbf, hbk, hbt] at HFS
                  rw [hbf]
                  rw [hbk] at HK1
                  rw [hbt] at hsh
                  clear hbf hbk hbt hEm hXm
                  cases bf with
                  | true =>
                    go_upto_region 26 with fail
                    refine wp_region_quiet_below (by kernel_rfl) (by kernel_rfl) ?_
                    repeat (go_big_quiet_step (first | with_reducible exact call_grownW HK1.out))
                    refine wpQuiet_nil ?_
                    intro _ hw'
                    obtain ⟨⟨dq, osq⟩, hw''⟩ := hw'
                    subst hw''
                    clear fZ fD HK1
                    have HXN := Lib.hid (Ext.trans HEM.out (below_regrown wr dq osq))
                    go_wp2_with fail
                    go_roundg (N - (r + 1))
                    case measure => omega
                    case rel => exact ⟨r + 1, by omega, by go_num, by rw [HFS.out]; rfl, rfl, HXN.out⟩
                  | false =>
                    cases bt with
                    | true =>
                      go_upto_region 26 with fail
                      refine wp_region_quiet_below (by kernel_rfl) (by kernel_rfl) ?_
                      repeat (go_big_quiet_step (first | with_reducible exact call_grownW HK1.out))
                      refine wpQuiet_nil ?_
                      intro _ hw'
                      obtain ⟨⟨dq, osq⟩, hw''⟩ := hw'
                      subst hw''
                      clear fZ fD HK1
                      have HXN := Lib.hid (Ext.trans HEM.out (below_regrown wr dq osq))
                      go_wp2_with fail
                      go_roundg (N - (r + 1))
                      case measure => omega
                      case rel => exact ⟨r + 1, by omega, by go_num, by rw [HFS.out]; rfl, rfl, HXN.out⟩
                    | false =>
                      cases bk with
                      | true =>
                        go_upto_region 26 with fail
                        refine wp_region_quiet_below (by kernel_rfl) (by kernel_rfl) ?_
                        repeat (go_big_quiet_step (first | with_reducible exact call_grownW HK1.out))
                        refine wpQuiet_nil ?_
                        intro _ hw'
                        obtain ⟨⟨dq, osq⟩, hw''⟩ := hw'
                        subst hw''
                        clear fZ fD HK1
                        have HXN := Lib.hid (Ext.trans HEM.out (below_regrown wr dq osq))
                        go_wp2_with fail
                        go_roundg (N - (r + 1))
                        case measure => omega
                        case rel => exact ⟨r + 1, by omega, by go_num, by rw [HFS.out]; rfl, rfl, HXN.out⟩
                      | false =>
                        go_upto_region 26 with fail
                        refine wp_region_quiet_below (by kernel_rfl) (by kernel_rfl) ?_
                        repeat (go_big_quiet_step (first | with_reducible exact call_grownW HK1.out))
                        refine wpQuiet_nil ?_
                        intro _ hw'
                        obtain ⟨⟨dq, osq⟩, hw''⟩ := hw'
                        subst hw''
                        clear fZ fD HK1
                        have HXN := Lib.hid (Ext.trans HEM.out (below_regrown wr dq osq))
                        go_wp2_with fail
                        go_roundg (N - (r + 1))
                        case measure => omega
                        case rel => exact ⟨r + 1, by omega, by go_num, by rw [HFS.out]; rfl, rfl, HXN.out⟩
                · obtain rfl : r = N := by omega
                  have hm1 : ¬ (r : Int) < (r : Int) := by omega
                  have HEM := Lib.hid hEm
                  rw [HLAW.out]
                  clear hEm
                  go_wp2_with fail
                  go_roundg (xq - (i + 1))
                  case measure => omega
                  case rel => exact ⟨i + 1, by omega, by go_num, rfl, Ext.trans HEI.out (Ext.trans HEJ.out HEM.out)⟩
              · have hi1 : ¬ (i : Int) < (xq : Int) := by omega
                have HEI := Lib.hid hEi
                clear hEi
                go_wp2_with fail
                go_roundg (N - (q + 1))
                case measure => omega
                case rel => exact ⟨q + 1, by omega, by go_num, rfl, Ext.trans HEqq.out (Ext.trans HE6.out HEI.out)⟩
            · have hq1 : ¬ (q : Int) < (N : Int) := by omega
              have HEQ := Lib.hid hEq
              clear hEq
              go_wp2_with fail
              go_roundg (N - (p + 1))
              case measure => omega
              case rel => exact ⟨p + 1, by omega, by go_num, rfl, Ext.trans HEP.out (Ext.trans HEX0.out HEQ.out)⟩
        · have hp1 : ¬ (p : Int) < (N : Int) := by omega
          have HEP := Lib.hid hEp
          clear hEp
          go_wp2_with fail
          go_roundg (P - (m + 1))
          case measure => omega
          case rel => exact ⟨m + 1, by omega, by go_num, rfl, Ext.trans HEMM.out HEP.out⟩
    · have hm1 : ¬ (m : Int) < (P : Int) := by omega
      have HEMM := Lib.hid hEm
      clear hEm
      go_wp2_with fail
      go_ret
      exact ⟨rfl, Ext.trans HE0.out HEMM.out⟩
end Go.Proofs.Ytfnnoncdocghjaa
