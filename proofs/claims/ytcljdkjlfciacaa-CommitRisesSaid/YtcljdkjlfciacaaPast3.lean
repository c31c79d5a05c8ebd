/- Past of the reference of chapter 35. No statement of the seat is proved here. -/
import Derived.Test.YtcljdkjlfciacaaPast2
namespace Go.Proofs.Ytcljdkjlfciacaa
open Go.RowKit
set_option linter.unusedVariables false

/-- the list that the reference keeps -/
structure VMem (w wr : World) (gx : Nat) (X : List Int) : Prop where
  ext : Ext w wr
  x : VecB wr gx X
theorem VMem.post {w wr wr' : World} {gx : Nat} {X : List Int} (h : VMem w wr gx X) (hE : Ext wr wr') : VMem w wr' gx X := ⟨h.ext.trans hE, h.x.ext hE⟩
theorem VMem.setX {w wr : World} {gx : Nat} {X : List Int} (h : VMem w wr gx X) (h1 : w.heap.size ≤ gx) {q : Nat} (hq : q < X.length) (v : Int) : VMem w (wr.setCell ⟨gx, q, none⟩ (.int .i64 v)) gx (X.set q v) :=
  ⟨h.ext.set h1 _, h.x.set hq v⟩
def R1Rel (L : Lin) (p : Nat) (i : Int) (w : World) (gx : Nat) (g : Nat) (v : Value) (wr : World) : Prop := ∃ X m, v = .bool m ∧ g = (if m then totX L X + 1 else 0) ∧ Hid (PInv L p i X ∧ (m = false → IsPast L p i (some X))) ∧ VMem w wr gx X
def R2Rel (n : Nat) (L : Lin) (p : Nat) (i : Int) (w : World) (gx : Nat) (X : List Int) (g : Nat) (mv iv : Value) (wr : World) : Prop :=
  ∃ (q : Nat) (X' : List Int) (m : Bool), q ≤ n ∧ mv = .bool m ∧ iv = .int .i64 q ∧ g = n - q ∧ VMem w wr gx X' ∧ Hid (RInv L p i X X' m q)
def R3Rel (n : Nat) (L : Lin) (p : Nat) (i : Int) (w : World) (gx : Nat) (X : List Int) (q : Nat) (g : Nat) (mv kv : Value) (wr : World) : Prop :=
  ∃ (k : Nat) (X' : List Int) (m : Bool), k ≤ n ∧ mv = .bool m ∧ kv = .int .i64 k ∧ g = n - k ∧ VMem w wr gx X' ∧ Hid (RInv L p i X X' m q ∧ (m = false → ∀ k', k' < k → Handled L X' q k'))

set_option maxRecDepth 100000 in
set_option maxHeartbeats 6400000 in
theorem past_ref (A : Option Addr) (cA : Nat) (R : List Rw) (proc index : Int) (w : World) (hs : LinSeg w A R) (hn : R.length ≤ 1000) :
    Calls Try.prog 16 #[.slice A R.length cA, .int .i64 proc, .int .i64 index] w (IPost (pastL (evsL R) proc index) w) := by
  by_cases h1 : proc < 0
  · have HN : Hid (pastL (evsL R) proc index = []) := pastL_none (by omega)
    have d1 : decide (proc < 0) = true := decide_eq_true h1
    go_enter Try.func16, Try.ntmps16
    go_wp2_with fail
    go_ret
    exact ⟨none, 0, by rw [HN.out]; rfl, by rw [HN.out]; exact Seg.nil, by rw [HN.out]; exact Nat.le_refl _, by unfold maxLen; omega, Ext.refl w⟩
  have d1 : decide (proc < 0) = false := decide_eq_false h1
  by_cases h2 : (R.length : Int) ≤ proc
  · have HN : Hid (pastL (evsL R) proc index = []) := pastL_none (by rw [evsL_len]; omega)
    have d2 : decide ((R.length : Int) ≤ proc) = true := decide_eq_true h2
    go_enter Try.func16, Try.ntmps16
    go_wp2_with fail
    go_ret
    exact ⟨none, 0, by rw [HN.out]; rfl, by rw [HN.out]; exact Seg.nil, by rw [HN.out]; exact Nat.le_refl _, by unfold maxLen; omega, Ext.refl w⟩
  obtain ⟨p, rfl⟩ : ∃ p : Nat, proc = p := ⟨proc.toNat, by omega⟩
  have d2 : decide ((R.length : Int) ≤ (p : Int)) = false := decide_eq_false h2
  have hp : p < R.length := by omega
  by_cases h3 : index < 0
  · have HN : Hid (pastL (evsL R) p index = []) := pastL_none (by omega)
    have d3 : decide (index < 0) = true := decide_eq_true h3
    go_enter Try.func16, Try.ntmps16
    go_wp2_with fail
    go_ret
    exact ⟨none, 0, by rw [HN.out]; rfl, by rw [HN.out]; exact Seg.nil, by rw [HN.out]; exact Nat.le_refl _, by unfold maxLen; omega, Ext.refl w⟩
  have d3 : decide (index < 0) = false := decide_eq_false h3
  obtain ⟨bl, ol, rfl, pr⟩ := hs.at_ hp
  have hrow := evsL_row hp
  have hpI0 : (0 : Int) ≤ (p : Int) := by omega
  have hpI1 : (p : Int) < (R.length : Int) := by omega
  by_cases h4 : ((R[p]).es.length : Int) < index
  · have HN : Hid (pastL (evsL R) p index = []) := pastL_none (by rw [show ((p : Int)).toNat = p by omega, hrow]; omega)
    have d4 : decide (((R[p]).es.length : Int) < index) = true := decide_eq_true h4
    clear hrow
    generalize R[p] = r at *
    go_enter Try.func16, Try.ntmps16
    go_wp2_with fail
    go_ret
    exact ⟨none, 0, by rw [HN.out]; rfl, by rw [HN.out]; exact Seg.nil, by rw [HN.out]; exact Nat.le_refl _, by unfold maxLen; omega, Ext.refl w⟩
  have d4 : decide (((R[p]).es.length : Int) < index) = false := decide_eq_false h4
  have HPS : Hid (∀ r, IsPast (evsL R) p index r → pastL (evsL R) p index = r.getD []) := fun r hr => pastL_some (by rw [evsL_len]; exact hp) (by omega) (by rw [hrow]; omega) hr
  have HS0 : Hid (PInv (evsL R) p index ((List.replicate R.length 0).set p index)) := by
    have := pinv_start (L := evsL R) (p := p) (i := index) (by rw [evsL_len]; exact hp) (by omega) (by rw [hrow]; omega)
    rw [evsL_len] at this
    exact this
  have hLl := evsL_len R
  obtain ⟨L, hL⟩ : ∃ L, evsL R = L := ⟨_, rfl⟩
  have HL := Lib.hid hL
  rw [hL] at HPS HS0 hLl ⊢
  have HLL := Lib.hid hLl
  clear hL hrow hLl
  obtain ⟨res, hres⟩ : ∃ res, pastL L p index = res := ⟨_, rfl⟩
  rw [hres] at HPS ⊢
  clear hres
  have hmk1 := mk_ints R.length hn w
  have hv1 : VecB (w.alloc (.cells ((List.replicate R.length (0 : Int)).flatMap Iv).toArray 3)) w.heap.size (List.replicate R.length 0) := Blk.new w _ _
  have hc1 := hv1.at_ (q := p) (by rw [List.length_replicate]; exact hp)
  rw [elX_rep] at hc1
  have hf1 := hv1.frz p
  have hX1 := (Ext.refl w).allocs (.cells ((List.replicate R.length (0 : Int)).flatMap Iv).toArray 3)
  obtain ⟨w1, hw1⟩ : ∃ w1, w.alloc (.cells ((List.replicate R.length (0 : Int)).flatMap Iv).toArray 3) = w1 := ⟨_, rfl⟩
  rw [hw1] at hmk1 hv1 hc1 hf1 hX1
  clear hw1
  have hv2 := hv1.set (q := p) (by rw [List.length_replicate]; exact hp) index
  have hX2 : Ext w (w1.setCell ⟨w.heap.size, p, none⟩ (.int .i64 index)) := hX1.set (Nat.le_refl _) _
  have HM0 := Lib.hid (VMem.mk hX2 hv2)
  clear hv1 hv2 hX1 hX2
  generalize R[p] = r at *
  go_enter Try.func16, Try.ntmps16
  go_upto_region 6 with fail
  have HSL := Lib.hid hs
  clear hs pr hmk1 hc1 hf1 d1 d2 d3 d4
  go_loopg [8] (totX L ((List.replicate R.length 0).set p index) + 1) (fun g v wr => R1Rel L p index w w.heap.size g v wr)
  case atStart => exact ⟨_, true, rfl, rfl, (⟨HS0.out, fun h => by cases h⟩ : _ ∧ _), HM0.out⟩
  case round =>
    clear HM0 HS0
    obtain ⟨X, m, rfl, rfl, HI, hM⟩ := hrel
    have HXL : Hid (X.length = R.length) := by show _ = _; rw [HI.out.1.len, HLL.out]
    rcases m with _ | _
    · have HRES : Hid (res = X) := HPS.out (some X) (HI.out.2 rfl)
      go_wp2_with fail
      go_ret
      exact ⟨some ⟨w.heap.size, 0, none⟩, R.length, by rw [HRES.out, HXL.out]; rfl, by rw [HRES.out]; exact hM.x.seg, by rw [HRES.out, HXL.out]; exact Nat.le_refl _, by unfold maxLen; omega, hM.ext⟩
    · have HM1 := Lib.hid hM
      clear hM
      go_wp2_with fail
      go_loopg [8, 9] R.length (fun g mv iv w' => R2Rel R.length L p index w w.heap.size X g mv iv w')
      case atStart => exact ⟨0, X, false, Nat.zero_le _, rfl, rfl, rfl, HM1.out, RInv.start HI.out.1⟩
      case round =>
        clear HM1
        obtain ⟨q, X2, m2, hq, rfl, rfl, rfl, hM2, HI2⟩ := hrel
        by_cases hlt : q < R.length
        · have hL2 : q < L.length := by rw [HLL.out]; exact hlt
          have HQL := Lib.hid hL2
          have hrow : rowL L q = (R[q]).es := by rw [← HL.out]; exact evsL_row hlt
          have HROW := Lib.hid hrow
          have hrm := (HSL.out.row hlt).2.1
          have hrm2 := (HSL.out.row hlt).2.2
          unfold maxLen at hrm2
          have hel : (R[q]).es.length ≤ 9223372036854775807 := by omega
          have HPR := Lib.hid (fun (W : World) (hE : Ext w W) => (HSL.out.ext hE).cell hlt)
          have HSG := Lib.hid (fun (W : World) (hE : Ext w W) => ((HSL.out.ext hE).row hlt).1)
          clear hrow hL2 hrm hrm2
          generalize R[q] = r at *
          have hq0 : (0 : Int) ≤ (q : Int) := by omega
          have hq1 : (q : Int) < (R.length : Int) := by omega
          have HM2 := Lib.hid hM2
          clear hM2
          go_wp2_with fail
          go_loopg [8, 10] r.es.length (fun g mv kv w' => R3Rel r.es.length L p index w w.heap.size X q g mv kv w')
          case atStart => exact ⟨0, X2, m2, Nat.zero_le _, rfl, rfl, rfl, HM2.out, (⟨HI2.out, fun _ k' h => absurd h (Nat.not_lt_zero _)⟩ : _ ∧ _)⟩
          case round =>
            clear HM2
            obtain ⟨k, X3, m3, hk, rfl, rfl, rfl, hM3, HI3⟩ := hrel
            have HXL3 : Hid (X3.length = R.length) := by show _ = _; rw [HI3.out.1.inv.len, HLL.out]
            have hcx := hM3.x.at_ (q := q) (by rw [HXL3.out]; exact hlt)
            have hhi := HI3.out.1.inv.hi q HQL.out
            rw [HROW.out] at hhi
            by_cases hkx : (k : Int) < elX X3 q
            · have HKX := Lib.hid hkx
              have hkl : k < r.es.length := by omega
              have pr := HPR.out wr hM3.ext
              obtain ⟨b3, o3, hA3, p0, p1, p2, p3, p4, p5, p6⟩ := Ev.at_ (HSG.out wr hM3.ext) hkl
              have HE : Hid ((rowL L q)[k]? = some r.es[k]) := by show _ = _; rw [HROW.out, List.getElem?_eq_getElem hkl]
              rw [hA3] at pr
              generalize r.es[k] = e at *
              have hk0 : (0 : Int) ≤ (k : Int) := by omega
              have hk1 : (k : Int) < (r.es.length : Int) := by omega
              have dkx : decide ((k : Int) < elX X3 q) = true := decide_eq_true hkx
              have hM5 := hM3.post ((Ext.refl wr).allocs (.cells e.cells.toArray 61))
              have hB5 := Blk.new wr 61 e.cells.toArray
              obtain ⟨gb, hgb⟩ : ∃ gb, wr.heap.size = gb := ⟨_, rfl⟩
              obtain ⟨wb, hwb⟩ : ∃ wb, wr.alloc (.cells e.cells.toArray 61) = wb := ⟨_, rfl⟩
              rw [hwb] at hM5 hB5
              rw [hgb] at hB5
              have HWB := Lib.hid hwb
              have HGB := Lib.hid hgb
              have HB5 := Lib.hid hB5
              have HM5 := Lib.hid hM5
              clear hwb hgb hM3 hB5 hM5 hhi
              by_cases hkd : e.kind = 1
              · have hkd' : (e.kind != 1) = false := by simp [hkd]
                have HK := Lib.hid hkd
                clear hkd
                obtain ⟨sv, hsv⟩ : ∃ sv, sentB L q e = sv := ⟨_, rfl⟩
                have HSV := Lib.hid hsv
                have HSD : Hid (sentB L q e = (decide (0 ≤ e.frm) && (decide (e.frm < (R.length : Int)) && ((e.frm != (q : Int)) && labB (rowL (evsL R) e.frm.toNat) e.sinc e.sidx)))) := by
                  show _ = _
                  unfold sentB; rw [← HL.out, evsL_len]
                clear hsv
                go_upto_region 16 with fail
                have e1 := HWB.out
                unfold Ev.cells at e1
                rw [e1, HGB.out]
                clear e1 HWB HGB p0 p1 p2 p3 p4 p5 p6 pr hcx dkx
                have hB6 := HB5.out
                obtain ⟨c0, c1, c2, c3, c4, c5, c6⟩ := ev7 hB6
                by_cases h1 : e.frm < 0
                · have d1 : decide (e.frm < 0) = true := decide_eq_true h1
                  have HRES : Hid (res = []) := HPS.out none (pinv_bad HI3.out.1.inv HQL.out HKX.out HE.out HK.out (by rw [HSD.out, decide_eq_false (show ¬ 0 ≤ e.frm by omega)]; rfl))
                  go_quiet (fail)
                  go_wp2_with fail
                  go_ret
                  exact ⟨none, 0, by rw [HRES.out]; rfl, by rw [HRES.out]; exact Seg.nil, by rw [HRES.out]; exact Nat.le_refl _, by unfold maxLen; omega, (HM5.out.post (Ext.drewn _ _)).ext⟩
                have d1 : decide (e.frm < 0) = false := decide_eq_false h1
                by_cases h2 : (R.length : Int) ≤ e.frm
                · have d2 : decide ((R.length : Int) ≤ e.frm) = true := decide_eq_true h2
                  have HRES : Hid (res = []) := HPS.out none (pinv_bad HI3.out.1.inv HQL.out HKX.out HE.out HK.out (by rw [HSD.out, decide_eq_false (show ¬ e.frm < (R.length : Int) by omega)]; simp))
                  go_quiet (fail)
                  go_wp2_with fail
                  go_ret
                  exact ⟨none, 0, by rw [HRES.out]; rfl, by rw [HRES.out]; exact Seg.nil, by rw [HRES.out]; exact Nat.le_refl _, by unfold maxLen; omega, (HM5.out.post (Ext.drewn _ _)).ext⟩
                have d2 : decide ((R.length : Int) ≤ e.frm) = false := decide_eq_false h2
                by_cases h3 : e.frm = (q : Int)
                · have d3 : (e.frm == (q : Int)) = true := by simp [h3]
                  have HRES : Hid (res = []) := HPS.out none (pinv_bad HI3.out.1.inv HQL.out HKX.out HE.out HK.out (by rw [HSD.out, show (e.frm != (q : Int)) = false by simp [h3]]; simp))
                  clear h3
                  go_quiet (fail)
                  go_wp2_with fail
                  go_ret
                  exact ⟨none, 0, by rw [HRES.out]; rfl, by rw [HRES.out]; exact Seg.nil, by rw [HRES.out]; exact Nat.le_refl _, by unfold maxLen; omega, (HM5.out.post (Ext.drewn _ _)).ext⟩
                have d3 : (e.frm == (q : Int)) = false := by simp [h3]
                have hfR : e.frm.toNat < R.length := by omega
                have HSL2 : Hid (sentB L q e = labB (R[e.frm.toNat]).es e.sinc e.sidx) := by
                  show _ = _
                  rw [HSD.out, decide_eq_true (show 0 ≤ e.frm by omega), decide_eq_true (show e.frm < (R.length : Int) by omega), show (e.frm != (q : Int)) = true by simp [h3], evsL_row hfR]
                  rfl
                clear h3
                have hcell := (HSL.out.ext HM5.out.ext).cell hfR
                obtain ⟨hr6, hrc6, hrm6⟩ := (HSL.out.ext HM5.out.ext).row hfR
                generalize R[e.frm.toNat] = r6 at *
                have HLB := Lib.hid (fun W h => labelled_any r6.A r6.c r6.es e.sinc e.sidx W h hrc6 hrm6)
                rw [← HSL2.out, HSV.out] at HLB
                have hS6 : Sent2 wb gb e ⟨bl, ol + e.frm.toNat, none⟩ (.slice r6.A r6.es.length r6.c) := ⟨hB6, hcell⟩
                have hf0 : (0 : Int) ≤ e.frm := by omega
                have hf1 : e.frm < (R.length : Int) := by omega
                clear hrm6 hrc6 HSD HSL2 hB6
                go_region_held3 (fun w' => (w'.cell? ⟨gb, 0, none⟩ = some (.int .i64 e.kind) ∧ w'.cell? ⟨gb, 1, none⟩ = some (.int .i64 e.inc) ∧ w'.cell? ⟨gb, 2, none⟩ = some (.int .i64 e.frm) ∧ w'.cell? ⟨gb, 3, none⟩ = some (.int .i64 e.sinc) ∧ w'.cell? ⟨gb, 4, none⟩ = some (.int .i64 e.sidx) ∧ w'.cell? ⟨gb, 5, none⟩ = some (.int .i64 e.ord) ∧ w'.cell? ⟨gb, 6, none⟩ = some (.int .i64 e.val)) ∧ w'.cell? ⟨bl, ol + e.frm.toNat, none⟩ = some (.slice r6.A r6.es.length r6.c))
                  (first | (refine Sent2.keep ?_; (repeat (first | with_reducible refine Sent2.drew ?_ | with_reducible refine Sent2.alloc ?_ _)); (first | with_reducible exact hS6 | with_reducible exact hS7)))
                  (first
                    | (go_at_call 34; refine (HLB.out _ (by repeat (first | with_reducible exact hr6 | with_reducible refine Seg.drew ?_ | with_reducible refine Seg.alloc ?_ _))).mono ?_; rintro e' w7 ⟨rfl, hE7⟩; have hE7b := Ext.trans (Below.drew (Ext.refl wb)) hE7; have hS7 := hS6.ext hE7b))
                have HM7 := Lib.hid (HM5.out.post hE7b)
                clear hE7 hE7b hcell hr6 c0 c1 c2 c3 c4 c5 c6 hS6 HLB HB5 HM5
                rcases sv with _ | _
                · have HRES : Hid (res = []) := HPS.out none (pinv_bad HI3.out.1.inv HQL.out HKX.out HE.out HK.out HSV.out)
                  go_wp2_with fail
                  go_ret
                  exact ⟨none, 0, by rw [HRES.out]; rfl, by rw [HRES.out]; exact Seg.nil, by rw [HRES.out]; exact Nat.le_refl _, by unfold maxLen; omega, HM7.out.ext⟩
                · obtain ⟨⟨c0, c1, c2, c3, c4, c5, c6⟩, _⟩ := hS7.keep
                  have hcx := HM7.out.x.at_ (q := e.frm.toNat) (by rw [HXL3.out]; exact hfR)
                  have HC7 := Lib.hid hS7
                  clear hS7
                  by_cases hup : elX X3 e.frm.toNat < e.sidx
                  · have dup : decide (elX X3 e.frm.toNat < e.sidx) = true := decide_eq_true hup
                    have HUP := Lib.hid (HI3.out.1.raise HQL.out HKX.out HE.out HK.out HSV.out hup)
                    clear hup
                    go_wp2_with fail
                    go_quiet (fail)
                    have hM8 := HM7.out.post (Ext.drewn w7 nq)
                    have hS8 : Sent2 (w7.drewN nq) gb e ⟨bl, ol + e.frm.toNat, none⟩ (.slice r6.A r6.es.length r6.c) := HC7.out.ext (Ext.drewn w7 nq)
                    generalize w7.drewN nq = w8 at *
                    clear c0 c1 c2 c3 c4 c5 c6 hcx
                    obtain ⟨⟨c0, c1, c2, c3, c4, c5, c6⟩, _⟩ := hS8.keep
                    have hcx := hM8.x.at_ (q := e.frm.toNat) (by rw [HXL3.out]; exact hfR)
                    have hfx := hM8.x.frz e.frm.toNat
                    have HM9 := Lib.hid (hM8.setX (Nat.le_refl _) (q := e.frm.toNat) (by rw [HXL3.out]; exact hfR) e.sidx)
                    clear hM8 hS8
                    go_wp2_with fail
                    go_roundg (r.es.length - (k + 1))
                    case measure => omega
                    case rel => exact ⟨k + 1, _, true, by omega, rfl, by go_num, rfl, HM9.out, (⟨HUP.out, fun h => by cases h⟩ : _ ∧ _)⟩
                  · have dup : decide (elX X3 e.frm.toNat < e.sidx) = false := decide_eq_false hup
                    have HNU := Lib.hid (handled_le (X := X3) HE.out HSV.out (by omega))
                    clear hup
                    go_wp2_with fail
                    go_quiet (fail)
                    have HM8 := Lib.hid (HM7.out.post (Ext.drewn w7 nq))
                    generalize w7.drewN nq = w8 at *
                    go_wp2_with fail
                    go_roundg (r.es.length - (k + 1))
                    case measure => omega
                    case rel => exact ⟨k + 1, X3, m3, by omega, rfl, by go_num, rfl, HM8.out, (⟨HI3.out.1, fun hm k' hk' => by
                      have hk2 : k' < k + 1 := hk'
                      by_cases e : k' = k
                      · subst e; exact HNU.out
                      · exact HI3.out.2 hm k' (by omega)⟩ : _ ∧ _)⟩
              · have hkd' : (e.kind != 1) = true := by simp [hkd]
                have HK := Lib.hid hkd
                clear hkd
                have HM6 : Hid (VMem w (wr.alloc (.cells e.cells.toArray 61)) w.heap.size X3) := by show VMem _ _ _ _; rw [HWB.out]; exact HM5.out
                clear HM5 HWB HB5 HGB
                go_wp2_with fail
                go_roundg (r.es.length - (k + 1))
                case measure => omega
                case rel => exact ⟨k + 1, X3, m3, by omega, rfl, by go_num, rfl, HM6.out, (⟨HI3.out.1, fun hm k' hk' => by
                  have hk2 : k' < k + 1 := hk'
                  by_cases e : k' = k
                  · subst e; exact handled_skip HE.out HK.out
                  · exact HI3.out.2 hm k' (by omega)⟩ : _ ∧ _)⟩
            · have dkx : decide ((k : Int) < elX X3 q) = false := decide_eq_false hkx
              have HNX := Lib.hid (HI3.out.1.next (fun hm k' hk' => HI3.out.2 hm k' (by omega)))
              have HM4 := Lib.hid hM3
              clear hM3
              go_wp2_with fail
              go_roundg (R.length - (q + 1))
              case measure => omega
              case rel => exact ⟨q + 1, X3, m3, by omega, rfl, by go_num, rfl, HM4.out, HNX.out⟩
        · obtain rfl : q = R.length := by omega
          have HM4 := Lib.hid hM2
          have HLT : Hid ((if m2 then totX L X2 + 1 else 0) < totX L X + 1) := by
            show _ < _
            rcases m2 with _ | _
            · simp
            · have := HI2.out.up rfl
              simp only [if_true]
              omega
          have HST : Hid (m2 = false → IsPast L p index (some X2)) := fun h => by
            subst h
            have := HI2.out
            rw [← HLL.out] at this
            exact this.stop
          clear hM2
          go_wp2_with fail
          go_roundg (if m2 then totX L X2 + 1 else 0)
          case measure => exact HLT.out
          case rel => exact ⟨X2, m2, rfl, rfl, (⟨HI2.out.inv, HST.out⟩ : _ ∧ _), HM4.out⟩
end Go.Proofs.Ytcljdkjlfciacaa
