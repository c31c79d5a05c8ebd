/- Past of package commit. No statement of the seat is proved here. -/
import Derived.Test.YtcljdkjlfciacaaSent
namespace Go.Proofs.Ytcljdkjlfciacaa
open Go.RowKit
set_option linter.unusedVariables false

/-- a list of ints, in memory that was made or not touched -/
def IPost (l : List Int) (w : World) (e : Ending) (w' : World) : Prop := ∃ A c, e = .returned (.slice A l.length c) ∧ IntSeg w' A l ∧ l.length ≤ c ∧ c ≤ maxLen ∧ Ext w w'
theorem info_ev : (Try.prog.info? 61).map (fun i => (i.zero, i.size, i.bytes)) = some (some (.agg #[.int .i64 0, .int .i64 0, .int .i64 0, .int .i64 0, .int .i64 0, .int .i64 0, .int .i64 0]), 7, 56) := by kernel_rfl
theorem run_cut (w : World) (A : Option Addr) (n cap lo hi : Nat) (li hj : Int) (hli : li = lo) (hhj : hj = hi) (hl : lo ≤ hi) (hh : hi ≤ cap) : (Instr.slice 55 (.slice A n cap) (some (.int .i64 li)) (some (.int .i64 hj)) none).run Try.prog w = .ok (.slice (if cap = lo then A else A.map (·.add (lo * 7))) (hi - lo) (cap - lo)) w := by
  subst hli hhj
  obtain ⟨i0, hi0, hz0, hz1, hz2⟩ := info_parts info_ev
  have h1 : (0 : Int) ≤ (lo : Int) := by omega
  have h3 : (hi : Int) ≤ (cap : Int) := by omega
  have h4 : (0 : Int) ≤ (hi : Int) := by omega
  by_cases hc : cap = lo
  · subst hc
    obtain rfl : hi = cap := by omega
    simp [Instr.slice, Instr.sliceBounds, run_underlying Try.underlying55, go_sem, sizeOf, typeInfo, hi0, h1]
  · simp [Instr.slice, Instr.sliceBounds, run_underlying Try.underlying55, go_sem, sizeOf, typeInfo, hi0, hz1, h1, h3, h4, hc]
    intro h
    exact absurd h (by omega)
theorem ev_cut {w : World} {A : Option Addr} {es : List Ev} (h : EvSeg w A es) (cap lo hi : Nat) (hl : lo ≤ hi) (hh : hi ≤ es.length) (hc : es.length ≤ cap) : EvSeg w (if cap = lo then A else A.map (·.add (lo * 7))) ((es.drop lo).take (hi - lo)) := by
  have e : es.flatMap Ev.cells = (es.take lo).flatMap Ev.cells ++ (((es.drop lo).take (hi - lo)).flatMap Ev.cells ++ ((es.drop lo).drop (hi - lo)).flatMap Ev.cells) := by
    rw [← List.flatMap_append, List.take_append_drop, ← List.flatMap_append, List.take_append_drop]
  refine ⟨flat_len Ev.cells 7 Ev.len _, fun hn => ?_⟩
  rw [List.length_take, List.length_drop] at hn
  obtain ⟨b, off, rfl, hb, hcc⟩ := h.2 (by omega)
  rw [if_neg (by omega)]
  have hl2 : ((es.take lo).flatMap Ev.cells).length = lo * 7 := by rw [flat_len Ev.cells 7 Ev.len, List.length_take]; congr 1; omega
  refine ⟨b, off + lo * 7, ?_, hb, fun j u hu => ?_⟩
  · simp only [Option.map_some, Addr.add]
    by_cases h0 : lo * 7 = 0
    · simp [h0]
    · simp [h0]
  · rw [Nat.add_assoc]
    refine hcc (lo * 7 + j) u ?_
    rw [e, List.getElem?_append_right (by omega), hl2, show lo * 7 + j - lo * 7 = j by omega, List.getElem?_append_left (List.getElem?_eq_some_iff.1 hu).1]
    exact hu

/-- the two lists that Past keeps -/
structure PMem (w wr : World) (gx gs : Nat) (X S : List Int) : Prop where
  ext : Ext w wr
  x : VecB wr gx X
  s : VecB wr gs S
theorem PMem.post {w wr wr' : World} {gx gs : Nat} {X S : List Int} (h : PMem w wr gx gs X S) (hE : Ext wr wr') : PMem w wr' gx gs X S := ⟨h.ext.trans hE, h.x.ext hE, h.s.ext hE⟩
theorem PMem.setX {w wr : World} {gx gs : Nat} {X S : List Int} (h : PMem w wr gx gs X S) (h1 : w.heap.size ≤ gx) (h2 : gx < gs) {q : Nat} (hq : q < X.length) (v : Int) : PMem w (wr.setCell ⟨gx, q, none⟩ (.int .i64 v)) gx gs (X.set q v) S :=
  ⟨h.ext.set h1 _, h.x.set hq v, h.s.other _ (by omega)⟩
theorem PMem.setS {w wr : World} {gx gs : Nat} {X S : List Int} (h : PMem w wr gx gs X S) (h1 : w.heap.size ≤ gx) (h2 : gx < gs) {q : Nat} (hq : q < S.length) (v : Int) : PMem w (wr.setCell ⟨gs, q, none⟩ (.int .i64 v)) gx gs X (S.set q v) :=
  ⟨h.ext.set (by omega) _, h.x.other _ (by omega), h.s.set hq v⟩
theorem LinSeg.cell {W : World} {bl ol : Nat} {R : List Rw} (h : LinSeg W (some ⟨bl, ol, none⟩) R) {q : Nat} (hq : q < R.length) : W.cell? ⟨bl, ol + q, none⟩ = some (.slice R[q].A R[q].es.length R[q].c) := by
  obtain ⟨b, off, hA, hc⟩ := h.at_ hq
  injection hA with hA
  injection hA with h1 h2
  subst h1 h2
  exact hc
def P1Rel (L : Lin) (p : Nat) (i : Int) (w : World) (gx gs : Nat) (g : Nat) (wr : World) : Prop := ∃ X S, g = totX L S ∧ Hid (SInv L p i X S) ∧ PMem w wr gx gs X S
def P2Rel (n : Nat) (L : Lin) (p : Nat) (i : Int) (w : World) (gx gs : Nat) (X S : List Int) (g : Nat) (iv : Value) (wr : World) : Prop :=
  ∃ (q : Nat) (X' S' : List Int), q ≤ n ∧ iv = .int .i64 q ∧ g = n - q ∧ PMem w wr gx gs X' S' ∧ Hid (SInv L p i X' S' ∧ LeX L S S' ∧ LeX L X X' ∧ ∀ q', q' < q → elX X q' ≤ elX S' q')
def P3Rel (L : Lin) (p : Nat) (i : Int) (w : World) (gx gs : Nat) (X S : List Int) (q lo m : Nat) (g : Nat) (iv : Value) (wr : World) : Prop :=
  ∃ (j : Nat) (X' : List Int), j ≤ m ∧ iv = .int .i64 j ∧ g = m - j ∧ PMem w wr gx gs X' S ∧ Hid (SInv L p i X' S ∧ LeX L X X' ∧ elX X' q = elX X q ∧ ∀ k, lo ≤ k → k < lo + j → Handled L X' q k)

set_option maxRecDepth 100000 in
set_option maxHeartbeats 6400000 in
theorem past_code (A : Option Addr) (cA : Nat) (R : List Rw) (proc index : Int) (w : World) (hs : LinSeg w A R) (hn : R.length ≤ 1000) :
    Calls Try.prog 15 #[.slice A R.length cA, .int .i64 proc, .int .i64 index] w (IPost (pastL (evsL R) proc index) w) := by
  by_cases h1 : proc < 0
  · have HN : Hid (pastL (evsL R) proc index = []) := pastL_none (by omega)
    have d1 : decide (proc < 0) = true := decide_eq_true h1
    go_enter Try.func15, Try.ntmps15
    go_wp2_with fail
    go_ret
    exact ⟨none, 0, by rw [HN.out]; rfl, by rw [HN.out]; exact Seg.nil, by rw [HN.out]; exact Nat.le_refl _, by unfold maxLen; omega, Ext.refl w⟩
  have d1 : decide (proc < 0) = false := decide_eq_false h1
  by_cases h2 : (R.length : Int) ≤ proc
  · have HN : Hid (pastL (evsL R) proc index = []) := pastL_none (by rw [evsL_len]; omega)
    have d2 : decide ((R.length : Int) ≤ proc) = true := decide_eq_true h2
    go_enter Try.func15, Try.ntmps15
    go_wp2_with fail
    go_ret
    exact ⟨none, 0, by rw [HN.out]; rfl, by rw [HN.out]; exact Seg.nil, by rw [HN.out]; exact Nat.le_refl _, by unfold maxLen; omega, Ext.refl w⟩
  obtain ⟨p, rfl⟩ : ∃ p : Nat, proc = p := ⟨proc.toNat, by omega⟩
  have d2 : decide ((R.length : Int) ≤ (p : Int)) = false := decide_eq_false h2
  have hp : p < R.length := by omega
  by_cases h3 : index < 0
  · have HN : Hid (pastL (evsL R) p index = []) := pastL_none (by omega)
    have d3 : decide (index < 0) = true := decide_eq_true h3
    go_enter Try.func15, Try.ntmps15
    go_wp2_with fail
    go_ret
    exact ⟨none, 0, by rw [HN.out]; rfl, by rw [HN.out]; exact Seg.nil, by rw [HN.out]; exact Nat.le_refl _, by unfold maxLen; omega, Ext.refl w⟩
  have d3 : decide (index < 0) = false := decide_eq_false h3
  obtain ⟨bl, ol, rfl, pr⟩ := hs.at_ hp
  have hrow := evsL_row hp
  have hpI0 : (0 : Int) ≤ (p : Int) := by omega
  have hpI1 : (p : Int) < (R.length : Int) := by omega
  by_cases h4 : ((R[p]).es.length : Int) < index
  · have HN : Hid (pastL (evsL R) p index = []) := pastL_none (by rw [show ((p : Int)).toNat = p by omega, hrow]; omega)
    have d4 : decide (((R[p]).es.length : Int) < index) = true := decide_eq_true h4
    clear hrow
    generalize R[p] = r at *
    go_enter Try.func15, Try.ntmps15
    go_wp2_with fail
    go_ret
    exact ⟨none, 0, by rw [HN.out]; rfl, by rw [HN.out]; exact Seg.nil, by rw [HN.out]; exact Nat.le_refl _, by unfold maxLen; omega, Ext.refl w⟩
  have d4 : decide (((R[p]).es.length : Int) < index) = false := decide_eq_false h4
  have HPS : Hid (∀ r, IsPast (evsL R) p index r → pastL (evsL R) p index = r.getD []) := fun r hr => pastL_some (by rw [evsL_len]; exact hp) (by omega) (by rw [hrow]; omega) hr
  have HS0 : Hid (SInv (evsL R) p index ((List.replicate R.length 0).set p index) (List.replicate R.length 0)) := by
    have := SInv.start (L := evsL R) (p := p) (i := index) (by rw [evsL_len]; exact hp) (by omega) (by rw [hrow]; omega)
    rw [evsL_len] at this
    exact this
  have hLl := evsL_len R
  obtain ⟨L, hL⟩ : ∃ L, evsL R = L := ⟨_, rfl⟩
  have HL := Lib.hid hL
  rw [hL] at HPS HS0 hLl ⊢
  have HLL := Lib.hid hLl
  clear hL hrow hLl
  obtain ⟨res, hres⟩ : ∃ res, pastL L p index = res := ⟨_, rfl⟩
  rw [hres] at HPS ⊢
  clear hres
  -- the two lists
  have hmk1 := mk_ints R.length hn w
  have hv1 : VecB (w.alloc (.cells ((List.replicate R.length (0 : Int)).flatMap Iv).toArray 3)) w.heap.size (List.replicate R.length 0) := Blk.new w _ _
  have hc1 := hv1.at_ (q := p) (by rw [List.length_replicate]; exact hp)
  rw [elX_rep] at hc1
  have hf1 := hv1.frz p
  have hX1 := (Ext.refl w).allocs (.cells ((List.replicate R.length (0 : Int)).flatMap Iv).toArray 3)
  have hz1 : (w.alloc (.cells ((List.replicate R.length (0 : Int)).flatMap Iv).toArray 3)).heap.size = w.heap.size + 1 := by simp
  obtain ⟨w1, hw1⟩ : ∃ w1, w.alloc (.cells ((List.replicate R.length (0 : Int)).flatMap Iv).toArray 3) = w1 := ⟨_, rfl⟩
  rw [hw1] at hmk1 hv1 hc1 hf1 hX1 hz1
  clear hw1
  have hv2 := hv1.set (q := p) (by rw [List.length_replicate]; exact hp) index
  have hX2 : Ext w (w1.setCell ⟨w.heap.size, p, none⟩ (.int .i64 index)) := hX1.set (Nat.le_refl _) _
  have hz2 : (w1.setCell ⟨w.heap.size, p, none⟩ (.int .i64 index)).heap.size = w.heap.size + 1 := by rw [← hz1]; simp [World.setCell]
  obtain ⟨w2, hw2⟩ : ∃ w2, w1.setCell ⟨w.heap.size, p, none⟩ (.int .i64 index) = w2 := ⟨_, rfl⟩
  have HW2 := Lib.hid hw2
  rw [hw2] at hv2 hX2 hz2
  clear hw2
  have hmk2 := mk_ints R.length hn w2
  rw [hz2] at hmk2
  have hX3 := (Ext.refl w2).allocs (.cells ((List.replicate R.length (0 : Int)).flatMap Iv).toArray 3)
  have hv3 : VecB (w2.alloc (.cells ((List.replicate R.length (0 : Int)).flatMap Iv).toArray 3)) (w.heap.size + 1) (List.replicate R.length 0) := by rw [← hz2]; exact Blk.new w2 _ _
  have hM0 := PMem.mk (hX2.trans hX3) (hv2.ext hX3) hv3
  obtain ⟨w3, hw3⟩ : ∃ w3, w2.alloc (.cells ((List.replicate R.length (0 : Int)).flatMap Iv).toArray 3) = w3 := ⟨_, rfl⟩
  rw [hw3] at hmk2 hM0
  clear hw3 hv1 hv2 hv3 hX1 hX2 hX3 hz1 hz2
  have HM0 := Lib.hid hM0
  clear hM0
  generalize R[p] = r at *
  go_enter Try.func15, Try.ntmps15
  go_upto_region 5 with fail
  rw [HW2.out]
  go_upto_region 6 with fail
  have HSL := Lib.hid hs
  clear hs pr hmk1 hmk2 hc1 hf1 d1 d2 d3 d4 HW2
  go_loopg [] (totX L (List.replicate R.length 0)) (fun g wr => P1Rel L p index w w.heap.size (w.heap.size + 1) g wr)
  case atStart => exact ⟨_, _, rfl, HS0.out, HM0.out⟩
  case round =>
    clear HM0 HS0
    obtain ⟨X, S, rfl, HI, hM⟩ := hrel
    have HXL : Hid (X.length = R.length) := by show _ = _; rw [HI.out.inv.len, HLL.out]
    have HSLn : Hid (S.length = R.length) := by show _ = _; rw [HI.out.len, HLL.out]
    have HEQ := Lib.hid (equal_any (some ⟨w.heap.size + 1, 0, none⟩) (some ⟨w.heap.size, 0, none⟩) R.length R.length R.length S X wr hM.s.seg hM.x.seg HSLn.out HXL.out hn)
    by_cases hSX : S = X
    · rw [decide_eq_true hSX] at HEQ
      have HRES : Hid (res = X) := HPS.out (some X) (by have := HI.out; rw [hSX] at this; exact this.stop)
      clear hSX
      go_wp2_with fail
      refine HEQ.out.mono ?_
      rintro e w' ⟨rfl, q0, rfl⟩
      go_wp2_with fail
      go_ret
      exact ⟨some ⟨w.heap.size, 0, none⟩, R.length, by rw [HRES.out, HXL.out]; rfl, by rw [HRES.out]; exact (hM.x.seg).drewN q0, by rw [HRES.out, HXL.out]; exact Nat.le_refl _, by unfold maxLen; omega, hM.ext.drewN q0⟩
    · rw [decide_eq_false hSX] at HEQ
      have HNE := Lib.hid hSX
      clear hSX
      go_wp2_with fail
      refine HEQ.out.mono ?_
      rintro e w' ⟨rfl, q0, rfl⟩
      have hM1 := hM.post (Ext.drewn wr q0)
      generalize wr.drewN q0 = wr1 at *
      clear HEQ hM
      have HM1 := Lib.hid hM1
      clear hM1
      go_wp2_with fail
      go_loopg [50] R.length (fun g iv w' => P2Rel R.length L p index w w.heap.size (w.heap.size + 1) X S g iv w')
      case atStart => exact ⟨0, X, S, Nat.zero_le _, rfl, rfl, HM1.out, (⟨HI.out, LeX.refl _ _, LeX.refl _ _, fun q' h => absurd h (Nat.not_lt_zero _)⟩ : _ ∧ _)⟩
      case round =>
        clear HM1
        obtain ⟨q, X2, S2, hq, rfl, rfl, hM2, HI2⟩ := hrel
        by_cases hlt : q < R.length
        · have hL2 : q < L.length := by rw [HLL.out]; exact hlt
          have HQL := Lib.hid hL2
          have HXL2 : Hid (X2.length = R.length) := by show _ = _; rw [HI2.out.1.inv.len, HLL.out]
          have HSL2 : Hid (S2.length = R.length) := by show _ = _; rw [HI2.out.1.len, HLL.out]
          have hsw := HSL.out.ext hM2.ext
          have pr := hsw.cell hlt
          obtain ⟨hr, hrc, hrm⟩ := hsw.row hlt
          unfold maxLen at hrm
          have hrow : rowL L q = (R[q]).es := by rw [← HL.out]; exact evsL_row hlt
          have hb1 := HI2.out.1.lo q hL2
          have hb2 := HI2.out.1.le q hL2
          have hb3 := HI2.out.1.inv.hi q hL2
          rw [hrow] at hb3
          have HROW := Lib.hid hrow
          clear hrow hL2 hsw
          have hcs := hM2.s.at_ (q := q) (by rw [HSL2.out]; exact hlt)
          have hcx := hM2.x.at_ (q := q) (by rw [HXL2.out]; exact hlt)
          obtain ⟨lo, hlo⟩ : ∃ lo : Nat, elX S2 q = lo := ⟨(elX S2 q).toNat, by omega⟩
          obtain ⟨hi, hhi⟩ : ∃ hi : Nat, elX X2 q = hi := ⟨(elX X2 q).toNat, by omega⟩
          rw [hlo] at hcs hb1 hb2
          rw [hhi] at hcx hb2 hb3
          have HLO := Lib.hid hlo
          have HHI := Lib.hid hhi
          clear hlo hhi
          have hlh : lo ≤ hi := by omega
          have hcut := fun w => run_cut w (R[q]).A (R[q]).es.length (R[q]).c lo hi (lo : Int) (hi : Int) rfl rfl hlh (by omega)
          have hseg := fun (W : World) (hE : Ext w W) => ev_cut ((HSL.out.ext hE).row hlt).1 (R[q]).c lo hi hlh (by omega) hrc
          have hes3 : ∀ j, j < hi - lo → (rowL L q)[lo + j]? = (((R[q]).es.drop lo).take (hi - lo))[j]? := fun j hj => by
            rw [HROW.out, List.getElem?_take_of_lt hj, List.getElem?_drop]
          have hm3 : (((R[q]).es.drop lo).take (hi - lo)).length = hi - lo := by rw [List.length_take, List.length_drop]; omega
          have HSEG := Lib.hid hseg
          clear hseg hr
          generalize R[q] = r at *
          generalize (if r.c = lo then r.A else r.A.map (·.add (lo * 7))) = A3 at *
          generalize (r.es.drop lo).take (hi - lo) = es3 at *
          have HM3 := Lib.hid hm3
          have HES3 := Lib.hid hes3
          clear hm3 hes3
          have hq0 : (0 : Int) ≤ (q : Int) := by omega
          have hq1 : (q : Int) < (R.length : Int) := by omega
          go_wp2_with fail
          go_quiet (fail)
          have HM3w := Lib.hid (hM2.post (Ext.drewn wr nq))
          generalize wr.drewN nq = wr3 at *
          clear hM2 hcs hcx pr hcut
          go_wp2_with fail
          go_loopg [66] (hi - lo) (fun g iv w' => P3Rel L p index w w.heap.size (w.heap.size + 1) X2 S2 q lo (hi - lo) g iv w')
          case atStart => exact ⟨0, X2, Nat.zero_le _, rfl, rfl, HM3w.out, (⟨HI2.out.1, LeX.refl _ _, rfl, fun k h1 h2 => absurd h2 (by omega)⟩ : _ ∧ _)⟩
          case round =>
            clear HM3w
            obtain ⟨j, X3, hj, rfl, rfl, hM4, HI3⟩ := hrel
            by_cases hjl : j < hi - lo
            · have hj3 : j < es3.length := by rw [HM3.out]; exact hjl
              obtain ⟨b3, o3, rfl, p0, p1, p2, p3, p4, p5, p6⟩ := Ev.at_ (HSEG.out wr hM4.ext) hj3
              have HE : Hid ((rowL L q)[lo + j]? = some es3[j]) := by show _ = _; rw [HES3.out j hjl, List.getElem?_eq_getElem hj3]
              have HKX : Hid (((lo + j : Nat) : Int) < elX X3 q) := by show _ < _; rw [HI3.out.2.2.1, HHI.out]; omega
              generalize es3[j] = e at *
              have hjI : (j : Int) < ((hi - lo : Nat) : Int) := by omega
              have hj0 : (0 : Int) ≤ (j : Int) := by omega
              by_cases hk : e.kind = 1
              · have hk' : (e.kind != 1) = false := by simp [hk]
                have HK := Lib.hid hk
                clear hk
                have hM5 := hM4.post ((Ext.refl wr).allocs (.cells e.cells.toArray 61))
                have hB5 := Blk.new wr 61 e.cells.toArray
                obtain ⟨gb, hgb⟩ : ∃ gb, wr.heap.size = gb := ⟨_, rfl⟩
                obtain ⟨wb, hwb⟩ : ∃ wb, wr.alloc (.cells e.cells.toArray 61) = wb := ⟨_, rfl⟩
                rw [hwb] at hM5 hB5
                rw [hgb] at hB5
                have HWB := Lib.hid hwb
                have HGB := Lib.hid hgb
                clear hwb hgb hM4
                have hSN := sent_any (some ⟨bl, ol, none⟩) cA R (q : Int) e wb (HSL.out.ext hM5.ext) hn
                have hsb : (decide (0 ≤ e.frm) && (decide (e.frm < (R.length : Int)) && ((e.frm != (q : Int)) && labB (rowL (evsL R) e.frm.toNat) e.sinc e.sidx))) = sentB L q e := by
                  unfold sentB; rw [← HL.out, evsL_len]
                rw [hsb] at hSN
                have HSN := Lib.hid hSN
                clear hSN hsb
                rcases hsv : sentB L q e with _ | _
                · rw [hsv] at HSN
                  have HRES : Hid (res = []) := HPS.out none (pinv_bad HI3.out.1.inv HQL.out HKX.out HE.out HK.out hsv)
                  clear hsv
                  go_wp2_with fail
                  have e1 := HWB.out
                  unfold Ev.cells at e1
                  rw [e1]
                  clear e1
                  refine HSN.out.mono ?_
                  rintro e' w6 ⟨rfl, hE6⟩
                  go_wp2_with fail
                  go_ret
                  exact ⟨none, 0, by rw [HRES.out]; rfl, by rw [HRES.out]; exact Seg.nil, by rw [HRES.out]; exact Nat.le_refl _, by unfold maxLen; omega, hM5.ext.trans hE6⟩
                · rw [hsv] at HSN
                  have hsp := sentB_spec hsv
                  rw [HLL.out] at hsp
                  obtain ⟨s1, s2, s3, s4, s5⟩ := hsp
                  have HSTEP := Lib.hid (HI3.out.1.step HQL.out HKX.out HE.out HK.out hsv)
                  clear hsv s3 s4 s5
                  have HXL3 : Hid (X3.length = R.length) := by show _ = _; rw [HI3.out.1.inv.len, HLL.out]
                  have hf0 : e.frm < (R.length : Int) := by omega
                  go_wp2_with fail
                  have e1 := HWB.out
                  unfold Ev.cells at e1
                  rw [e1, HGB.out]
                  clear e1
                  refine HSN.out.mono ?_
                  rintro e' w6 ⟨rfl, hE6⟩
                  have hM6 := hM5.post hE6
                  have hB6 := hB5.ext hE6
                  have hcx := hM6.x.at_ (q := e.frm.toNat) (by rw [HXL3.out]; exact s2)
                  have hfx := hM6.x.frz e.frm.toNat
                  obtain ⟨c0, c1, c2, c3, c4, c5, c6⟩ := ev7 hB6
                  have HM6 := Lib.hid hM6
                  clear hM6 hB6 hB5 hM5 HSN HWB HGB p0 p1 p2 p3 p4 p5 p6
                  go_wp2_with fail
                  go_region
                  have hmx : (if elX X3 e.frm.toNat < e.sidx then e.sidx else elX X3 e.frm.toNat) = max (elX X3 e.frm.toNat) e.sidx := by split <;> omega
                  rw [hmx]
                  clear hmx
                  have HM7 := Lib.hid ((HM6.out.setX (Nat.le_refl _) (Nat.lt_succ_self _) (q := e.frm.toNat) (by rw [HXL3.out]; exact s2) (max (elX X3 e.frm.toNat) e.sidx)).post (Below.drew (Ext.refl _)))
                  clear hcx hfx c0 c1 c2 c3 c4 c5 c6
                  go_wp2_with fail
                  go_roundg (hi - lo - (j + 1))
                  case measure => omega
                  case rel => exact ⟨j + 1, _, by omega, by go_num, rfl, HM7.out, (⟨HSTEP.out.1, HI3.out.2.1.trans HSTEP.out.2.1, HSTEP.out.2.2.1.trans HI3.out.2.2.1, fun k h1 h2 => by
                    have h2' : k < lo + (j + 1) := h2
                    by_cases e : k = lo + j
                    · subst e; exact HSTEP.out.2.2.2
                    · exact (HI3.out.2.2.2 k h1 (by omega)).mono HSTEP.out.2.1⟩ : _ ∧ _)⟩
              · have hk' : (e.kind != 1) = true := by simp [hk]
                have HK := Lib.hid hk
                clear hk
                have HM5 := Lib.hid (hM4.post ((Ext.refl wr).allocs (.cells e.cells.toArray 61)))
                clear hM4
                go_wp2_with fail
                go_roundg (hi - lo - (j + 1))
                case measure => omega
                case rel => exact ⟨j + 1, X3, by omega, by go_num, rfl, HM5.out, (⟨HI3.out.1, HI3.out.2.1, HI3.out.2.2.1, fun k h1 h2 => by
                  have h2' : k < lo + (j + 1) := h2
                  by_cases e : k = lo + j
                  · subst e; exact handled_skip HE.out HK.out
                  · exact HI3.out.2.2.2 k h1 (by omega)⟩ : _ ∧ _)⟩
            · obtain rfl : j = hi - lo := by omega
              have HXL3 : Hid (X3.length = R.length) := by show _ = _; rw [HI3.out.1.inv.len, HLL.out]
              have hcs := hM4.s.at_ (q := q) (by rw [HSL2.out]; exact hlt)
              have hcx := hM4.x.at_ (q := q) (by rw [HXL3.out]; exact hlt)
              have hfs := hM4.s.frz q
              have HM4 := Lib.hid hM4
              clear hM4
              go_wp2_with fail
              go_region
              have hmx : (if elX S2 q < elX X3 q then elX X3 q else elX S2 q) = max (elX S2 q) (elX X3 q) := by split <;> omega
              rw [hmx]
              clear hmx hcs hcx hfs
              have HNX := Lib.hid (HI3.out.1.next HQL.out (fun k h1 h2 => HI3.out.2.2.2 k (by rw [HLO.out] at h1; omega) (by rw [HI3.out.2.2.1, HHI.out] at h2; omega)))
              have HM5 := Lib.hid ((HM4.out.setS (Nat.le_refl _) (Nat.lt_succ_self _) (q := q) (by rw [HSL2.out]; exact hlt) (max (elX S2 q) (elX X3 q))).post (Below.drew (Ext.refl _)))
              go_wp2_with fail
              go_roundg (R.length - (q + 1))
              case measure => omega
              case rel => exact ⟨q + 1, X3, _, by omega, by go_num, rfl, HM5.out, (⟨HNX.out.1, HI2.out.2.1.trans HNX.out.2.2, HI2.out.2.2.1.trans HI3.out.2.1, fun q' hq' => by
                by_cases e : q' = q
                · subst e
                  rw [HNX.out.2.1, HI3.out.2.2.1]
                  exact HI2.out.2.2.1 _ HQL.out
                · exact Int.le_trans (HI2.out.2.2.2 q' (by omega)) (HNX.out.2.2 q' (by rw [HLL.out]; omega))⟩ : _ ∧ _)⟩
        · obtain rfl : q = R.length := by omega
          have HLT : Hid (totX L S2 < totX L S) := SInv.pass HI.out HI2.out.1 HI2.out.2.1 (fun q hq => HI2.out.2.2.2 q (by rw [HLL.out] at hq; exact hq)) HNE.out
          have HM2 := Lib.hid hM2
          clear hM2
          go_wp2_with fail
          go_roundg (totX L S2)
          case measure => exact HLT.out
          case rel => exact ⟨X2, S2, rfl, HI2.out.1, HM2.out⟩
end Go.Proofs.Ytcljdkjlfciacaa
