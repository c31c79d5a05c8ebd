/- past of the law. No statement of the seat is proved here. -/
import Derived.Test.YtfnnoncdocghjaaScene28
namespace Go.Proofs.Ytfnnoncdocghjaa
open Go.RowKit
set_option linter.unusedVariables false
set_option maxRecDepth 100000

/-- what is left to grow -/
def lefts (X : List Nat) : Nat := (X.map fun x => 64 - x).sum
theorem lefts_set : ∀ (X : List Nat) (g t : Nat), g < X.length → X.getD g 0 < t → t ≤ 64 → lefts (X.set g t) < lefts X
  | [], g, t, h, _, _ => by cases h
  | x :: X, 0, t, _, h1, h2 => by
    have h3 : x < t := h1
    unfold lefts
    simp only [List.set_cons_zero, List.map_cons, List.sum_cons]
    omega
  | x :: X, g + 1, t, h, h1, h2 => by
    have h3 := lefts_set X g t (by simpa using h) (by simpa using h1) h2
    unfold lefts at *
    simp only [List.set_cons_succ, List.map_cons, List.sum_cons]
    omega
structure PI (E : List (List Ev)) (p N : Nat) (X : List Nat) : Prop where
  l : X.length = N
  b : ∀ q, q < N → X.getD q 0 ≤ (E.getD q []).length
  p : ∀ q, q < N → 0 < X.getD q 0 → Pst E p (E.getD p []).length q (X.getD q 0)
theorem set_getD (X : List Nat) (i j x : Nat) (hi : i < X.length) : (X.set i x).getD j 0 = if i = j then x else X.getD j 0 := by
  rw [List.getD_eq_getElem?_getD, List.getD_eq_getElem?_getD, List.getElem?_set]
  split
  · rename_i h; subst h; first | rfl | (rw [if_pos hi]; rfl)
  · rfl
theorem PI.start {E : List (List Ev)} {p N : Nat} (hp : p < N) : PI E p N ((List.replicate N 0).set p (E.getD p []).length) := by
  have hg : ∀ q, ((List.replicate N 0).set p (E.getD p []).length).getD q 0 = if p = q then (E.getD p []).length else 0 := fun q => by
    rw [set_getD _ _ _ _ (by simpa using hp)]
    split
    · rfl
    · rw [List.getD_eq_getElem?_getD, List.getElem?_replicate]; split <;> rfl
  refine ⟨by simp, fun q hq => ?_, fun q hq h0 => ?_⟩
  · rw [hg]; split
    · rename_i e; subst e; exact Nat.le_refl _
    · exact Nat.zero_le _
  · rw [hg] at h0 ⊢
    split
    · rename_i e; subst e; exact .own _ (Nat.le_refl _)
    · rename_i e; rw [if_neg e] at h0; omega
theorem PI.step {E : List (List Ev)} {p N : Nat} {X : List Nat} (h : PI E p N X) {q k g t : Nat} {e : Ev} (hq : q < N) (hk : k < X.getD q 0) (he : (E.getD q [])[k]? = some e) (hf : e.frm = g) (hs : e.sidx = t) (hg : g < N) (ht : t ≤ (E.getD g []).length) : PI E p N (X.set g t) := by
  have hgd : ∀ j, (X.set g t).getD j 0 = if g = j then t else X.getD j 0 := fun j => set_getD _ _ _ _ (by rw [h.l]; exact hg)
  refine ⟨by simp [h.l], fun j hj => ?_, fun j hj h0 => ?_⟩
  · rw [hgd]; split
    · rename_i e'; subst e'; exact ht
    · exact h.b j hj
  · rw [hgd] at h0 ⊢
    split
    · rename_i e'
      subst e'
      have h1 := h.p q hq (by omega)
      have h2 := Pst.arc q _ k t e h1 hk he (by rw [hs, Int.toNat_natCast]; exact Nat.le_refl _)
      rw [hf, Int.toNat_natCast] at h2
      exact h2
    · rename_i e'
      rw [if_neg e'] at h0
      exact h.p j hj h0
theorem nv_cell {W : World} {g : Nat} {X : List Nat} (h : Blk W g 3 (X.flatMap Nv).toArray) {q : Nat} (hq : q < X.length) : W.cell? ⟨g, q, none⟩ = some (.int .i64 (X.getD q 0)) := by
  have h1 : X[q]? = some (X.getD q 0) := by rw [List.getD_eq_getElem?_getD, List.getElem?_eq_getElem hq]; rfl
  have := Blk.tabAt h Nv.len h1 (j := 0) (by omega) (u := .int .i64 (X.getD q 0)) rfl
  simpa using this
theorem nv_set {W : World} {g : Nat} {X : List Nat} (h : Blk W g 3 (X.flatMap Nv).toArray) {q : Nat} (hq : q < X.length) (x : Nat) : Blk (W.setCell ⟨g, q, none⟩ (.int .i64 x)) g 3 ((X.set q x).flatMap Nv).toArray := by
  have := Blk.setAt h (f := Nv) (s := 1) (by omega) Nv.len (j := q) hq x
  simpa [World.setCells, Nv] using this
def PmRel (w2 : World) (gx N p : Nat) (E : List (List Ev)) (gg : Nat) (mv : Value) (wr : World) : Prop := ∃ (X : List Nat) (b : Bool), mv = .bool b ∧ gg = (if b then lefts X + 1 else 0) ∧ Ext w2 wr ∧ Blk wr gx 3 (X.flatMap Nv).toArray ∧ PI E p N X
def PqRel (w2 : World) (gx N p : Nat) (E : List (List Ev)) (M : Nat) (gg : Nat) (mv qv : Value) (wr : World) : Prop := ∃ (q : Nat) (X : List Nat) (b : Bool), q ≤ N ∧ qv = .int .i64 q ∧ mv = .bool b ∧ gg = N - q ∧ Ext w2 wr ∧ Blk wr gx 3 (X.flatMap Nv).toArray ∧ PI E p N X ∧ (b = true → lefts X < M) ∧ lefts X ≤ M
def PkRel (w2 : World) (gx N p : Nat) (E : List (List Ev)) (M q xq : Nat) (gg : Nat) (mv kv : Value) (wr : World) : Prop := ∃ (k : Nat) (X : List Nat) (b : Bool), k ≤ xq ∧ kv = .int .i64 k ∧ mv = .bool b ∧ gg = xq - k ∧ Ext w2 wr ∧ Blk wr gx 3 (X.flatMap Nv).toArray ∧ PI E p N X ∧ X.getD q 0 = xq ∧ (b = true → lefts X < M) ∧ lefts X ≤ M
def PsPost (w : World) (N p : Nat) (E : List (List Ev)) (e : Ending) (w' : World) : Prop := ∃ (gx : Nat) (X : List Nat), e = .returned (.slice (some ⟨gx, 0, none⟩) N N) ∧ Blk w' gx 3 (X.flatMap Nv).toArray ∧ PI E p N X ∧ Ext w w'
set_option maxHeartbeats 6400000 in
theorem past_any (b1 o1 : Nat) (A2 : Option Addr) (c1 c2 N : Nat) (R : List (Gr Ev)) (E : List (List Ev)) (p : Nat) (w : World) (hR : GSeg Ev.cells 7 w (some ⟨b1, o1, none⟩) R) (hN : R.length = N) (hN4 : N ≤ 4) (hp : p < N) (hRE : ∀ q (hq : q < R.length), E.getD q [] = R[q].l)
    (hW : ∀ q, ∀ e ∈ E.getD q [], e.kind = 1 ∧ ∃ g t : Nat, e.frm = g ∧ e.sidx = t ∧ g < N ∧ g ≠ q ∧ t ≤ (E.getD g []).length) (hel : ∀ q (hq : q < R.length), R[q].l.length ≤ 64) :
    Calls Try.prog 30 #[.agg #[.slice (some ⟨b1, o1, none⟩) N c1, .slice A2 N c2], .int .i64 p] w (PsPost w N p E) := by
  have hX : Ext w (w.alloc (.cells #[.slice (some ⟨b1, o1, none⟩) N c1, .slice A2 N c2] 50)) := (Ext.refl w).allocs _
  have hBA : Blk (w.alloc (.cells #[.slice (some ⟨b1, o1, none⟩) N c1, .slice A2 N c2] 50)) w.heap.size 50 #[.slice (some ⟨b1, o1, none⟩) N c1, .slice A2 N c2] := Blk.new w _ _
  have HR := Lib.hid (hR.ext hX)
  have HX := Lib.hid hX
  have HW := Lib.hid hW
  have HEL := Lib.hid hel
  have HRE := Lib.hid hRE
  have HN := Lib.hid hN
  have hpR : p < R.length := by omega
  clear hR hX hW hel hRE hN
  go_enter Try.func30, Try.ntmps30
  go_upto_region 1 with fail
  obtain ⟨w1, hw1⟩ : ∃ w1, w.alloc (.cells #[.slice (some ⟨b1, o1, none⟩) N c1, .slice A2 N c2] 50) = w1 := ⟨_, rfl⟩
  obtain ⟨gA, hgA⟩ : ∃ gA, w.heap.size = gA := ⟨_, rfl⟩
  rw [hw1] at hBA HR HX ⊢
  rw [hgA] at hBA ⊢
  clear hw1 hgA
  have HBA := Lib.hid hBA
  obtain ⟨z0, z1⟩ := (blk2 hBA).1
  have hmk := mk_ints N (by omega) w1
  have hBX : Blk (w1.alloc (.cells ((List.replicate N 0).flatMap Nv).toArray 3)) w1.heap.size 3 ((List.replicate N 0).flatMap Nv).toArray := Blk.new w1 _ _
  have hX1 : Ext w1 (w1.alloc (.cells ((List.replicate N 0).flatMap Nv).toArray 3)) := (Ext.refl w1).allocs _
  have HR2 : Hid (∀ q (hq : q < R.length) W', Ext w1 W' → W'.cell? ⟨b1, o1 + q, none⟩ = some (.slice R[q].A R[q].l.length R[q].c)) := fun q hq W' hW => by
    obtain ⟨b, o, hA, hc⟩ := (HR.out.ext hW).at_ hq
    injection hA with hA
    injection hA with e1 e2
    subst e1 e2
    exact hc
  obtain ⟨gx, hgx⟩ : ∃ gx, w1.heap.size = gx := ⟨_, rfl⟩
  have HGX : Hid (w1.heap.size ≤ gx) := by show _ ≤ _; omega
  obtain ⟨w3, hw3⟩ : ∃ w3, w1.alloc (.cells ((List.replicate N 0).flatMap Nv).toArray 3) = w3 := ⟨_, rfl⟩
  rw [hw3] at hmk hBX hX1
  rw [hgx] at hmk hBX
  have hlp := HEL.out p hpR
  have q0 := HR2.out p hpR w3 hX1
  have hE0 := HRE.out p hpR
  have HST := Lib.hid (PI.start (E := E) (p := p) (N := N) hp)
  have hBX2 := nv_set hBX (q := p) (by simpa using hp) (E.getD p []).length
  rw [hE0] at hBX2 HST
  obtain ⟨xl, hxl⟩ : ∃ xl, R[p].l.length = xl := ⟨_, rfl⟩
  rw [hxl] at hBX2 HST hlp q0
  have hX2 : Ext w1 (w3.setCell ⟨gx, p, none⟩ (.int .i64 xl)) := hX1.set (by omega) _
  have hfz : w3.frozen? ⟨gx, p, none⟩ = false := hBX.frozen p
  have hcx : w3.cell? ⟨gx, p, none⟩ = some (.int .i64 0) := by
    have := nv_cell hBX (q := p) (by simpa using hp)
    rw [List.getD_eq_getElem?_getD, List.getElem?_replicate] at this
    simpa [hp] using this
  obtain ⟨z2, z3⟩ := (blk2 (Blk.ext HBA.out hX1)).1
  have hp0 : (0 : Int) ≤ (p : Int) := by omega
  have hp1 : (p : Int) < (N : Int) := by omega
  have hN4' : (N : Int) ≤ 4 := by omega
  generalize R[p].A = xa at q0
  generalize R[p].c = xc at q0
  have HBX := Lib.hid hBX2
  have HX2 := Lib.hid hX2
  clear hBX hBX2 hX2 hE0 hxl hgx hw3 hX1
  go_wp2_with fail
  go_loopg [6] (lefts ((List.replicate N 0).set p xl) + 1) (fun gg mv wr => PmRel w1 gx N p E gg mv wr)
  case atStart => exact ⟨_, true, rfl, rfl, HX2.out, HBX.out, HST.out⟩
  case round =>
    obtain ⟨X, b, rfl, rfl, hE, hB, hPI⟩ := hrel
    rename World => wm
    cases b with
    | false =>
      have HE := Lib.hid hE
      have HB := Lib.hid hB
      clear hE hB
      go_wp2_with fail
      go_ret
      exact ⟨gx, X, rfl, HB.out, hPI, Ext.trans HX.out HE.out⟩
    | true =>
      have HE := Lib.hid hE
      have HB := Lib.hid hB
      have HPI := Lib.hid hPI
      clear hE hB hPI z0 z1 z2 z3 q0 hfz hcx hmk
      go_wp2_with fail
      go_loopg [6, 7] N (fun gg mv qv wr => PqRel w1 gx N p E (lefts X) gg mv qv wr)
      case atStart => exact ⟨0, X, false, Nat.zero_le _, rfl, rfl, rfl, HE.out, HB.out, HPI.out, (fun h => by cases h), Nat.le_refl _⟩
      case round =>
        obtain ⟨q, Y, bq, hq, rfl, rfl, rfl, hEq, hBq, hPq, hbq, hlq⟩ := hrel
        rename World => wq
        have HEQ := Lib.hid hEq
        have HBQ := Lib.hid hBq
        have HPQ := Lib.hid hPq
        have HBB := Lib.hid hbq
        have HLQ := Lib.hid hlq
        clear hEq hBq hPq hbq hlq
        by_cases hql : q < N
        · have hq0 : (0 : Int) ≤ (q : Int) := by omega
          have hq1 : (q : Int) < (N : Int) := by omega
          have hqR : q < R.length := by rw [HN.out]; exact hql
          have hew := HW.out q
          have hqb := HPQ.out.b q hql
          have hqe := HEL.out q hqR
          rw [HRE.out q hqR] at hew hqb
          have HC2 := Lib.hid (HR2.out q hqR)
          have HRW := Lib.hid ((HR.out.row hqR).1)
          obtain ⟨ya, hya⟩ : ∃ ya, R[q].A = ya := ⟨_, rfl⟩
          obtain ⟨yc, hyc⟩ : ∃ yc, R[q].c = yc := ⟨_, rfl⟩
          obtain ⟨yl, hyl⟩ : ∃ yl, R[q].l = yl := ⟨_, rfl⟩
          have hEq : E.getD q [] = yl := by rw [HRE.out q hqR]; exact hyl
          rw [hya, hyl] at HRW
          rw [hya, hyl, hyc] at HC2
          rw [hyl] at hew hqb hqe
          have HEQL := Lib.hid hEq
          have HEW := Lib.hid hew
          obtain ⟨xq, hxq⟩ : ∃ xq, Y.getD q 0 = xq := ⟨_, rfl⟩
          rw [hxq] at hqb
          have HXQ := Lib.hid hxq
          clear hya hyc hyl hEq hew hxq
          go_wp2_with fail
          go_loopg [6, 8] xq (fun gg mv kv wr => PkRel w1 gx N p E (lefts X) q xq gg mv kv wr)
          case atStart => exact ⟨0, Y, bq, Nat.zero_le _, rfl, rfl, rfl, HEQ.out, HBQ.out, HPQ.out, HXQ.out, HBB.out, HLQ.out⟩
          case round =>
            obtain ⟨k, Z, bk, hk, rfl, rfl, rfl, hEk, hBk, hPk, hxk, hbk, hlk⟩ := hrel
            rename World => wk
            have c9 := nv_cell hBk (q := q) (by rw [hPk.l]; exact hql)
            rw [hxk] at c9
            have HEK := Lib.hid hEk
            have HBK := Lib.hid hBk
            have HPK := Lib.hid hPk
            have HXK := Lib.hid hxk
            have HBB2 := Lib.hid hbk
            have HLK := Lib.hid hlk
            clear hEk hBk hPk hxk hbk hlk
            by_cases hkl : k < xq
            · have hkl' : (k : Int) < (xq : Int) := by omega
              have hk0 : (0 : Int) ≤ (k : Int) := by omega
              have hky : k < yl.length := by omega
              have hk1 : (k : Int) < (yl.length : Int) := by omega
              obtain ⟨y0, y1⟩ := (blk2 (Blk.ext HBA.out HEK.out)).1
              have y2 := HC2.out wk HEK.out
              obtain ⟨tb, toff, htA, e0, e1, e2, e3, e4, e5, e6⟩ := Ev.at_ (HRW.out.ext HEK.out) hky
              obtain ⟨hkind, gf, tt, hfrm, hsid, hgN, hgq, htl⟩ := HEW.out yl[k] (List.getElem_mem hky)
              have HGE : Hid ((E.getD q [])[k]? = some yl[k]) := by show _ = _; rw [HEQL.out, List.getElem?_eq_getElem hky]
              have HFS : Hid (yl[k].frm = (gf : Int) ∧ yl[k].sidx = (tt : Int) ∧ tt ≤ (E.getD gf []).length ∧ gf ≠ q) := ⟨hfrm, hsid, htl, hgq⟩
              rw [hkind] at e0
              rw [hfrm] at e2
              rw [hsid] at e4
              have hgR : gf < R.length := by rw [HN.out]; exact hgN
              have ht64 : tt ≤ 64 := by rw [HRE.out gf hgR] at htl; have := HEL.out gf hgR; omega
              have hzg := HPK.out.b gf hgN
              have hz64 : Z.getD gf 0 ≤ 64 := by rw [HRE.out gf hgR] at hzg; have := HEL.out gf hgR; omega
              have c8 := nv_cell HBK.out (q := gf) (by rw [HPK.out.l]; exact hgN)
              generalize yl[k].inc = x1 at e1
              generalize yl[k].sinc = x3 at e3
              generalize yl[k].ord = x5 at e5
              generalize yl[k].val = x6 at e6
              obtain ⟨zg, hzg'⟩ : ∃ zg, Z.getD gf 0 = zg := ⟨_, rfl⟩
              rw [hzg'] at c8 hz64
              have HZG := Lib.hid hzg'
              subst htA
              clear hkind hfrm hsid htl hzg hzg' hgq
              have hg0 : (0 : Int) ≤ (gf : Int) := by omega
              have hg1 : (gf : Int) < (N : Int) := by omega
              have hX5 : Ext wk (wk.alloc (.cells #[.int .i64 1, .int .i64 x1, .int .i64 gf, .int .i64 x3, .int .i64 tt, .int .i64 x5, .int .i64 x6] 30)) := (Ext.refl wk).allocs _
              have hBE : Blk (wk.alloc (.cells #[.int .i64 1, .int .i64 x1, .int .i64 gf, .int .i64 x3, .int .i64 tt, .int .i64 x5, .int .i64 x6] 30)) wk.heap.size 30 #[.int .i64 1, .int .i64 x1, .int .i64 gf, .int .i64 x3, .int .i64 tt, .int .i64 x5, .int .i64 x6] := Blk.new wk _ _
              have HB5 := Lib.hid (Blk.ext HBK.out hX5)
              have HE5 := Lib.hid (Ext.trans HEK.out hX5)
              have HBE := Lib.hid hBE
              obtain ⟨⟨f0, f1, f2, f3, f4, f5, f6⟩, -⟩ := blk7 hBE
              have c7 := nv_cell HB5.out (q := gf) (by rw [HPK.out.l]; exact hgN)
              rw [HZG.out] at c7
              clear hX5 hBE c8
              by_cases hgt : zg < tt
              · have hgt' : (zg : Int) < (tt : Int) := by omega
                have dgt : decide ((zg : Int) < (tt : Int)) = true := decide_eq_true hgt'
                go_upto_region 13 with fail
                go_quiet (fail)
                obtain ⟨w6, hw6⟩ : ∃ w6, (wk.alloc (.cells #[.int .i64 1, .int .i64 x1, .int .i64 gf, .int .i64 x3, .int .i64 tt, .int .i64 x5, .int .i64 x6] 30)).drewN nq = w6 := ⟨_, rfl⟩
                have hE6 : Ext (wk.alloc (.cells #[.int .i64 1, .int .i64 x1, .int .i64 gf, .int .i64 x3, .int .i64 tt, .int .i64 x5, .int .i64 x6] 30)) w6 := by rw [← hw6]; exact (Ext.refl _).drewN nq
                rw [hw6]
                clear hw6 f0 f1 f2 f3 f4 f5 f6 c7 c9 e0 e1 e2 e3 e4 e5 e6 y0 y1 y2
                obtain ⟨⟨f0, f1, f2, f3, f4, f5, f6⟩, -⟩ := blk7 (Blk.ext HBE.out hE6)
                have hB6 := Blk.ext HB5.out hE6
                have hgl : gf < Z.length := by rw [HPK.out.l]; exact hgN
                have c7 := nv_cell hB6 (q := gf) hgl
                rw [HZG.out] at c7
                have hfz : w6.frozen? ⟨gx, gf, none⟩ = false := hB6.frozen gf
                have HB7 := Lib.hid (nv_set hB6 (q := gf) hgl tt)
                have HE7 : Hid (Ext w1 (w6.setCell ⟨gx, gf, none⟩ (.int .i64 tt))) := (Ext.trans HE5.out hE6).set HGX.out _
                have HP7 := Lib.hid (HPK.out.step (q := q) (k := k) (g := gf) (t := tt) hql (by rw [HXK.out]; exact hkl) HGE.out HFS.out.1 HFS.out.2.1 hgN HFS.out.2.2.1)
                have HL7 : Hid (lefts (Z.set gf tt) < lefts Z) := lefts_set Z gf tt hgl (by rw [HZG.out]; exact hgt) ht64
                have HX7 : Hid ((Z.set gf tt).getD q 0 = xq) := by show _ = _; rw [set_getD _ _ _ _ hgl, if_neg HFS.out.2.2.2]; exact HXK.out
                clear hB6 hE6
                go_wp2_with fail
                go_roundg (xq - (k + 1))
                case measure => omega
                case rel => exact ⟨k + 1, _, true, by omega, by go_num, rfl, rfl, HE7.out, HB7.out, HP7.out, HX7.out, fun _ => Nat.lt_of_lt_of_le HL7.out HLK.out, Nat.le_trans (Nat.le_of_lt HL7.out) HLK.out⟩
              · have dgt : decide ((zg : Int) < (tt : Int)) = false := decide_eq_false (by omega)
                go_upto_region 13 with fail
                go_quiet (fail)
                go_wp2_with fail
                go_roundg (xq - (k + 1))
                case measure => omega
                case rel => exact ⟨k + 1, Z, bk, by omega, by go_num, rfl, rfl, HE5.out.drewN nq, Blk.ext HB5.out ((Ext.refl _).drewN nq), HPK.out, HXK.out, HBB2.out, HLK.out⟩
            · have hkl' : ¬ (k : Int) < (xq : Int) := by omega
              go_wp2_with fail
              go_roundg (N - (q + 1))
              case measure => omega
              case rel => exact ⟨q + 1, Z, bk, by omega, by go_num, rfl, rfl, HEK.out, HBK.out, HPK.out, HBB2.out, HLK.out⟩
        · have hq1 : ¬ (q : Int) < (N : Int) := by omega
          cases bq with
          | false =>
            go_wp2_with fail
            go_roundg 0
            case measure => simp
            case rel => exact ⟨Y, false, rfl, rfl, HEQ.out, HBQ.out, HPQ.out⟩
          | true =>
            have hlt := HBB.out rfl
            go_wp2_with fail
            go_roundg (lefts Y + 1)
            case measure => simp; exact hlt
            case rel => exact ⟨Y, true, rfl, rfl, HEQ.out, HBQ.out, HPQ.out⟩
end Go.Proofs.Ytfnnoncdocghjaa
