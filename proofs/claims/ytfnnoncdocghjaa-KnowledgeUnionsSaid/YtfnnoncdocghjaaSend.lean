/- process and send of the computation. No statement of the seat is proved here. -/
import Derived.Test.YtfnnoncdocghjaaCmpMem
import Derived.Test.YtfnnoncdocghjaaSched2
import Derived.Deep.DeepCutAuto
namespace Go.Proofs.Ytfnnoncdocghjaa
open Go.RowKit
set_option linter.unusedVariables false
set_option maxRecDepth 100000

set_option maxHeartbeats 800000 in
theorem process_any (W : World) (base g n : Nat) (f : Int) (p : Cp) (h : CpM W base g n f p) (q : Int) (hn : n ≤ 5) :
    Calls Try.prog 51 #[.pointer (some ⟨g, 0, none⟩), .int .i64 q] W (fun e w' => e = .returned (.bool (okProc n q)) ∧ w' = W) := by
  obtain ⟨-, -, -, c3, -⟩ := h.cells
  clear h
  by_cases h0 : 0 ≤ q
  · by_cases h1 : q < n
    · have HV : Hid (okProc n q = true) := okProc_iff.2 ⟨h0, h1⟩
      go_enter Try.func51, Try.ntmps51
      go_wp2_with fail
      go_ret
      exact ⟨by rw [HV.out]; rfl, rfl⟩
    · have HV : Hid (okProc n q = false) := by show _ = _; simp [okProc, h1]
      go_enter Try.func51, Try.ntmps51
      go_wp2_with fail
      go_ret
      exact ⟨by rw [HV.out]; rfl, rfl⟩
  · have HV : Hid (okProc n q = false) := by show _ = _; simp [okProc, h0]
    go_enter Try.func51, Try.ntmps51
    go_wp2_with fail
    go_ret
    exact ⟨by rw [HV.out]; rfl, rfl⟩
/-- what a step of the computation leaves -/
def CpPost (W : World) (base g n : Nat) (f : Int) (s : Cm) (e : Ending) (w' : World) : Prop := e = .returned (.tuple #[]) ∧ ∃ p, CpM w' base g n f p ∧ p.st = s ∧ Below base W w'
theorem CpPost.same {W : World} {base g n : Nat} {f : Int} {p : Cp} (h : CpM W base g n f p) : CpPost W base g n f p.st (.returned (.tuple #[])) W := ⟨rfl, p, h, rfl, Below.refl _ _⟩
theorem MgR.blk {W : World} {g : Nat} {x : MgR} (h : Blk W g 104 x.cells.toArray) : W.cell? ⟨g, 0, none⟩ = some (.int .i64 x.m.frm) ∧ W.cell? ⟨g, 1, none⟩ = some (.int .i64 x.m.dst) ∧ W.cell? ⟨g, 2, none⟩ = some (.int .i64 0) ∧ W.cell? ⟨g, 3, none⟩ = some (.int .i64 x.m.idx) ∧ W.cell? ⟨g, 4, none⟩ = some (.int .i64 x.m.ord) ∧ W.cell? ⟨g, 5, none⟩ = some (.slice x.A x.m.kn.length x.c) :=
  ⟨(h.cell 0).trans rfl, (h.cell 1).trans rfl, (h.cell 2).trans rfl, (h.cell 3).trans rfl, (h.cell 4).trans rfl, (h.cell 5).trans rfl⟩
theorem Blk.put6 {W : World} {g : Nat} {t : TypeId} {a0 a1 a2 a3 a4 a5 : Value} (h : Blk W g t #[a0, a1, a2, a3, a4, a5]) (b0 b1 b2 b3 b4 b5 : Value) :
    Blk ((((((W.setCell ⟨g, 0, none⟩ b0).setCell ⟨g, 1, none⟩ b1).setCell ⟨g, 2, none⟩ b2).setCell ⟨g, 3, none⟩ b3).setCell ⟨g, 4, none⟩ b4).setCell ⟨g, 5, none⟩ b5) g t #[b0, b1, b2, b3, b4, b5] ∧
    W.grownBy ((((((W.setCell ⟨g, 0, none⟩ b0).setCell ⟨g, 1, none⟩ b1).setCell ⟨g, 2, none⟩ b2).setCell ⟨g, 3, none⟩ b3).setCell ⟨g, 4, none⟩ b4).setCell ⟨g, 5, none⟩ b5) (some g) := by
  refine ⟨?_, grownBy_trans (grownBy_trans (grownBy_trans (grownBy_trans (grownBy_trans (grown_set1 _ _ _ _) (grown_set1 _ _ _ _)) (grown_set1 _ _ _ _)) (grown_set1 _ _ _ _)) (grown_set1 _ _ _ _)) (grown_set1 _ _ _ _)⟩
  have := Blk.sets (w := W) [b0, b1, b2, b3, b4, b5] 0 W [a0, a1, a2, a3, a4, a5] h
  exact this
theorem Blk.put2 {W : World} {g : Nat} {t : TypeId} {a0 a1 a2 a3 a4 a5 : Value} (h : Blk W g t #[a0, a1, a2, a3, a4, a5]) (b2 b3 : Value) :
    Blk ((W.setCell ⟨g, 2, none⟩ b2).setCell ⟨g, 3, none⟩ b3) g t #[a0, a1, b2, b3, a4, a5] ∧ W.grownBy ((W.setCell ⟨g, 2, none⟩ b2).setCell ⟨g, 3, none⟩ b3) (some g) := by
  refine ⟨?_, grownBy_trans (grown_set1 _ _ _ _) (grown_set1 _ _ _ _)⟩
  have := Blk.sets (w := W) [b2, b3] 2 W [a0, a1, a2, a3, a4, a5] h
  exact this
theorem Ext.put6 {W0 W : World} (h : Ext W0 W) {g : Nat} (hg : W0.heap.size ≤ g) (b0 b1 b2 b3 b4 b5 : Value) :
    Ext W0 ((((((W.setCell ⟨g, 0, none⟩ b0).setCell ⟨g, 1, none⟩ b1).setCell ⟨g, 2, none⟩ b2).setCell ⟨g, 3, none⟩ b3).setCell ⟨g, 4, none⟩ b4).setCell ⟨g, 5, none⟩ b5) :=
  (((((h.set hg _).set hg _).set hg _).set hg _).set hg _).set hg _
theorem blk6 {w : World} {g : Nat} {t : TypeId} {v0 v1 v2 v3 v4 v5 : Value} (h : Blk w g t #[v0, v1, v2, v3, v4, v5]) :
    (w.cell? ⟨g, 0, none⟩ = some v0 ∧ w.cell? ⟨g, 1, none⟩ = some v1 ∧ w.cell? ⟨g, 2, none⟩ = some v2 ∧ w.cell? ⟨g, 3, none⟩ = some v3 ∧ w.cell? ⟨g, 4, none⟩ = some v4 ∧ w.cell? ⟨g, 5, none⟩ = some v5) ∧
    w.frozen? ⟨g, 0, none⟩ = false ∧ w.frozen? ⟨g, 1, none⟩ = false ∧ w.frozen? ⟨g, 2, none⟩ = false ∧ w.frozen? ⟨g, 3, none⟩ = false ∧ w.frozen? ⟨g, 4, none⟩ = false ∧ w.frozen? ⟨g, 5, none⟩ = false :=
  ⟨⟨(h.cell 0).trans rfl, (h.cell 1).trans rfl, (h.cell 2).trans rfl, (h.cell 3).trans rfl, (h.cell 4).trans rfl, (h.cell 5).trans rfl⟩, h.frozen 0, h.frozen 1, h.frozen 2, h.frozen 3, h.frozen 4, h.frozen 5⟩
def SdCut (W : World) (base : Nat) (x : Mg) (s6 : Value) (wx : World) : Prop := ∃ (g6 : Nat) (A : Option Addr) (c : Nat), s6 = .pointer (some ⟨g6, 0, none⟩) ∧ Ext W wx ∧ W.heap.size ≤ g6 ∧ Blk wx g6 104 (MgR.cells ⟨x, A, c⟩).toArray ∧ KnOwn wx W.heap.size A c x.kn
set_option maxHeartbeats 1600000 in
theorem send_any (W : World) (base g n t : Nat) (f : Int) (p : Cp) (h : CpM W base g n f p) (hw : WF n t p.st) (ht : t ≤ 200) (hn : n ≤ 5) (hb : base ≤ W.heap.size) (a b : Int) :
    Calls Try.prog 49 #[.pointer (some ⟨g, 0, none⟩), .int .i64 a, .int .i64 b] W (CpPost W base g n f (if canSend n p.st a b then sendV f p.st a.toNat b.toNat else p.st)) := by
  have HP := Lib.hid (fun q => process_any W base g n f p h q hn)
  have H := Lib.hid h
  have hfl : p.F.length ≤ 256 := by have := hw.f256; simpa [Cp.st] using this
  have HW := Lib.hid hw
  obtain ⟨c0, c1, c2, c3, c4⟩ := h.cells
  clear h hw
  by_cases ha : okProc n a = true
  · by_cases hbp : okProc n b = true
    · by_cases hab : a = b
      · subst hab
        have HV : Hid (canSend n p.st a a = false) := by show _ = _; simp [canSend]
        rw [HV.out, if_neg (by simp)]
        go_enter Try.func49, Try.ntmps49
        go_wp2_with (first | (have tok : True := trivial; refine (HP.out _).mono ?_))
        rintro e w1 ⟨rfl, rfl⟩
        rw [ha]
        go_wp2_with (refine (HP.out _).mono ?_)
        rintro e w2 ⟨rfl, rfl⟩
        rw [ha]
        go_wp2_with fail
        (try simp only [Exit.inBlock, Exit.then]); refine bodyPost_ret (results_none rfl _ _ _) rfl ?_
        exact CpPost.same H.out
      · by_cases hfl2 : p.F.length < 256
        · obtain ⟨an, rfl⟩ : ∃ an : Nat, a = (an : Int) := ⟨a.toNat, by have := (okProc_iff.1 ha).1; omega⟩
          obtain ⟨bn, rfl⟩ : ∃ bn : Nat, b = (bn : Int) := ⟨b.toNat, by have := (okProc_iff.1 hbp).1; omega⟩
          have hal := (okProc_iff.1 ha).2
          have hbl := (okProc_iff.1 hbp).2
          have HV : Hid (canSend n p.st an bn = true) := canSend_iff.2 ⟨⟨by omega, hal⟩, ⟨by omega, hbl⟩, hab, by simpa [Cp.st] using hfl2⟩
          rw [HV.out, if_pos rfl, Int.toNat_natCast, Int.toNat_natCast]
          have han : an < n := by omega
          have hbn : bn < n := by omega
          clear HV
          have hab' : ((an : Int) == (bn : Int)) = false := by simpa using hab
          have hfl2' : decide ((256 : Int) ≤ (p.F.length : Int)) = false := decide_eq_false (by omega)
          obtain ⟨sk, hsk⟩ : ∃ sk, p.t.K[an]? = some sk := ⟨_, List.getElem?_eq_getElem (by rw [H.out.t.nk]; exact han)⟩
          obtain ⟨se, hse⟩ : ∃ se, p.t.R[an]? = some se := ⟨_, List.getElem?_eq_getElem (by rw [H.out.t.ne]; exact han)⟩
          obtain ⟨so, hso⟩ : ∃ so, p.t.os[an]? = some so := ⟨_, List.getElem?_eq_getElem (by rw [H.out.t.no]; exact han)⟩
          have hcK := H.out.t.cellK hsk
          have hcE := H.out.t.cellE hse
          have hcO := H.out.t.cellO hso
          have HKO : Hid (KnOwn W base sk.A sk.c sk.l) := H.out.t.k sk (List.mem_of_getElem? hsk)
          obtain ⟨G, hG1, hG2, -⟩ := HW.out.g
          have hkk := hG2 sk.l (List.mem_map.2 ⟨sk, List.mem_of_getElem? hsk, rfl⟩)
          have hkl : sk.l.length ≤ 200 := by have := hkk.len; omega
          have HKK : Hid (∀ k ∈ sk.l, okH k.h) := hkk.ok
          have hel : se.l.length ≤ 64 := HW.out.el se.l (List.mem_map.2 ⟨se, List.mem_of_getElem? hse, rfl⟩)
          have hol : so ≤ 200 := Nat.le_trans (HW.out.ol so (List.mem_of_getElem? hso)) ht
          clear hG1 hG2 hkk
          have HST : Hid (sendV f p.st an bn = ⟨p.t.os.set an (so + 1), p.F.map MgR.m ++ [⟨an, bn, se.l.length, so, sk.l.filter (keepF f)⟩], p.t.R.map Gr.l, p.t.K.map Gr.l⟩) := by
            show _ = _
            simp [sendV, Cp.st, hsk, hse, hso, List.getD_eq_getElem?_getD]
          rw [HST.out]
          clear HST
          have hal0 : (0 : Int) ≤ (an : Int) := by omega
          have hbl0 : (0 : Int) ≤ (bn : Int) := by omega
          go_enter Try.func49, Try.ntmps49
          go_wp2_with (refine (HP.out _).mono ?_)
          rintro e w1 ⟨rfl, rfl⟩
          rw [ha]
          go_wp2_with (refine (HP.out _).mono ?_)
          rintro e w2 ⟨rfl, rfl⟩
          rw [hbp]
          go_upto_region 1 with fail
          clear ha hbp hab hab' hfl2' HP
          have HKC : Hid (∀ W', Ext w2 W' → W'.cell? ⟨g, 3, none⟩ = some (.slice (some ⟨p.t.go, 0, none⟩) n n) ∧ W'.cell? ⟨p.t.go, an, none⟩ = some (.int .i64 so) ∧ W'.cell? ⟨g, 2, none⟩ = some (.slice (some ⟨p.t.gk, 0, none⟩) n n) ∧ W'.cell? ⟨p.t.gk, an, none⟩ = some (.slice sk.A sk.l.length sk.c) ∧ W'.cell? ⟨g, 0, none⟩ = some (.int .i64 f)) := fun W' hW => by
            have h9 := H.out.ext hW
            exact ⟨h9.cells.2.2.2.1, h9.t.cellO hso, h9.cells.2.2.1, h9.t.cellK hsk, h9.cells.1⟩
          go_cut [6] (fun s6 wx => SdCut w2 base ⟨an, bn, 0, so, sk.l.filter (keepF f)⟩ s6 wx)
          case first =>
            refine wp_region_sch (by kernel_rfl) 24 (.read 0 (.read 1 (.read 2 (.read 3 (.read 4 (.read 5 (.read 6 (.read 7 (.read 8 (.read 9 (.read 10 (.read 11 (.read 12 (.read 13 (.read 14 (.read 15 (.read 16 (.read 17 (.read 18 (.read 19 (.read 20 (.two 21 23 (.read 22 (.one 23 (.one 24 .done))) (.one 21 (.read 22 (.one 24 .done))))))))))))))))))))))))) (fun W => W.cell? ⟨g, 3, none⟩ = some (.slice (some ⟨p.t.go, 0, none⟩) n n) ∧ W.cell? ⟨p.t.go, an, none⟩ = some (.int .i64 so) ∧ W.cell? ⟨g, 2, none⟩ = some (.slice (some ⟨p.t.gk, 0, none⟩) n n) ∧ W.cell? ⟨p.t.gk, an, none⟩ = some (.slice sk.A sk.l.length sk.c) ∧ W.cell? ⟨g, 0, none⟩ = some (.int .i64 f)) (by kernel_rfl) (fun _ _ dd _ _ h => by cases dd <;> exact h) ⟨c3, hcO, c2, hcK, c0⟩ (fun hHeld => ?_)
            iterate 21 ((refine sch_read (v := ?_) rfl (Or.inl ⟨by rfl, ?_⟩) hHeld ?_; rotate_left 1; · (intro w' hSw; obtain ⟨t0, t1, t2, t3, t4⟩ := hSw; go_simp; (first | done | with_reducible rfl))); (try simp only [Act.put, List.setIfInBounds_toArray, List.set_cons_zero, List.set_cons_succ]))
            refine sch_two rfl rfl (fun K hK => ?_) (fun K hK => ?_)
            · go_simp
              refine (carry_any sk.A sk.c sk.l f _ (Seg.of_own (own_ext HKO.out (Below.drew (Ext.refl w2)))) (by omega) HKK.out).mono ?_
              rintro e w3 ⟨v, rfl, hown, hE⟩
              obtain ⟨A, c, rfl, -, -, -⟩ := own_slice hown
              have hE3 : Ext w2 w3 := Ext.trans (Below.drew (Ext.refl w2)) hE
              have HO3 : Hid (KnOwn w3 w2.heap.size A c (sk.l.filter (keepF f))) := hown
              have HE3 := Lib.hid hE3
              clear hown hE hE3
              refine hK.out _ _ (HKC.out _ HE3.out) (fun hHeld => ?_)
              clear hK K
              try simp only [Act.put, List.setIfInBounds_toArray, List.set_cons_zero, List.set_cons_succ]
              iterate 1 ((refine sch_read (v := ?_) rfl (Or.inl ⟨by rfl, ?_⟩) hHeld ?_; rotate_left 1; · (intro w' hSw; obtain ⟨t0, t1, t2, t3, t4⟩ := hSw; go_simp; (first | done | with_reducible rfl))); (try simp only [Act.put, List.setIfInBounds_toArray, List.set_cons_zero, List.set_cons_succ]))
              refine sch_one rfl (fun K hK => ?_)
              go_simp
              refine hK.out _ _ (HKC.out _ (HE3.out.allocs _)) (fun hHeld => ?_)
              clear hK K
              try simp only [Act.put, List.setIfInBounds_toArray, List.set_cons_zero, List.set_cons_succ]
              obtain ⟨g6, hg6⟩ : ∃ g6, w3.heap.size = g6 := ⟨_, rfl⟩
              have HB := Blk.new w3 104 #[.int .i64 0, .int .i64 0, .int .i64 0, .int .i64 0, .int .i64 0, .slice none 0 0]
              have hX : Ext w3 (w3.alloc (.cells #[.int .i64 0, .int .i64 0, .int .i64 0, .int .i64 0, .int .i64 0, .slice none 0 0] 104)) := (Ext.refl w3).allocs _
              have hg6' : w2.heap.size ≤ g6 := by rw [← hg6]; exact HE3.out.size
              rw [hg6] at HB ⊢
              generalize w3.alloc (.cells #[.int .i64 0, .int .i64 0, .int .i64 0, .int .i64 0, .int .i64 0, .slice none 0 0] 104) = wa at HB hX ⊢
              have HBF := Lib.hid (Blk.put6 HB (.int .i64 an) (.int .i64 bn) (.int .i64 0) (.int .i64 0) (.int .i64 so) (.slice A (sk.l.filter (keepF f)).length c))
              obtain ⟨⟨x0, x1, x2, x3, x4, x5⟩, y0, y1, y2, y3, y4, y5⟩ := blk6 HB
              have HXA := Lib.hid (Ext.trans HE3.out hX)
              have HOA : Hid (KnOwn wa w2.heap.size A c (sk.l.filter (keepF f))) := own_ext HO3.out hX
              have HBA := Lib.hid HB
              clear hX HB hg6 HO3 HE3
              refine sch_tail rfl (by decide) (fun K hK => ?_)
              go_simp
              refine hK.out _ _ ?_
              clear hK K
              try simp only [Act.put, List.setIfInBounds_toArray, List.set_cons_zero, List.set_cons_succ]
              refine sch_done ?_
              go_wp2_with fail
              go_meet
              exact ⟨g6, A, c, rfl, Ext.put6 HXA.out hg6' .., hg6', HBF.out.1, own_typed HOA.out HBF.out.2 (TyRow.blk HBA.out (by decide))⟩
            · obtain ⟨g6, hg6⟩ : ∃ g6, w2.heap.size = g6 := ⟨_, rfl⟩
              have HB : Blk (w2.alloc (.cells #[.int .i64 0, .int .i64 0, .int .i64 0, .int .i64 0, .int .i64 0, .slice none 0 0] 104)).drew w2.heap.size 104 #[.int .i64 0, .int .i64 0, .int .i64 0, .int .i64 0, .int .i64 0, .slice none 0 0] := Blk.ext (Blk.new w2 _ _) (Below.drew (Ext.refl _))
              have hX : Ext w2 (w2.alloc (.cells #[.int .i64 0, .int .i64 0, .int .i64 0, .int .i64 0, .int .i64 0, .slice none 0 0] 104)).drew := Below.drew ((Ext.refl w2).allocs _)
              have hg6' : w2.heap.size ≤ g6 := by rw [← hg6]; exact Nat.le_refl _
              go_simp
              rw [hg6] at HB
              generalize (w2.alloc (.cells #[.int .i64 0, .int .i64 0, .int .i64 0, .int .i64 0, .int .i64 0, .slice none 0 0] 104)).drew = wa at HB hX ⊢
              refine hK.out _ _ (HKC.out _ hX) (fun hHeld => ?_)
              clear hK K
              try simp only [Act.put, List.setIfInBounds_toArray, List.set_cons_zero, List.set_cons_succ]
              refine sch_one rfl (fun K hK => ?_)
              go_simp
              refine (carry_any sk.A sk.c sk.l f _ (Seg.of_own (own_ext HKO.out hX)) (by omega) HKK.out).mono ?_
              rintro e w3 ⟨v, rfl, hown, hE⟩
              obtain ⟨A, c, rfl, -, -, -⟩ := own_slice hown
              have HOA : Hid (KnOwn w3 w2.heap.size A c (sk.l.filter (keepF f))) := own_base hown hX.size
              have HXA := Lib.hid (Ext.trans hX hE)
              have HB3 := Blk.ext HB hE
              clear hown hE hX HB
              refine hK.out _ _ (HKC.out _ HXA.out) (fun hHeld => ?_)
              clear hK K
              try simp only [Act.put, List.setIfInBounds_toArray, List.set_cons_zero, List.set_cons_succ]
              iterate 1 ((refine sch_read (v := ?_) rfl (Or.inl ⟨by rfl, ?_⟩) hHeld ?_; rotate_left 1; · (intro w' hSw; obtain ⟨t0, t1, t2, t3, t4⟩ := hSw; go_simp; (first | done | with_reducible rfl))); (try simp only [Act.put, List.setIfInBounds_toArray, List.set_cons_zero, List.set_cons_succ]))
              have HBF := Lib.hid (Blk.put6 HB3 (.int .i64 an) (.int .i64 bn) (.int .i64 0) (.int .i64 0) (.int .i64 so) (.slice A (sk.l.filter (keepF f)).length c))
              obtain ⟨⟨x0, x1, x2, x3, x4, x5⟩, y0, y1, y2, y3, y4, y5⟩ := blk6 HB3
              have HBA := Lib.hid HB3
              clear HB3
              refine sch_tail rfl (by decide) (fun K hK => ?_)
              go_simp
              refine hK.out _ _ ?_
              clear hK K
              try simp only [Act.put, List.setIfInBounds_toArray, List.set_cons_zero, List.set_cons_succ]
              refine sch_done ?_
              go_wp2_with fail
              go_meet
              exact ⟨g6, A, c, rfl, Ext.put6 HXA.out hg6' .., hg6', HBF.out.1, own_typed HOA.out HBF.out.2 (TyRow.blk HBA.out (by decide))⟩
          case rest =>
            obtain ⟨g6, A, c, rfl, hE, hg6, hB, hO⟩ := hcut
            have HC := Lib.hid (H.out.ext hE)
            obtain ⟨d0, d1, d2, d3, d4⟩ := HC.out.cells
            have hcE2 := HC.out.t.cellE hse
            obtain ⟨⟨x0, x1, x2, x3, x4, x5⟩, y0, y1, y2, y3, y4, y5⟩ := blk6 hB
            have HB := Lib.hid hB
            have HO := Lib.hid hO
            have HE := Lib.hid hE
            clear hB hO hE c0 c1 c2 c3 c4 hcK hcE hcO HKC HKO HKK
            go_upto_if 64 with fail
            go_cut [6] (fun s6 wx => SdCut w2 base ⟨an, bn, se.l.length, so, sk.l.filter (keepF f)⟩ s6 wx)
            case first =>
              by_cases hz : se.l.length = 0
              · have hz' : ¬ (0 : Int) < (se.l.length : Int) := by omega
                have HZ := Lib.hid hz
                clear hz
                go_wp2_with fail
                go_meet
                exact ⟨g6, A, c, rfl, HE.out, hg6, by rw [HZ.out]; exact HB.out, HO.out⟩
              · have hz' : (0 : Int) < (se.l.length : Int) := by omega
                have HB2 := Lib.hid (Blk.put2 HB.out (.int .i64 0) (.int .i64 se.l.length))
                go_wp2_with fail
                go_meet
                exact ⟨g6, A, c, rfl, (HE.out.set hg6 _).set hg6 _, hg6, HB2.out.1, own_typed HO.out HB2.out.2 (TyRow.blk HB.out (by decide))⟩
            case rest =>
              clear d0 d1 d2 d3 d4 hcE2 x0 x1 x2 x3 x4 x5 y0 y1 y2 y3 y4 y5 HB HO HE HC
              obtain ⟨g6, A, c, rfl, hE, hg6, hB, hO⟩ := hcut
              have HC := Lib.hid (H.out.ext hE)
              have hcO2 := HC.out.t.cellO hso
              obtain ⟨d0, d1, d2, d3, d4⟩ := HC.out.cells
              have hfz := HC.out.t.o.frozen an
              have HC5 := Lib.hid (HC.out.set_ord han (so + 1))
              have hg5 := grown_set1 wc p.t.go an (.int .i64 ((so + 1 : Nat) : Int))
              have HB5 := Lib.hid (blk_typed hB hg5 (TyRow.blk HC.out.t.o (by decide)))
              have HO5 := Lib.hid (own_typed hO hg5 (TyRow.blk HC.out.t.o (by decide)))
              have HL5 : Hid (Below base w2 (wc.setCell ⟨p.t.go, an, none⟩ (.int .i64 ((so + 1 : Nat) : Int)))) := Below.setCell (hE.mono hb) H.out.t.zo _
              have hso1 : ((so + 1 : Nat) : Int) = (so : Int) + 1 := by omega
              rw [hso1] at HC5 HB5 HO5 HL5
              clear hB hO hE hg5
              have hne6 : (Value.slice p.A p.F.length p.c).ownBlock ≠ some g6 := fun e => by have := (H.out.f.r.lt g6 e).2; omega
              have hz5 : base ≤ (wc.setCell ⟨p.t.go, an, none⟩ (.int .i64 ((so : Int) + 1))).heap.size := Nat.le_trans hb HL5.out.size
              go_upto_region 6 with fail
              generalize (wc.setCell ⟨p.t.go, an, none⟩ (.int .i64 ((so : Int) + 1))) = w5 at HC5 HB5 HO5 HL5 hz5 ⊢
              clear d0 d1 d2 d3 d4 hcO2 hfz HC
              obtain ⟨x, hx⟩ : ∃ x : MgR, x = ⟨⟨an, bn, se.l.length, so, sk.l.filter (keepF f)⟩, A, c⟩ := ⟨_, rfl⟩
              have HX := Lib.hid hx
              rw [← hx] at HB5
              have HO5' : Hid (KnOwn w5 base x.A x.c x.m.kn) := by show KnOwn _ _ _ _ _; rw [hx]; exact own_base HO5.out hb
              clear hx HO5
              have HSS : Hid (∀ W' row, w5.grownBy W' row → (row = none ∨ row = (Value.slice p.A p.F.length p.c).ownBlock) → W'.cell? ⟨g, 4, none⟩ = some (.slice p.A p.F.length p.c) ∧ Blk W' g6 104 x.cells.toArray) := fun W' row hW hr => by
                refine ⟨?_, ?_⟩
                · have hty : TyRow w5 row (fun t => t ≠ 85) := by
                    rcases hr with rfl | rfl
                    · exact TyRow.none _ _
                    · exact TyRow.own HC5.out.f.r (by decide)
                  exact ((blk_typed HC5.out.b hW hty).cell 4).trans rfl
                · refine (hW.block g6 HB5.out.lt (fun e => ?_)).trans HB5.out
                  rcases hr with rfl | rfl
                  · cases e
                  · exact hne6 e.symm
              refine wp_region_sched (by kernel_rfl) 10 [(0, true), (1, true), (2, true), (3, true), (4, true), (5, true), (6, false), (7, false), (8, true), (9, true), (10, false)] (fun W' => W'.cell? ⟨g, 4, none⟩ = some (.slice p.A p.F.length p.c) ∧ Blk W' g6 104 x.cells.toArray) (by kernel_rfl) (fun _ _ dd _ _ h => by cases dd <;> exact h) (HSS.out _ _ (grownBy_ext (row := none) (Below.drew (Ext.refl w5))) (.inl rfl)) (fun hHeld => ?_)
              iterate 6 ((refine sched_read (v := ?_) rfl (Or.inl ⟨by rfl, ?_⟩) hHeld ?_; rotate_left 1; · (intro w' hSw; obtain ⟨t0, t1⟩ := hSw; obtain ⟨⟨x0, x1, x2, x3, x4, x5⟩, y0, y1, y2, y3, y4, y5⟩ := blk6 t1; go_simp; (first | done | with_reducible rfl))); (try simp only [Act.put, List.setIfInBounds_toArray, List.set_cons_zero, List.set_cons_succ]))
              have hEa : Ext w5.drew (w5.drew.alloc (.cells x.cells.toArray 104)) := (Ext.refl w5.drew).allocs _
              have hE5 : Ext w5 (w5.drew.alloc (.cells x.cells.toArray 104)) := Ext.trans (Below.drew (Ext.refl w5)) hEa
              have HBa : Hid (Blk (w5.drew.alloc (.cells x.cells.toArray 104)) w5.drew.heap.size 104 x.cells.toArray) := Blk.new w5.drew _ _
              have HCa := Lib.hid (HC5.out.ext hE5)
              refine sched_eff rfl (fun K hK => ?_)
              go_simp
              refine hK.out _ _ (HSS.out _ _ (grownBy_ext (row := none) hE5) (.inl rfl)) (fun hHeld => ?_)
              clear hK K
              try simp only [Act.put, List.setIfInBounds_toArray, List.set_cons_zero, List.set_cons_succ]
              refine sched_eff rfl (fun K hK => ?_)
              refine step_push_lies MgR.cells 6 64 MgR.len MgR.one (by omega) (by rfl) _ _ _ (by rfl) base 104 Try.underlying83 (by kernel_rfl) (.slice p.A p.F.length p.c) p.F x w5.drew.heap.size (by rfl) HCa.out.f.r (by rfl) (Seg.ofBlkK HBa.out rfl) (by unfold maxLen; omega) (by omega) (Nat.le_trans hz5 hE5.size) ?_
              intro g9 c9 w9 hown9 hg9 hd9
              have hgr := grownBy_trans (grownBy_ext (row := (Value.slice p.A p.F.length p.c).ownBlock) hE5) hg9
              refine hK.out _ _ (HSS.out _ _ hgr (.inr rfl)) (fun hHeld => ?_)
              clear hK K
              try simp only [Act.put, List.setIfInBounds_toArray, List.set_cons_zero, List.set_cons_succ]
              iterate 2 ((refine sched_read (v := ?_) rfl (Or.inl ⟨by rfl, ?_⟩) hHeld ?_; rotate_left 1; · (intro w' hSw; obtain ⟨t0, t1⟩ := hSw; go_simp; (first | done | with_reducible rfl))); (try simp only [Act.put, List.setIfInBounds_toArray, List.set_cons_zero, List.set_cons_succ]))
              have hty : TyRow w5 (Value.slice p.A p.F.length p.c).ownBlock (fun t => t = 104) := TyRow.own HC5.out.f.r rfl
              have hf9 : FlM MgR.cells 6 104 w9 base (some ⟨g9, 0, none⟩) c9 (p.F ++ [x]) := ⟨by have := hown9; simpa using this, fun y hy => by
                rcases List.mem_append.1 hy with hy | hy
                · exact own_typed (HC5.out.f.k y hy) hgr (hty.imp fun t e => by subst e; decide)
                · rw [List.mem_singleton] at hy
                  subst hy
                  exact own_typed HO5'.out hgr (hty.imp fun t e => by subst e; decide)⟩
              have HC9 := Lib.hid (HC5.out.set_fl hgr hty hf9)
              have hfz9 : w9.frozen? ⟨g, 4, none⟩ = false := (blk_typed HC5.out.b hgr (hty.imp fun t e => by subst e; decide)).frozen 4
              have HL9 : Hid (Below base w2 (w9.setCell ⟨g, 4, none⟩ (.slice (some ⟨g9, 0, none⟩) (p.F ++ [x]).length c9))) := Below.setCell (Below.trans HL5.out (Below.grown (Below.refl base w5) hgr hz5 (fun k hk => (HC5.out.f.r.lt k hk).1))) H.out.z _
              have hl1 : (p.F ++ [x]).length = p.F.length + 1 := by simp
              rw [hl1] at HC9 HL9
              clear hown9 hg9 hd9 hgr hty hf9 hE5 hEa hl1
              refine sched_tail rfl (by decide) (fun K hK => ?_)
              go_simp
              refine hK.out _ _ ?_
              clear hK K
              refine sched_done ?_
              go_wp2_with fail
              (try simp only [Exit.inBlock, Exit.then]); refine bodyPost_ret (results_none rfl _ _ _) rfl ?_
              refine ⟨rfl, _, HC9.out, ?_, HL9.out⟩
              simp [Cp.st, HX.out]
        · have HV : Hid (canSend n p.st a b = false) := by
            show _ = _
            have hf3 : decide (p.st.fl.length < 256) = false := decide_eq_false (by simpa [Cp.st] using hfl2)
            unfold canSend
            rw [hf3, Bool.and_false]
          rw [HV.out, if_neg (by simp)]
          have hfe : p.F.length = 256 := by omega
          have hab' : (a == b) = false := by simpa using hab
          have hfe' : decide ((256 : Int) ≤ (p.F.length : Int)) = true := decide_eq_true (by omega)
          clear hfl hfl2 hfe
          go_enter Try.func49, Try.ntmps49
          go_wp2_with (refine (HP.out _).mono ?_)
          rintro e w1 ⟨rfl, rfl⟩
          rw [ha]
          go_wp2_with (refine (HP.out _).mono ?_)
          rintro e w2 ⟨rfl, rfl⟩
          rw [hbp]
          go_wp2_with fail
          (try simp only [Exit.inBlock, Exit.then]); refine bodyPost_ret (results_none rfl _ _ _) rfl ?_
          exact CpPost.same H.out
    · have hbf : okProc n b = false := by simpa using hbp
      have HV : Hid (canSend n p.st a b = false) := by show _ = _; simp [canSend, hbf]
      rw [HV.out, if_neg (by simp)]
      go_enter Try.func49, Try.ntmps49
      go_wp2_with (refine (HP.out _).mono ?_)
      rintro e w1 ⟨rfl, rfl⟩
      rw [ha]
      go_wp2_with (refine (HP.out _).mono ?_)
      rintro e w2 ⟨rfl, rfl⟩
      rw [hbf]
      go_wp2_with fail
      (try simp only [Exit.inBlock, Exit.then]); refine bodyPost_ret (results_none rfl _ _ _) rfl ?_
      exact CpPost.same H.out
  · have haf : okProc n a = false := by simpa using ha
    have HV : Hid (canSend n p.st a b = false) := by show _ = _; simp [canSend, haf]
    rw [HV.out, if_neg (by simp)]
    go_enter Try.func49, Try.ntmps49
    go_wp2_with (refine (HP.out _).mono ?_)
    rintro e w1 ⟨rfl, rfl⟩
    rw [haf]
    go_wp2_with fail
    (try simp only [Exit.inBlock, Exit.then]); refine bodyPost_ret (results_none rfl _ _ _) rfl ?_
    exact CpPost.same H.out
end Go.Proofs.Ytfnnoncdocghjaa
