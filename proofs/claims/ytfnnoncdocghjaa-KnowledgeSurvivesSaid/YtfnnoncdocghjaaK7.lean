/- RCkpt, RLabel, RSend, RRecv1, RRecv, RPlay, SameK, joined. No statement of the seat is proved here. -/
import Derived.Test.YtfnnoncdocghjaaK6
import Derived.Test.YtfnnoncdocghjaaK2
namespace Go.Proofs.Ytfnnoncdocghjaa
open Go.RowKit
set_option linter.unusedVariables false
set_option maxRecDepth 100000

theorem map_stK_d (m : Nat) (l : List Kn) : (l.map (stK m)).map Kn.d = l.map Kn.d := by rw [List.map_map]; rfl
set_option maxHeartbeats 6400000 in
theorem act_ckpt (W : World) (base g n t : Nat) (f : Int) (r : Rn) (h : RnM W base g n f r) (hw : WS n t r.p.st r.S) (ht : t ≤ 200) (hn : n ≤ 5) (hb : base ≤ W.heap.size) (p o : Int) :
    Calls Try.prog 53 #[.pointer (some ⟨g, 0, none⟩), .agg #[.int .i64 3, .int .i64 p, .int .i64 o]] W (RnPost W base g n f (actV n f r.p.st ⟨3, p, o⟩) (sureV n r.p.st r.S ⟨3, p, o⟩)) := by
  have H := Lib.hid h
  have HW := Lib.hid hw
  have hsl := hw.sl
  clear h hw
  have HV : Hid (actV n f r.p.st ⟨3, p, o⟩ = (if okProc n p then ckptV n r.p.st p.toNat else r.p.st) ∧ sureV n r.p.st r.S ⟨3, p, o⟩ = if okProc n p then stockV (r.S ++ (r.p.st.kn.getD p.toNat []).map Kn.d) else r.S) := by
    refine ⟨?_, ?_⟩
    · unfold actV; rw [if_neg (show ¬ (3 : Int) = 1 by decide), if_neg (show ¬ (3 : Int) = 2 by decide), if_pos rfl]
    · unfold sureV; rw [if_pos rfl]
  rw [HV.out.1, HV.out.2]
  clear HV
  by_cases h0 : 0 ≤ p
  · by_cases h1 : p < n
    · have HP : Hid (okProc n p = true) := okProc_iff.2 ⟨h0, h1⟩
      rw [HP.out, if_pos rfl, if_pos rfl]
      clear HP
      obtain ⟨an, rfl⟩ : ∃ an : Nat, p = (an : Int) := ⟨p.toNat, by omega⟩
      rw [Int.toNat_natCast]
      have han : an < n := by omega
      obtain ⟨sk, hsk⟩ : ∃ sk, r.p.t.K[an]? = some sk := ⟨_, List.getElem?_eq_getElem (by rw [H.out.t.nk]; exact han)⟩
      obtain ⟨G, hG1, hG2, -⟩ := HW.out.g
      have hkk := hG2 sk.l (List.mem_map.2 ⟨sk, List.mem_of_getElem? hsk, rfl⟩)
      have hkl : sk.l.length ≤ 200 := by have := hkk.len; omega
      have HKK : Hid (∀ k ∈ sk.l, okH k.h) := hkk.ok
      have hkD : r.p.st.kn.getD an [] = sk.l := by simp [Cp.st, List.getD_eq_getElem?_getD, hsk]
      have HKD := Lib.hid hkD
      clear hG1 hG2 hkk hkD
      rw [HKD.out]
      have HN : Hid (min (max (n : Int) 0) 32 = (n : Int)) := by show min (max (n : Int) 0) 32 = (n : Int); omega
      have hn5 : (n : Int) ≤ 5 := by omega
      have d1 : decide ((an : Int) < (n : Int)) = true := decide_eq_true h1
      have HBA : Hid (Blk (W.alloc (.cells #[.int .i64 3, .int .i64 an, .int .i64 o] 74)) W.heap.size 74 #[.int .i64 3, .int .i64 an, .int .i64 o]) := Blk.new W _ _
      have HE1 : Hid (Ext W (W.alloc (.cells #[.int .i64 3, .int .i64 an, .int .i64 o] 74))) := (Ext.refl W).allocs _
      go_enter Try.func53, Try.ntmps53
      go_upto_region 1 with fail
      obtain ⟨W1, hW1⟩ : ∃ W1, W.alloc (.cells #[.int .i64 3, .int .i64 an, .int .i64 o] 74) = W1 := ⟨_, rfl⟩
      obtain ⟨gA, hgA⟩ : ∃ gA, W.heap.size = gA := ⟨_, rfl⟩
      rw [hW1] at HBA HE1 ⊢
      rw [hgA] at HBA ⊢
      have HGA : Hid (base ≤ gA) := by show base ≤ gA; omega
      clear hW1 hgA
      have HC1 := Lib.hid (H.out.ext HE1.out)
      obtain ⟨c0, c1, c2, c3, c4, c5, c6⟩ := HC1.out.cells
      obtain ⟨a0, a1, a2⟩ : _ := (⟨(HBA.out.cell 0).trans rfl, (HBA.out.cell 1).trans rfl, (HBA.out.cell 2).trans rfl⟩ : W1.cell? ⟨gA, 0, none⟩ = some (.int .i64 3) ∧ W1.cell? ⟨gA, 1, none⟩ = some (.int .i64 an) ∧ W1.cell? ⟨gA, 2, none⟩ = some (.int .i64 o))
      go_upto_region 16 with fail
      go_quiet (fail)
      go_upto_region 17 with fail
      clear c0 c1 c2 c3 c4 c5 c6 a0 a1 a2
      obtain ⟨W2, hW2⟩ : ∃ W2, W1.drewN nq = W2 := ⟨_, rfl⟩
      have hE2 : Ext W1 W2 := by rw [← hW2]; exact (Ext.refl W1).drewN nq
      rw [hW2]
      have HC2 := Lib.hid (HC1.out.ext hE2)
      have HB2 := Lib.hid (Blk.ext HBA.out hE2)
      have HE2 := Lib.hid (Ext.trans HE1.out hE2)
      clear hW2 hE2 HC1 HBA HE1
      have HS2 : Hid (∀ W', Ext W2 W' → (fun W' => W'.cell? ⟨g, 0, none⟩ = some (.int .i64 n) ∧ W'.cell? ⟨g, 3, none⟩ = some (.slice (some ⟨r.p.t.gk, 0, none⟩) n n) ∧ W'.cell? ⟨r.p.t.gk, an, none⟩ = some (.slice sk.A sk.l.length sk.c) ∧ W'.cell? ⟨gA, 1, none⟩ = some (.int .i64 an)) W') := fun W' hW => by
        have h9 := HC2.out.ext hW
        exact ⟨h9.cells.1, h9.cells.2.2.2.1, h9.t.cellK hsk, ((Blk.ext HB2.out hW).cell 1).trans rfl⟩
      refine wp_region_sched (by kernel_rfl) 20 [(0, true), (1, true), (2, true), (3, true), (4, true), (5, true), (6, true), (7, true), (8, true), (9, true), (10, true), (11, true), (12, true), (13, true), (14, true), (15, true), (16, true), (17, true), (18, false), (19, true), (20, false)] (fun W' => W'.cell? ⟨g, 0, none⟩ = some (.int .i64 n) ∧ W'.cell? ⟨g, 3, none⟩ = some (.slice (some ⟨r.p.t.gk, 0, none⟩) n n) ∧ W'.cell? ⟨r.p.t.gk, an, none⟩ = some (.slice sk.A sk.l.length sk.c) ∧ W'.cell? ⟨gA, 1, none⟩ = some (.int .i64 an)) (by kernel_rfl) (fun _ _ dd _ _ h => by cases dd <;> exact h) (HS2.out _ (Below.drew (Ext.refl W2))) (fun hHeld => ?_)
      iterate 18 ((refine sched_read (v := ?_) rfl (Or.inl ⟨by rfl, ?_⟩) hHeld ?_; rotate_left 1; · (intro w' hSw; obtain ⟨t0, t1, t2, t3⟩ := hSw; go_simp; (first | done | with_reducible rfl))); (try simp only [Act.put, List.setIfInBounds_toArray, List.set_cons_zero, List.set_cons_succ]))
      have hE2d : Ext W2 W2.drew := Below.drew (Ext.refl W2)
      have HST := Lib.hid (stable_ref sk.A sk.c sk.l n n HN.out W2.drew (Seg.of_own (own_ext (HC2.out.t.k sk (List.mem_of_getElem? hsk)) hE2d)) (by omega))
      refine sched_eff rfl (fun K hK => ?_)
      go_simp
      refine HST.out.mono ?_
      rintro e w3 ⟨v, rfl, hown, hE⟩
      obtain ⟨A1, c1, rfl, -, -, -⟩ := own_slice hown
      have hE23 : Ext W2 w3 := Ext.trans hE2d hE
      refine hK.out _ _ (HS2.out _ hE23) (fun hHeld => ?_)
      clear hK K HST
      try simp only [Act.put, List.setIfInBounds_toArray, List.set_cons_zero, List.set_cons_succ]
      iterate 1 ((refine sched_read (v := ?_) rfl (Or.inl ⟨by rfl, ?_⟩) hHeld ?_; rotate_left 1; · (intro w' hSw; obtain ⟨t0, t1, t2, t3⟩ := hSw; go_simp; (first | done | with_reducible rfl))); (try simp only [Act.put, List.setIfInBounds_toArray, List.set_cons_zero, List.set_cons_succ]))
      have hC3 := HC2.out.ext hE23
      have hO3 : KnOwn w3 base A1 c1 (sk.l.map (stK n)) := own_base hown (Nat.le_trans hb HE2.out.size)
      have hB3 := Blk.ext HB2.out hE23
      have hE3 := Ext.trans HE2.out hE23
      have hfz3 : w3.frozen? ⟨r.p.t.gk, an, none⟩ = false := hC3.t.kb.frozen _
      have hce3 := hC3.t.cellK hsk
      have hs3 := grown_set1 w3 r.p.t.gk an (.slice A1 (sk.l.map (stK n)).length c1)
      have HC4 := hC3.set_kn han hO3
      have HB4 := blk_typed hB3 hs3 (TyRow.blk hC3.t.kb (by decide))
      have HL4 : Hid (Below base W (w3.setCell ⟨r.p.t.gk, an, none⟩ (.slice A1 sk.l.length c1))) := Below.setCell (hE3.mono hb) H.out.t.zk _
      have hK4 : (r.p.t.K.set an ⟨A1, c1, sk.l.map (stK n)⟩)[an]? = some ⟨A1, c1, sk.l.map (stK n)⟩ := by rw [List.getElem?_set, if_pos rfl, if_pos (by rw [H.out.t.nk]; exact han)]
      rw [List.length_map] at HC4 HB4
      have HC4 := Lib.hid HC4
      have HB4 := Lib.hid HB4
      clear hown hE hE23 hE2d hC3 hO3 hB3 hs3 hHeld
      refine sched_tail rfl (by decide) (fun K hK => ?_)
      go_simp
      refine hK.out _ (w3.setCell ⟨r.p.t.gk, an, none⟩ (.slice A1 sk.l.length c1)) ?_
      clear hK K
      refine sched_done ?_
      generalize w3.setCell ⟨r.p.t.gk, an, none⟩ (.slice A1 sk.l.length c1) = W4 at HC4 HB4 HL4 ⊢
      clear hfz3 hce3 hE3 HC2 HB2 HE2 HS2
      have HK4 := Lib.hid hK4
      obtain ⟨K4, hKe⟩ : ∃ K4, r.p.t.K.set an ⟨A1, c1, sk.l.map (stK n)⟩ = K4 := ⟨_, rfl⟩
      have HKe := Lib.hid hKe
      rw [hKe] at HC4 HK4
      clear hK4 hKe
      have HS4 : Hid (∀ W', Ext W4 W' → (fun W' => W'.cell? ⟨g, 4, none⟩ = some (.slice r.SA r.S.length r.Sc) ∧ W'.cell? ⟨g, 3, none⟩ = some (.slice (some ⟨r.p.t.gk, 0, none⟩) n n) ∧ W'.cell? ⟨r.p.t.gk, an, none⟩ = some (.slice A1 sk.l.length c1) ∧ W'.cell? ⟨gA, 1, none⟩ = some (.int .i64 an)) W') := fun W' hW => by
        have h9 := HC4.out.ext hW
        refine ⟨h9.cells.2.2.2.2.1, h9.cells.2.2.2.1, ?_, ((Blk.ext HB4.out hW).cell 1).trans rfl⟩
        have h10 := h9.t.cellK HK4.out
        rw [List.length_map] at h10
        exact h10
      go_upto_region 18 with fail
      refine wp_region_sched (by kernel_rfl) 17 [(0, true), (1, true), (2, true), (3, true), (4, true), (5, true), (6, true), (7, true), (8, true), (9, true), (10, true), (11, true), (12, true), (13, false), (14, false), (15, true), (16, true), (17, false)] (fun W' => W'.cell? ⟨g, 4, none⟩ = some (.slice r.SA r.S.length r.Sc) ∧ W'.cell? ⟨g, 3, none⟩ = some (.slice (some ⟨r.p.t.gk, 0, none⟩) n n) ∧ W'.cell? ⟨r.p.t.gk, an, none⟩ = some (.slice A1 sk.l.length c1) ∧ W'.cell? ⟨gA, 1, none⟩ = some (.int .i64 an)) (by kernel_rfl) (fun _ _ dd _ _ h => by cases dd <;> exact h) (HS4.out _ (Below.drew (Ext.refl W4))) (fun hHeld => ?_)
      iterate 13 ((refine sched_read (v := ?_) rfl (Or.inl ⟨by rfl, ?_⟩) hHeld ?_; rotate_left 1; · (intro w' hSw; obtain ⟨t0, t1, t2, t3⟩ := hSw; go_simp; (first | done | with_reducible rfl))); (try simp only [Act.put, List.setIfInBounds_toArray, List.set_cons_zero, List.set_cons_succ]))
      have hE4d : Ext W4 W4.drew := Below.drew (Ext.refl W4)
      have hDR := dets_ref A1 c1 (sk.l.map (stK n)) W4.drew (Seg.of_own (own_ext (HC4.out.t.k _ (List.mem_of_getElem? HK4.out)) hE4d)) (by rw [List.length_map]; omega)
      rw [map_stK_d, List.length_map] at hDR
      have HDR := Lib.hid hDR
      clear hDR
      refine sched_eff rfl (fun K hK => ?_)
      go_simp
      refine HDR.out.mono ?_
      rintro e w5 ⟨v, rfl, hown, hE⟩
      obtain ⟨A5, c5, rfl, hs5, -, -⟩ := own_slice hown
      have hE45 : Ext W4 w5 := Ext.trans hE4d hE
      refine hK.out _ _ (HS4.out _ hE45) (fun hHeld => ?_)
      clear hK K HDR
      try simp only [Act.put, List.setIfInBounds_toArray, List.set_cons_zero, List.set_cons_succ]
      have hRM := Dd.rmerge_any r.SA A5 r.Sc c5 r.S (sk.l.map Kn.d) w5 (Seg.of_own (own_ext HC4.out.s hE45)) hs5 (by omega) (by rw [List.length_map]; omega)
      have HRM := Lib.hid hRM
      clear hRM hs5 hown hE
      refine sched_eff rfl (fun K hK => ?_)
      go_simp
      have hRM := HRM.out
      rw [List.length_map] at hRM
      refine hRM.mono ?_
      rintro e w6 ⟨v, rfl, hown, hE⟩
      obtain ⟨A6, c6, rfl, -, -, -⟩ := own_slice hown
      have hE46 : Ext W4 w6 := Ext.trans hE45 hE
      refine hK.out _ _ (HS4.out _ hE46) (fun hHeld => ?_)
      clear hK K HRM hRM
      try simp only [Act.put, List.setIfInBounds_toArray, List.set_cons_zero, List.set_cons_succ]
      iterate 2 ((refine sched_read (v := ?_) rfl (Or.inl ⟨by rfl, ?_⟩) hHeld ?_; rotate_left 1; · (intro w' hSw; obtain ⟨t0, t1, t2, t3⟩ := hSw; go_simp; (first | done | with_reducible rfl))); (try simp only [Act.put, List.setIfInBounds_toArray, List.set_cons_zero, List.set_cons_succ]))
      have hC6 := HC4.out.ext hE46
      have hz46 : base ≤ w5.heap.size := Nat.le_trans hb (Nat.le_trans HL4.out.size hE45.size)
      have HC7 := Lib.hid (hC6.set_sure (own_base hown hz46))
      have hfz6 : w6.frozen? ⟨g, 4, none⟩ = false := hC6.b.frozen 4
      have hce6 := hC6.cells.2.2.2.2.1
      have HL7 : Hid (Below base W (w6.setCell ⟨g, 4, none⟩ (.slice A6 (stockV (r.S ++ sk.l.map Kn.d)).length c6))) := Below.setCell (Below.trans HL4.out (hE46.mono (Nat.le_trans hb HL4.out.size))) H.out.z _
      clear hown hE hE46 hE45 hE4d hC6 hHeld
      refine sched_tail rfl (by decide) (fun K hK => ?_)
      go_simp
      refine hK.out _ (w6.setCell ⟨g, 4, none⟩ (.slice A6 (stockV (r.S ++ sk.l.map Kn.d)).length c6)) ?_
      clear hK K
      refine sched_done ?_
      go_wp2_with fail
      (try simp only [Exit.inBlock, Exit.then]); refine bodyPost_ret (results_none rfl _ _ _) rfl ?_
      refine ⟨rfl, _, HC7.out, ?_, rfl, HL7.out⟩
      unfold ckptV
      rw [HKD.out]
      simp only [Cp.st, List.map_set, ← HKe.out]
    · have HP : Hid (okProc n p = false) := by show _ = _; simp [okProc, h1]
      rw [HP.out, if_neg (by simp), if_neg (by simp)]
      clear HP
      have d1 : decide (p < (n : Int)) = false := decide_eq_false h1
      have HBA : Hid (Blk (W.alloc (.cells #[.int .i64 3, .int .i64 p, .int .i64 o] 74)) W.heap.size 74 #[.int .i64 3, .int .i64 p, .int .i64 o]) := Blk.new W _ _
      have HE1 : Hid (Ext W (W.alloc (.cells #[.int .i64 3, .int .i64 p, .int .i64 o] 74))) := (Ext.refl W).allocs _
      go_enter Try.func53, Try.ntmps53
      go_upto_region 1 with fail
      obtain ⟨W1, hW1⟩ : ∃ W1, W.alloc (.cells #[.int .i64 3, .int .i64 p, .int .i64 o] 74) = W1 := ⟨_, rfl⟩
      obtain ⟨gA, hgA⟩ : ∃ gA, W.heap.size = gA := ⟨_, rfl⟩
      rw [hW1] at HBA HE1 ⊢
      rw [hgA] at HBA ⊢
      have HGA : Hid (base ≤ gA) := by show base ≤ gA; omega
      clear hW1 hgA
      have HC1 := Lib.hid (H.out.ext HE1.out)
      obtain ⟨c0, c1, c2, c3, c4, c5, c6⟩ := HC1.out.cells
      obtain ⟨a0, a1, a2⟩ : _ := (⟨(HBA.out.cell 0).trans rfl, (HBA.out.cell 1).trans rfl, (HBA.out.cell 2).trans rfl⟩ : W1.cell? ⟨gA, 0, none⟩ = some (.int .i64 3) ∧ W1.cell? ⟨gA, 1, none⟩ = some (.int .i64 p) ∧ W1.cell? ⟨gA, 2, none⟩ = some (.int .i64 o))
      go_upto_region 16 with fail
      go_quiet (fail)
      go_wp2_with fail
      (try simp only [Exit.inBlock, Exit.then]); refine bodyPost_ret (results_none rfl _ _ _) rfl ?_
      exact RnPost.ext H.out (HE1.out.drewN nq) hb
  · have HP : Hid (okProc n p = false) := by show _ = _; simp [okProc, h0]
    rw [HP.out, if_neg (by simp), if_neg (by simp)]
    clear HP
    have d0 : decide (0 ≤ p) = false := decide_eq_false h0
    have HBA : Hid (Blk (W.alloc (.cells #[.int .i64 3, .int .i64 p, .int .i64 o] 74)) W.heap.size 74 #[.int .i64 3, .int .i64 p, .int .i64 o]) := Blk.new W _ _
    have HE1 : Hid (Ext W (W.alloc (.cells #[.int .i64 3, .int .i64 p, .int .i64 o] 74))) := (Ext.refl W).allocs _
    go_enter Try.func53, Try.ntmps53
    go_upto_region 1 with fail
    obtain ⟨W1, hW1⟩ : ∃ W1, W.alloc (.cells #[.int .i64 3, .int .i64 p, .int .i64 o] 74) = W1 := ⟨_, rfl⟩
    obtain ⟨gA, hgA⟩ : ∃ gA, W.heap.size = gA := ⟨_, rfl⟩
    rw [hW1] at HBA HE1 ⊢
    rw [hgA] at HBA ⊢
    have HGA : Hid (base ≤ gA) := by show base ≤ gA; omega
    clear hW1 hgA
    have HC1 := Lib.hid (H.out.ext HE1.out)
    obtain ⟨c0, c1, c2, c3, c4, c5, c6⟩ := HC1.out.cells
    obtain ⟨a0, a1, a2⟩ : _ := (⟨(HBA.out.cell 0).trans rfl, (HBA.out.cell 1).trans rfl, (HBA.out.cell 2).trans rfl⟩ : W1.cell? ⟨gA, 0, none⟩ = some (.int .i64 3) ∧ W1.cell? ⟨gA, 1, none⟩ = some (.int .i64 p) ∧ W1.cell? ⟨gA, 2, none⟩ = some (.int .i64 o))
    go_upto_region 16 with fail
    go_quiet (fail)
    go_wp2_with fail
    (try simp only [Exit.inBlock, Exit.then]); refine bodyPost_ret (results_none rfl _ _ _) rfl ?_
    exact RnPost.ext H.out (HE1.out.drewN nq) hb
set_option maxHeartbeats 3200000 in
theorem act_none (W : World) (base g n t : Nat) (f : Int) (r : Rn) (h : RnM W base g n f r) (hb : base ≤ W.heap.size) (k p o : Int) (k1 : ¬ k = 1) (k2 : ¬ k = 2) (k3 : ¬ k = 3) :
    Calls Try.prog 53 #[.pointer (some ⟨g, 0, none⟩), .agg #[.int .i64 k, .int .i64 p, .int .i64 o]] W (RnPost W base g n f (actV n f r.p.st ⟨k, p, o⟩) (sureV n r.p.st r.S ⟨k, p, o⟩)) := by
  have H := Lib.hid h
  clear h
  have HV : Hid (actV n f r.p.st ⟨k, p, o⟩ = r.p.st ∧ sureV n r.p.st r.S ⟨k, p, o⟩ = r.S) := by
    refine ⟨?_, ?_⟩
    · unfold actV; rw [if_neg k1, if_neg k2, if_neg k3]
    · unfold sureV; rw [if_neg k3]
  rw [HV.out.1, HV.out.2]
  clear HV
  have e1 : (k == 1) = false := by simpa using k1
  have e2 : (k == 2) = false := by simpa using k2
  have e3 : (k == 3) = false := by simpa using k3
  have HBA : Hid (Blk (W.alloc (.cells #[.int .i64 k, .int .i64 p, .int .i64 o] 74)) W.heap.size 74 #[.int .i64 k, .int .i64 p, .int .i64 o]) := Blk.new W _ _
  have HE1 : Hid (Ext W (W.alloc (.cells #[.int .i64 k, .int .i64 p, .int .i64 o] 74))) := (Ext.refl W).allocs _
  go_enter Try.func53, Try.ntmps53
  go_upto_region 1 with fail
  obtain ⟨W1, hW1⟩ : ∃ W1, W.alloc (.cells #[.int .i64 k, .int .i64 p, .int .i64 o] 74) = W1 := ⟨_, rfl⟩
  obtain ⟨gA, hgA⟩ : ∃ gA, W.heap.size = gA := ⟨_, rfl⟩
  rw [hW1] at HBA HE1 ⊢
  rw [hgA] at HBA ⊢
  have HGA : Hid (base ≤ gA) := by show base ≤ gA; omega
  clear hW1 hgA
  have HC1 := Lib.hid (H.out.ext HE1.out)
  obtain ⟨a0, a1⟩ : _ := (⟨(HBA.out.cell 0).trans rfl, (HBA.out.cell 1).trans rfl⟩ : W1.cell? ⟨gA, 0, none⟩ = some (.int .i64 k) ∧ W1.cell? ⟨gA, 1, none⟩ = some (.int .i64 p))
  go_wp2_with fail
  (try simp only [Exit.inBlock, Exit.then]); refine bodyPost_ret (results_none rfl _ _ _) rfl ?_
  exact RnPost.ext H.out HE1.out hb
end Go.Proofs.Ytfnnoncdocghjaa
namespace Go.Proofs.Ytfnnoncdocghjaa
open Go.RowKit
set_option linter.unusedVariables false
set_option maxRecDepth 100000

theorem results_cell1 {fn : Func} {p : Tmp} {ty : TypeId} (h : fn.results = #[.cell p ty]) (tmps : Array Value) (P : Program) (w : World) :
    (results fn tmps).run P w = ((asAddr (tmps.getD p undef)).run P w).andThen fun a w₁ => (loadVar ty a).run P w₁ := by
  simp only [results, h]
  simp [Sem.run_bind, Result.andThen]
theorem res_lb {W : World} {b : Nat} {v1 v2 : Value} {tmps : Array Value} (h : Blk W b 28 #[v1, v2]) (h4 : tmps.getD 4 undef = .pointer (some ⟨b, 0, none⟩)) : (results Try.f67 tmps).run Try.prog W = .ok (.agg #[v1, v2]) W := by
  have hl : (loadVar 28 ⟨b, 0, none⟩).run Try.prog W = .ok (.agg #[v1, v2]) W := by
    have c0 : W.cell? ⟨b, 0, none⟩ = some v1 := (h.cell 0).trans rfl
    have c1 : W.cell? ⟨b, 1, none⟩ = some v2 := (h.cell 1).trans rfl
    clear h
    go_simp
  rw [results_cell1 rfl, h4]
  simp [asAddr, hl]
set_option maxHeartbeats 1600000 in
theorem label_any (W : World) (base g n : Nat) (f : Int) (r : Rn) (h : RnM W base g n f r) {q : Nat} {se : Gr Ev} (hse : r.p.t.R[q]? = some se) (hq : q < n) (hn : n ≤ 5) (hel : se.l.length ≤ 64) :
    Calls Try.prog 67 #[.pointer (some ⟨g, 0, none⟩), .int .i64 q] W (ExtPost W (.agg #[.int .i64 0, .int .i64 se.l.length])) := by
  have hE : Ext W (W.alloc (.cells #[.int .i64 0, .int .i64 0] 28)) := (Ext.refl W).allocs _
  obtain ⟨c0, c1, c2, c3, c4, c5, c6⟩ := (h.ext hE).cells
  have hcE := (h.ext hE).t.cellE hse
  have HE := Lib.hid hE
  clear h hE hse
  have hq0 : (0 : Int) ≤ (q : Int) := by omega
  have hq1 : (q : Int) < (n : Int) := by omega
  go_enter Try.func67, Try.ntmps67
  go_wp2_with fail
  (try simp only [Exit.inBlock, Exit.then])
  refine bodyPost_ret (res_lb (Blk.new W _ _) rfl) rfl ?_
  exact ⟨rfl, (Ext.refl W).allocs _⟩
end Go.Proofs.Ytfnnoncdocghjaa
namespace Go.Proofs.Ytfnnoncdocghjaa
open Go.RowKit
set_option linter.unusedVariables false
set_option maxRecDepth 100000

set_option maxHeartbeats 6400000 in
theorem act_send (W : World) (base g n t : Nat) (f : Int) (r : Rn) (h : RnM W base g n f r) (hw : WS n t r.p.st r.S) (ht : t ≤ 200) (hn : n ≤ 5) (hb : base ≤ W.heap.size) (p o : Int) :
    Calls Try.prog 53 #[.pointer (some ⟨g, 0, none⟩), .agg #[.int .i64 1, .int .i64 p, .int .i64 o]] W (RnPost W base g n f (actV n f r.p.st ⟨1, p, o⟩) (sureV n r.p.st r.S ⟨1, p, o⟩)) := by
  have H := Lib.hid h
  have HW := Lib.hid hw.wf
  have hfl : r.p.F.length ≤ 256 := by have := hw.f256; simpa [Cp.st] using this
  clear h hw
  have HV0 : Hid (actV n f r.p.st ⟨1, p, o⟩ = (if canSend n r.p.st p o then sendV f r.p.st p.toNat o.toNat else r.p.st) ∧ sureV n r.p.st r.S ⟨1, p, o⟩ = r.S) := by
    refine ⟨?_, ?_⟩
    · unfold actV; rw [if_pos rfl]
    · unfold sureV; rw [if_neg (show ¬ (1 : Int) = 3 by decide)]
  rw [HV0.out.1, HV0.out.2]
  clear HV0
  by_cases h0 : 0 ≤ p
  · by_cases h1 : p < n
    · by_cases h2 : 0 ≤ o
      · by_cases h3 : o < n
        · by_cases hab : p = o
          · subst hab
            have HV : Hid (canSend n r.p.st p p = false) := by show _ = _; simp [canSend]
            rw [HV.out, if_neg (by simp)]
            clear HV
            have x1 : decide (p < 0) = false := decide_eq_false (by omega)
            have x2 : decide ((n : Int) ≤ p) = false := decide_eq_false (by omega)
            have x5 : (p == p) = true := by simp

            have HBA : Hid (Blk (W.alloc (.cells #[.int .i64 1, .int .i64 p, .int .i64 p] 74)) W.heap.size 74 #[.int .i64 1, .int .i64 p, .int .i64 p]) := Blk.new W _ _
            have HE1 : Hid (Ext W (W.alloc (.cells #[.int .i64 1, .int .i64 p, .int .i64 p] 74))) := (Ext.refl W).allocs _
            go_enter Try.func53, Try.ntmps53
            go_upto_region 1 with fail
            obtain ⟨W1, hW1⟩ : ∃ W1, W.alloc (.cells #[.int .i64 1, .int .i64 p, .int .i64 p] 74) = W1 := ⟨_, rfl⟩
            obtain ⟨gA, hgA⟩ : ∃ gA, W.heap.size = gA := ⟨_, rfl⟩
            rw [hW1] at HBA HE1 ⊢
            rw [hgA] at HBA ⊢
            have HGA : Hid (base ≤ gA) := by show base ≤ gA; omega
            clear hW1 hgA
            have HC1 := Lib.hid (H.out.ext HE1.out)
            obtain ⟨c0, c1, c2, c3, c4, c5, c6⟩ := HC1.out.cells
            obtain ⟨a0, a1, a2⟩ : _ := (⟨(HBA.out.cell 0).trans rfl, (HBA.out.cell 1).trans rfl, (HBA.out.cell 2).trans rfl⟩ : W1.cell? ⟨gA, 0, none⟩ = some (.int .i64 1) ∧ W1.cell? ⟨gA, 1, none⟩ = some (.int .i64 p) ∧ W1.cell? ⟨gA, 2, none⟩ = some (.int .i64 p))
            go_upto_region 3 with fail
            go_quiet (fail)
            go_wp2_with fail
            (try simp only [Exit.inBlock, Exit.then]); refine bodyPost_ret (results_none rfl _ _ _) rfl ?_
            exact RnPost.ext H.out (HE1.out.drewN nq) hb
          · by_cases hfl2 : r.p.F.length < 256
            · obtain ⟨an, rfl⟩ : ∃ an : Nat, p = (an : Int) := ⟨p.toNat, by omega⟩
              obtain ⟨bn, rfl⟩ : ∃ bn : Nat, o = (bn : Int) := ⟨o.toNat, by omega⟩
              have HV : Hid (canSend n r.p.st an bn = true) := canSend_iff.2 ⟨⟨by omega, h1⟩, ⟨by omega, h3⟩, hab, by simpa [Cp.st] using hfl2⟩
              rw [HV.out, if_pos rfl, Int.toNat_natCast, Int.toNat_natCast]
              have han : an < n := by omega
              have hbn : bn < n := by omega
              clear HV
              have hab' : ((an : Int) == (bn : Int)) = false := by simpa using hab
              have hfl2' : decide ((256 : Int) ≤ (r.p.F.length : Int)) = false := decide_eq_false (by omega)
              have d1 : decide ((n : Int) ≤ (an : Int)) = false := decide_eq_false (by omega)
              have d2 : decide ((n : Int) ≤ (bn : Int)) = false := decide_eq_false (by omega)
              obtain ⟨sk, hsk⟩ : ∃ sk, r.p.t.K[an]? = some sk := ⟨_, List.getElem?_eq_getElem (by rw [H.out.t.nk]; exact han)⟩
              obtain ⟨se, hse⟩ : ∃ se, r.p.t.R[an]? = some se := ⟨_, List.getElem?_eq_getElem (by rw [H.out.t.ne]; exact han)⟩
              obtain ⟨so, hso⟩ : ∃ so, r.p.t.os[an]? = some so := ⟨_, List.getElem?_eq_getElem (by rw [H.out.t.no]; exact han)⟩
              obtain ⟨G, hG1, hG2, -⟩ := HW.out.g
              have hkk := hG2 sk.l (List.mem_map.2 ⟨sk, List.mem_of_getElem? hsk, rfl⟩)
              have hkl : sk.l.length ≤ 200 := by have := hkk.len; omega
              have HKK : Hid (∀ k ∈ sk.l, okH k.h) := hkk.ok
              have hel : se.l.length ≤ 64 := HW.out.el se.l (List.mem_map.2 ⟨se, List.mem_of_getElem? hse, rfl⟩)
              have hol : so ≤ 200 := Nat.le_trans (HW.out.ol so (List.mem_of_getElem? hso)) ht
              clear hG1 hG2 hkk
              have HST : Hid (sendV f r.p.st an bn = ⟨r.p.t.os.set an (so + 1), r.p.F.map MgR.m ++ [⟨an, bn, se.l.length, so, sk.l.filter (keepF f)⟩], r.p.t.R.map Gr.l, r.p.t.K.map Gr.l⟩) := by
                show _ = _
                simp [sendV, Cp.st, hsk, hse, hso, List.getD_eq_getElem?_getD]
              rw [HST.out]
              clear HST
              have hal0 : (0 : Int) ≤ (an : Int) := by omega
              have hbl0 : (0 : Int) ≤ (bn : Int) := by omega
              have hn5 : (n : Int) ≤ 5 := by omega
              have HBA : Hid (Blk (W.alloc (.cells #[.int .i64 1, .int .i64 an, .int .i64 bn] 74)) W.heap.size 74 #[.int .i64 1, .int .i64 an, .int .i64 bn]) := Blk.new W _ _
              have HE1 : Hid (Ext W (W.alloc (.cells #[.int .i64 1, .int .i64 an, .int .i64 bn] 74))) := (Ext.refl W).allocs _
              go_enter Try.func53, Try.ntmps53
              go_upto_region 1 with fail
              obtain ⟨W1, hW1⟩ : ∃ W1, W.alloc (.cells #[.int .i64 1, .int .i64 an, .int .i64 bn] 74) = W1 := ⟨_, rfl⟩
              obtain ⟨gA, hgA⟩ : ∃ gA, W.heap.size = gA := ⟨_, rfl⟩
              rw [hW1] at HBA HE1 ⊢
              rw [hgA] at HBA ⊢
              have HGA : Hid (base ≤ gA) := by show base ≤ gA; omega
              clear hW1 hgA
              have HC1 := Lib.hid (H.out.ext HE1.out)
              obtain ⟨c0, c1, c2, c3, c4, c5, c6⟩ := HC1.out.cells
              obtain ⟨a0, a1, a2⟩ : _ := (⟨(HBA.out.cell 0).trans rfl, (HBA.out.cell 1).trans rfl, (HBA.out.cell 2).trans rfl⟩ : W1.cell? ⟨gA, 0, none⟩ = some (.int .i64 1) ∧ W1.cell? ⟨gA, 1, none⟩ = some (.int .i64 an) ∧ W1.cell? ⟨gA, 2, none⟩ = some (.int .i64 bn))
              go_upto_region 3 with fail
              go_quiet (fail)
              go_upto_region 4 with fail
              clear c0 c1 c2 c3 c4 c5 c6 a0 a1 a2
              obtain ⟨W2, hW2⟩ : ∃ W2, W1.drewN nq = W2 := ⟨_, rfl⟩
              have hE2 : Ext W1 W2 := by rw [← hW2]; exact (Ext.refl W1).drewN nq
              rw [hW2]
              have HC2 := Lib.hid (HC1.out.ext hE2)
              have HB2 := Lib.hid (Blk.ext HBA.out hE2)
              have HE2 := Lib.hid (Ext.trans HE1.out hE2)
              clear hW2 hE2 HC1 HBA HE1
              have hz2 : base ≤ W2.heap.size := Nat.le_trans hb HE2.out.size
              have HSS : Hid (∀ W' row, W2.grownBy W' row → (row = none ∨ row = (Value.slice r.p.A r.p.F.length r.p.c).ownBlock) → (fun W' => W'.cell? ⟨g, 6, none⟩ = some (.slice r.p.A r.p.F.length r.p.c) ∧ W'.cell? ⟨gA, 1, none⟩ = some (.int .i64 an) ∧ W'.cell? ⟨gA, 2, none⟩ = some (.int .i64 bn) ∧ W'.cell? ⟨g, 5, none⟩ = some (.slice (some ⟨r.p.t.go, 0, none⟩) n n) ∧ W'.cell? ⟨r.p.t.go, an, none⟩ = some (.int .i64 so) ∧ W'.cell? ⟨g, 3, none⟩ = some (.slice (some ⟨r.p.t.gk, 0, none⟩) n n) ∧ W'.cell? ⟨r.p.t.gk, an, none⟩ = some (.slice sk.A sk.l.length sk.c) ∧ W'.cell? ⟨g, 1, none⟩ = some (.int .i64 f)) W') := fun W' row hW hr => by
                have hty : ∀ t0, t0 ≠ 108 → TyRow W2 row (fun t => t ≠ t0) := fun t0 ht0 => by
                  rcases hr with rfl | rfl
                  · exact TyRow.none _ _
                  · exact TyRow.own HC2.out.f.r (Ne.symm ht0)
                have hb9 := blk_typed HC2.out.b hW (hty _ (by decide))
                have hA9 := blk_typed HB2.out hW (hty _ (by decide))
                refine ⟨(hb9.cell 6).trans rfl, (hA9.cell 1).trans rfl, (hA9.cell 2).trans rfl, (hb9.cell 5).trans rfl, ?_, (hb9.cell 3).trans rfl, ?_, (hb9.cell 1).trans rfl⟩
                · have := Blk.tabAt (blk_typed HC2.out.t.o hW (hty _ (by decide))) Nv.len hso (j := 0) (by omega) (u := .int .i64 so) rfl
                  simpa using this
                · have := Blk.tabAt (blk_typed HC2.out.t.kb hW (hty _ (by decide))) Gr.len hsk (j := 0) (by omega) (u := Gr.val sk) rfl
                  simpa using this
              refine wp_region_sched (by kernel_rfl) 39 [(0, true), (1, true), (2, true), (3, true), (4, true), (5, true), (6, true), (7, true), (8, true), (9, true), (10, true), (11, true), (13, true), (14, true), (15, true), (16, true), (17, true), (18, true), (19, true), (20, true), (21, true), (22, true), (23, true), (24, true), (25, true), (26, true), (27, true), (28, true), (29, true), (30, true), (31, true), (32, true), (12, false), (33, false), (34, true), (35, false), (36, false), (37, true), (38, true), (39, false)] (fun W' => W'.cell? ⟨g, 6, none⟩ = some (.slice r.p.A r.p.F.length r.p.c) ∧ W'.cell? ⟨gA, 1, none⟩ = some (.int .i64 an) ∧ W'.cell? ⟨gA, 2, none⟩ = some (.int .i64 bn) ∧ W'.cell? ⟨g, 5, none⟩ = some (.slice (some ⟨r.p.t.go, 0, none⟩) n n) ∧ W'.cell? ⟨r.p.t.go, an, none⟩ = some (.int .i64 so) ∧ W'.cell? ⟨g, 3, none⟩ = some (.slice (some ⟨r.p.t.gk, 0, none⟩) n n) ∧ W'.cell? ⟨r.p.t.gk, an, none⟩ = some (.slice sk.A sk.l.length sk.c) ∧ W'.cell? ⟨g, 1, none⟩ = some (.int .i64 f)) (by kernel_rfl) (fun _ _ dd _ _ h => by cases dd <;> exact h) (HSS.out _ _ (grownBy_ext (row := none) (Below.drew (Ext.refl W2))) (.inl rfl)) (fun hHeld => ?_)
              iterate 32 ((refine sched_read (v := ?_) rfl (Or.inl ⟨by rfl, ?_⟩) hHeld ?_; rotate_left 1; · (intro w' hSw; obtain ⟨t0, t1, t2, t3, t4, t5, t6, t7⟩ := hSw; go_simp; (first | done | with_reducible rfl))); (try simp only [Act.put, List.setIfInBounds_toArray, List.set_cons_zero, List.set_cons_succ]))
              have hE2d : Ext W2 W2.drew := Below.drew (Ext.refl W2)
              have HLB := Lib.hid (label_any W2.drew base g n f r (HC2.out.ext hE2d) hse han hn hel)
              refine sched_eff rfl (fun K hK => ?_)
              go_simp
              refine HLB.out.mono ?_
              rintro e w3 ⟨rfl, hE⟩
              have hE23 : Ext W2 w3 := Ext.trans hE2d hE
              refine hK.out _ _ (HSS.out _ _ (grownBy_ext (row := none) hE23) (.inl rfl)) (fun hHeld => ?_)
              clear hK K HLB hE hE2d
              try simp only [Act.put, List.setIfInBounds_toArray, List.set_cons_zero, List.set_cons_succ]
              have HCR := Lib.hid (carry_ref sk.A sk.c sk.l f w3 (Seg.of_own (own_ext (HC2.out.t.k sk (List.mem_of_getElem? hsk)) hE23)) (by omega) HKK.out)
              refine sched_eff rfl (fun K hK => ?_)
              go_simp
              refine HCR.out.mono ?_
              rintro e w4 ⟨v, rfl, hown, hE⟩
              obtain ⟨A, c, rfl, -, -, -⟩ := own_slice hown
              have hE24 : Ext W2 w4 := Ext.trans hE23 hE
              have HO4 : Hid (KnOwn w4 base A c (sk.l.filter (keepF f))) := own_base hown (Nat.le_trans hz2 hE23.size)
              refine hK.out _ _ (HSS.out _ _ (grownBy_ext (row := none) hE24) (.inl rfl)) (fun hHeld => ?_)
              clear hK K HCR hown hE hE23
              try simp only [Act.put, List.setIfInBounds_toArray, List.set_cons_zero, List.set_cons_succ]
              iterate 1 ((refine sched_read (v := ?_) rfl (Or.inl ⟨by rfl, ?_⟩) hHeld ?_; rotate_left 1; · (intro w' hSw; obtain ⟨t0, t1, t2, t3, t4, t5, t6, t7⟩ := hSw; go_simp; (first | done | with_reducible rfl))); (try simp only [Act.put, List.setIfInBounds_toArray, List.set_cons_zero, List.set_cons_succ]))
              obtain ⟨x, hx⟩ : ∃ x : MgR, x = ⟨⟨an, bn, se.l.length, so, sk.l.filter (keepF f)⟩, A, c⟩ := ⟨_, rfl⟩
              have HX := Lib.hid hx
              have HO4' : Hid (KnOwn w4 base x.A x.c x.m.kn) := by show KnOwn _ _ _ _ _; rw [hx]; exact HO4.out
              have hxc : (#[.int .i64 an, .int .i64 bn, .int .i64 0, .int .i64 se.l.length, .int .i64 so, .int .i64 0, .int .i64 0, .slice none 0 0, .slice A (sk.l.filter (keepF f)).length c] : Array Value) = x.cells9.toArray := by rw [hx]; rfl
              have HXC := Lib.hid hxc
              clear hx HO4 hxc
              have hEa : Ext W2 (w4.alloc (.cells x.cells9.toArray 108)) := Ext.trans hE24 ((Ext.refl w4).allocs _)
              have HBa : Hid (Blk (w4.alloc (.cells x.cells9.toArray 108)) w4.heap.size 108 x.cells9.toArray) := Blk.new w4 _ _
              have HCa := Lib.hid (HC2.out.ext hEa)
              refine sched_eff rfl (fun K hK => ?_)
              go_simp
              rw [HXC.out]
              refine hK.out _ _ (HSS.out _ _ (grownBy_ext (row := none) hEa) (.inl rfl)) (fun hHeld => ?_)
              clear hK K
              try simp only [Act.put, List.setIfInBounds_toArray, List.set_cons_zero, List.set_cons_succ]
              refine sched_eff rfl (fun K hK => ?_)
              refine step_push_lies MgR.cells9 9 104 MgR.len9 MgR.one9 (by omega) (by rfl) _ _ _ (by rfl) base 108 Try.underlying92 (by kernel_rfl) (.slice r.p.A r.p.F.length r.p.c) r.p.F x w4.heap.size (by rfl) HCa.out.f.r (by rfl) (Seg.ofBlkK HBa.out rfl) (by unfold maxLen; omega) (by omega) (Nat.le_trans hz2 hEa.size) ?_
              intro g9 c9 w9 hown9 hg9 hd9
              have hgr := grownBy_trans (grownBy_ext (row := (Value.slice r.p.A r.p.F.length r.p.c).ownBlock) hEa) hg9
              refine hK.out _ _ (HSS.out _ _ hgr (.inr rfl)) (fun hHeld => ?_)
              clear hK K
              try simp only [Act.put, List.setIfInBounds_toArray, List.set_cons_zero, List.set_cons_succ]
              iterate 2 ((refine sched_read (v := ?_) rfl (Or.inl ⟨by rfl, ?_⟩) hHeld ?_; rotate_left 1; · (intro w' hSw; obtain ⟨t0, t1, t2, t3, t4, t5, t6, t7⟩ := hSw; go_simp; (first | done | with_reducible rfl))); (try simp only [Act.put, List.setIfInBounds_toArray, List.set_cons_zero, List.set_cons_succ]))
              have hty : TyRow W2 (Value.slice r.p.A r.p.F.length r.p.c).ownBlock (fun t => t = 108) := TyRow.own HC2.out.f.r rfl
              have htya : TyRow (w4.alloc (.cells x.cells9.toArray 108)) (Value.slice r.p.A r.p.F.length r.p.c).ownBlock (fun t => t = 108) := TyRow.own HCa.out.f.r rfl
              have hf9 : FlM MgR.cells9 9 108 w9 base (some ⟨g9, 0, none⟩) c9 (r.p.F ++ [x]) := ⟨by have := hown9; simpa using this, fun y hy => by
                rcases List.mem_append.1 hy with hy | hy
                · exact own_typed (HC2.out.f.k y hy) hgr (hty.imp fun t e => by subst e; decide)
                · rw [List.mem_singleton] at hy
                  subst hy
                  exact own_typed (own_ext HO4'.out ((Ext.refl w4).allocs _)) hg9 (htya.imp fun t e => by subst e; decide)⟩
              have HC9 := Lib.hid (HC2.out.set_fl hgr hty hf9)
              have hb9 := blk_typed HC2.out.b hgr (hty.imp fun t e => by subst e; decide)
              have hfz9 : w9.frozen? ⟨g, 6, none⟩ = false := hb9.frozen 6
              have hB9 := blk_typed HB2.out hgr (hty.imp fun t e => by subst e; decide)
              have HL9 : Hid (Below base W (w9.setCell ⟨g, 6, none⟩ (.slice (some ⟨g9, 0, none⟩) (r.p.F ++ [x]).length c9))) := Below.setCell (Below.trans (HE2.out.mono hb) (Below.grown (Below.refl base W2) hgr hz2 (fun k hk => (HC2.out.f.r.lt k hk).1))) H.out.z _
              have hs9 := grown_set1 w9 g 6 (.slice (some ⟨g9, 0, none⟩) (r.p.F ++ [x]).length c9)
              have HB9 := Lib.hid (blk_typed hB9 hs9 (TyRow.blk hb9 (by decide)))
              have hl1 : (r.p.F ++ [x]).length = r.p.F.length + 1 := by simp
              rw [hl1] at HC9 HL9 HB9
              clear hown9 hg9 hd9 hgr hty htya hf9 hEa hl1 hs9 hB9 hb9 hE24
              refine sched_tail rfl (by decide) (fun K hK => ?_)
              go_simp
              refine hK.out _ (w9.setCell ⟨g, 6, none⟩ (.slice (some ⟨g9, 0, none⟩) (r.p.F.length + 1) c9)) ?_
              clear hK K hHeld
              refine sched_done ?_
              generalize w9.setCell ⟨g, 6, none⟩ (.slice (some ⟨g9, 0, none⟩) (r.p.F.length + 1) c9) = W5 at HC9 HL9 HB9 ⊢
              clear hfz9 HC2 HB2 HE2 HSS HBa HCa HO4'
              have HS5 : Hid (∀ W', Ext W5 W' → (fun W' => W'.cell? ⟨g, 5, none⟩ = some (.slice (some ⟨r.p.t.go, 0, none⟩) n n) ∧ W'.cell? ⟨gA, 1, none⟩ = some (.int .i64 an) ∧ W'.cell? ⟨r.p.t.go, an, none⟩ = some (.int .i64 so)) W') := fun W' hW => by
                have h9 := HC9.out.ext hW
                exact ⟨h9.cells.2.2.2.2.2.1, ((Blk.ext HB9.out hW).cell 1).trans rfl, h9.t.cellO hso⟩
              go_upto_region 5 with fail
              refine wp_region_sched (by kernel_rfl) 10 [(0, true), (1, true), (2, true), (3, true), (4, true), (5, true), (6, true), (7, true), (8, true), (9, true), (10, false)] (fun W' => W'.cell? ⟨g, 5, none⟩ = some (.slice (some ⟨r.p.t.go, 0, none⟩) n n) ∧ W'.cell? ⟨gA, 1, none⟩ = some (.int .i64 an) ∧ W'.cell? ⟨r.p.t.go, an, none⟩ = some (.int .i64 so)) (by kernel_rfl) (fun _ _ dd _ _ h => by cases dd <;> exact h) (HS5.out _ (Below.drew (Ext.refl W5))) (fun hHeld => ?_)
              iterate 10 ((refine sched_read (v := ?_) rfl (Or.inl ⟨by rfl, ?_⟩) hHeld ?_; rotate_left 1; · (intro w' hSw; obtain ⟨t0, t1, t2⟩ := hSw; go_simp; (first | done | with_reducible rfl))); (try simp only [Act.put, List.setIfInBounds_toArray, List.set_cons_zero, List.set_cons_succ]))
              have hE5d : Ext W5 W5.drew := Below.drew (Ext.refl W5)
              have hC5 := HC9.out.ext hE5d
              have HC6 : Hid (RnM (W5.setCell ⟨r.p.t.go, an, none⟩ (.int .i64 ((so + 1 : Nat) : Int))).drew base g n f _) := (HC9.out.set_ord han (so + 1)).ext (Below.drew (Ext.refl _))
              have hfz5 : W5.drew.frozen? ⟨r.p.t.go, an, none⟩ = false := hC5.t.o.frozen _
              have hce5 := hC5.t.cellO hso
              have HL6 : Hid (Below base W (W5.setCell ⟨r.p.t.go, an, none⟩ (.int .i64 ((so + 1 : Nat) : Int))).drew) := Below.drew (Below.setCell HL9.out H.out.t.zo _)
              have hws : IntKind.i64.wrap ((so : Int) + 1) = (so : Int) + 1 := IntWalk.i64_in _ (by omega)
              have hso1 : ((so + 1 : Nat) : Int) = (so : Int) + 1 := by omega
              rw [hso1] at HC6 HL6
              clear hso1 hC5 hE5d hHeld
              refine sched_tail rfl (by decide) (fun K hK => ?_)
              go_simp
              try rw [hws]
              refine hK.out _ (W5.setCell ⟨r.p.t.go, an, none⟩ (.int .i64 ((so : Int) + 1))).drew ?_
              clear hK K
              refine sched_done ?_
              go_wp2_with fail
              (try simp only [Exit.inBlock, Exit.then]); refine bodyPost_ret (results_none rfl _ _ _) rfl ?_
              refine ⟨rfl, _, HC6.out, ?_, rfl, HL6.out⟩
              simp [Cp.st, HX.out]
            · have HV : Hid (canSend n r.p.st p o = false) := by
                show _ = _
                have hf3 : decide (r.p.st.fl.length < 256) = false := decide_eq_false (by simpa [Cp.st] using hfl2)
                unfold canSend
                rw [hf3, Bool.and_false]
              rw [HV.out, if_neg (by simp)]
              clear HV
              have x1 : decide (p < 0) = false := decide_eq_false (by omega)
              have x2 : decide ((n : Int) ≤ p) = false := decide_eq_false (by omega)
              have x3 : decide (o < 0) = false := decide_eq_false (by omega)
              have x4 : decide ((n : Int) ≤ o) = false := decide_eq_false (by omega)
              have x5 : (p == o) = false := by simpa using hab
              have x6 : decide ((256 : Int) ≤ (r.p.F.length : Int)) = true := decide_eq_true (by omega)

              have HBA : Hid (Blk (W.alloc (.cells #[.int .i64 1, .int .i64 p, .int .i64 o] 74)) W.heap.size 74 #[.int .i64 1, .int .i64 p, .int .i64 o]) := Blk.new W _ _
              have HE1 : Hid (Ext W (W.alloc (.cells #[.int .i64 1, .int .i64 p, .int .i64 o] 74))) := (Ext.refl W).allocs _
              go_enter Try.func53, Try.ntmps53
              go_upto_region 1 with fail
              obtain ⟨W1, hW1⟩ : ∃ W1, W.alloc (.cells #[.int .i64 1, .int .i64 p, .int .i64 o] 74) = W1 := ⟨_, rfl⟩
              obtain ⟨gA, hgA⟩ : ∃ gA, W.heap.size = gA := ⟨_, rfl⟩
              rw [hW1] at HBA HE1 ⊢
              rw [hgA] at HBA ⊢
              have HGA : Hid (base ≤ gA) := by show base ≤ gA; omega
              clear hW1 hgA
              have HC1 := Lib.hid (H.out.ext HE1.out)
              obtain ⟨c0, c1, c2, c3, c4, c5, c6⟩ := HC1.out.cells
              obtain ⟨a0, a1, a2⟩ : _ := (⟨(HBA.out.cell 0).trans rfl, (HBA.out.cell 1).trans rfl, (HBA.out.cell 2).trans rfl⟩ : W1.cell? ⟨gA, 0, none⟩ = some (.int .i64 1) ∧ W1.cell? ⟨gA, 1, none⟩ = some (.int .i64 p) ∧ W1.cell? ⟨gA, 2, none⟩ = some (.int .i64 o))
              go_upto_region 3 with fail
              go_quiet (fail)
              go_wp2_with fail
              (try simp only [Exit.inBlock, Exit.then]); refine bodyPost_ret (results_none rfl _ _ _) rfl ?_
              exact RnPost.ext H.out (HE1.out.drewN nq) hb
        · have HV : Hid (canSend n r.p.st p o = false) := by show _ = _; simp [canSend, okProc, h3]
          rw [HV.out, if_neg (by simp)]
          clear HV
          have x1 : decide (p < 0) = false := decide_eq_false (by omega)
          have x2 : decide ((n : Int) ≤ p) = false := decide_eq_false (by omega)
          have x3 : decide (o < 0) = false := decide_eq_false (by omega)
          have x4 : decide ((n : Int) ≤ o) = true := decide_eq_true (by omega)

          have HBA : Hid (Blk (W.alloc (.cells #[.int .i64 1, .int .i64 p, .int .i64 o] 74)) W.heap.size 74 #[.int .i64 1, .int .i64 p, .int .i64 o]) := Blk.new W _ _
          have HE1 : Hid (Ext W (W.alloc (.cells #[.int .i64 1, .int .i64 p, .int .i64 o] 74))) := (Ext.refl W).allocs _
          go_enter Try.func53, Try.ntmps53
          go_upto_region 1 with fail
          obtain ⟨W1, hW1⟩ : ∃ W1, W.alloc (.cells #[.int .i64 1, .int .i64 p, .int .i64 o] 74) = W1 := ⟨_, rfl⟩
          obtain ⟨gA, hgA⟩ : ∃ gA, W.heap.size = gA := ⟨_, rfl⟩
          rw [hW1] at HBA HE1 ⊢
          rw [hgA] at HBA ⊢
          have HGA : Hid (base ≤ gA) := by show base ≤ gA; omega
          clear hW1 hgA
          have HC1 := Lib.hid (H.out.ext HE1.out)
          obtain ⟨c0, c1, c2, c3, c4, c5, c6⟩ := HC1.out.cells
          obtain ⟨a0, a1, a2⟩ : _ := (⟨(HBA.out.cell 0).trans rfl, (HBA.out.cell 1).trans rfl, (HBA.out.cell 2).trans rfl⟩ : W1.cell? ⟨gA, 0, none⟩ = some (.int .i64 1) ∧ W1.cell? ⟨gA, 1, none⟩ = some (.int .i64 p) ∧ W1.cell? ⟨gA, 2, none⟩ = some (.int .i64 o))
          go_upto_region 3 with fail
          go_quiet (fail)
          go_wp2_with fail
          (try simp only [Exit.inBlock, Exit.then]); refine bodyPost_ret (results_none rfl _ _ _) rfl ?_
          exact RnPost.ext H.out (HE1.out.drewN nq) hb
      · have HV : Hid (canSend n r.p.st p o = false) := by show _ = _; simp [canSend, okProc, h2]
        rw [HV.out, if_neg (by simp)]
        clear HV
        have x1 : decide (p < 0) = false := decide_eq_false (by omega)
        have x2 : decide ((n : Int) ≤ p) = false := decide_eq_false (by omega)
        have x3 : decide (o < 0) = true := decide_eq_true (by omega)

        have HBA : Hid (Blk (W.alloc (.cells #[.int .i64 1, .int .i64 p, .int .i64 o] 74)) W.heap.size 74 #[.int .i64 1, .int .i64 p, .int .i64 o]) := Blk.new W _ _
        have HE1 : Hid (Ext W (W.alloc (.cells #[.int .i64 1, .int .i64 p, .int .i64 o] 74))) := (Ext.refl W).allocs _
        go_enter Try.func53, Try.ntmps53
        go_upto_region 1 with fail
        obtain ⟨W1, hW1⟩ : ∃ W1, W.alloc (.cells #[.int .i64 1, .int .i64 p, .int .i64 o] 74) = W1 := ⟨_, rfl⟩
        obtain ⟨gA, hgA⟩ : ∃ gA, W.heap.size = gA := ⟨_, rfl⟩
        rw [hW1] at HBA HE1 ⊢
        rw [hgA] at HBA ⊢
        have HGA : Hid (base ≤ gA) := by show base ≤ gA; omega
        clear hW1 hgA
        have HC1 := Lib.hid (H.out.ext HE1.out)
        obtain ⟨c0, c1, c2, c3, c4, c5, c6⟩ := HC1.out.cells
        obtain ⟨a0, a1, a2⟩ : _ := (⟨(HBA.out.cell 0).trans rfl, (HBA.out.cell 1).trans rfl, (HBA.out.cell 2).trans rfl⟩ : W1.cell? ⟨gA, 0, none⟩ = some (.int .i64 1) ∧ W1.cell? ⟨gA, 1, none⟩ = some (.int .i64 p) ∧ W1.cell? ⟨gA, 2, none⟩ = some (.int .i64 o))
        go_upto_region 3 with fail
        go_quiet (fail)
        go_wp2_with fail
        (try simp only [Exit.inBlock, Exit.then]); refine bodyPost_ret (results_none rfl _ _ _) rfl ?_
        exact RnPost.ext H.out (HE1.out.drewN nq) hb
    · have HV : Hid (canSend n r.p.st p o = false) := by show _ = _; simp [canSend, okProc, h1]
      rw [HV.out, if_neg (by simp)]
      clear HV
      have x1 : decide (p < 0) = false := decide_eq_false (by omega)
      have x2 : decide ((n : Int) ≤ p) = true := decide_eq_true (by omega)

      have HBA : Hid (Blk (W.alloc (.cells #[.int .i64 1, .int .i64 p, .int .i64 o] 74)) W.heap.size 74 #[.int .i64 1, .int .i64 p, .int .i64 o]) := Blk.new W _ _
      have HE1 : Hid (Ext W (W.alloc (.cells #[.int .i64 1, .int .i64 p, .int .i64 o] 74))) := (Ext.refl W).allocs _
      go_enter Try.func53, Try.ntmps53
      go_upto_region 1 with fail
      obtain ⟨W1, hW1⟩ : ∃ W1, W.alloc (.cells #[.int .i64 1, .int .i64 p, .int .i64 o] 74) = W1 := ⟨_, rfl⟩
      obtain ⟨gA, hgA⟩ : ∃ gA, W.heap.size = gA := ⟨_, rfl⟩
      rw [hW1] at HBA HE1 ⊢
      rw [hgA] at HBA ⊢
      have HGA : Hid (base ≤ gA) := by show base ≤ gA; omega
      clear hW1 hgA
      have HC1 := Lib.hid (H.out.ext HE1.out)
      obtain ⟨c0, c1, c2, c3, c4, c5, c6⟩ := HC1.out.cells
      obtain ⟨a0, a1, a2⟩ : _ := (⟨(HBA.out.cell 0).trans rfl, (HBA.out.cell 1).trans rfl, (HBA.out.cell 2).trans rfl⟩ : W1.cell? ⟨gA, 0, none⟩ = some (.int .i64 1) ∧ W1.cell? ⟨gA, 1, none⟩ = some (.int .i64 p) ∧ W1.cell? ⟨gA, 2, none⟩ = some (.int .i64 o))
      go_upto_region 3 with fail
      go_quiet (fail)
      go_wp2_with fail
      (try simp only [Exit.inBlock, Exit.then]); refine bodyPost_ret (results_none rfl _ _ _) rfl ?_
      exact RnPost.ext H.out (HE1.out.drewN nq) hb
  · have HV : Hid (canSend n r.p.st p o = false) := by show _ = _; simp [canSend, okProc, h0]
    rw [HV.out, if_neg (by simp)]
    clear HV
    have x1 : decide (p < 0) = true := decide_eq_true (by omega)

    have HBA : Hid (Blk (W.alloc (.cells #[.int .i64 1, .int .i64 p, .int .i64 o] 74)) W.heap.size 74 #[.int .i64 1, .int .i64 p, .int .i64 o]) := Blk.new W _ _
    have HE1 : Hid (Ext W (W.alloc (.cells #[.int .i64 1, .int .i64 p, .int .i64 o] 74))) := (Ext.refl W).allocs _
    go_enter Try.func53, Try.ntmps53
    go_upto_region 1 with fail
    obtain ⟨W1, hW1⟩ : ∃ W1, W.alloc (.cells #[.int .i64 1, .int .i64 p, .int .i64 o] 74) = W1 := ⟨_, rfl⟩
    obtain ⟨gA, hgA⟩ : ∃ gA, W.heap.size = gA := ⟨_, rfl⟩
    rw [hW1] at HBA HE1 ⊢
    rw [hgA] at HBA ⊢
    have HGA : Hid (base ≤ gA) := by show base ≤ gA; omega
    clear hW1 hgA
    have HC1 := Lib.hid (H.out.ext HE1.out)
    obtain ⟨c0, c1, c2, c3, c4, c5, c6⟩ := HC1.out.cells
    obtain ⟨a0, a1, a2⟩ : _ := (⟨(HBA.out.cell 0).trans rfl, (HBA.out.cell 1).trans rfl, (HBA.out.cell 2).trans rfl⟩ : W1.cell? ⟨gA, 0, none⟩ = some (.int .i64 1) ∧ W1.cell? ⟨gA, 1, none⟩ = some (.int .i64 p) ∧ W1.cell? ⟨gA, 2, none⟩ = some (.int .i64 o))
    go_upto_region 3 with fail
    go_quiet (fail)
    go_wp2_with fail
    (try simp only [Exit.inBlock, Exit.then]); refine bodyPost_ret (results_none rfl _ _ _) rfl ?_
    exact RnPost.ext H.out (HE1.out.drewN nq) hb
end Go.Proofs.Ytfnnoncdocghjaa
namespace Go.Proofs.Ytfnnoncdocghjaa
open Go.RowKit
set_option linter.unusedVariables false
set_option maxRecDepth 100000

theorem infoMsg : (Try.prog.info? 108).map (fun i => (i.zero, i.size, i.bytes)) = some (some (.agg #[.int .i64 0, .int .i64 0, .int .i64 0, .int .i64 0, .int .i64 0, .int .i64 0, .int .i64 0, .slice none 0 0, .slice none 0 0]), 9, 104) := by kernel_rfl
theorem MgR.ones9 (l : List MgR) : ∀ u ∈ l.flatMap MgR.cells9, u.oneCell' = true := by
  intro u hu
  obtain ⟨a, _, h⟩ := List.mem_flatMap.1 hu
  exact MgR.one9 a u h
theorem ext_grownR {w w' : World} (h : Ext w w') (row : Option Nat) : w.grownBy w' row := ⟨h.os, h.tape, h.output, h.size, fun k hk _ => h.block k hk⟩
/-- append of a slice that reads as messages -/
theorem run_catM (base : Nat) (ty : TypeId) (v : Value) (a b : List MgR) (w : World) (hown : w.ownsRow base 108 9 v a.length (a.flatMap MgR.cells9)) (B : Option Addr) (c : Nat) (hb : Seg w 9 B b.length (b.flatMap MgR.cells9)) (hl : a.length + b.length ≤ 2000) (hbase : base ≤ w.heap.size) :
    ∃ v' w', (Builtin.append_ #[92, 92] ty #[v, .slice B b.length c]).run Try.prog w = .ok v' w' ∧ w'.ownsRow base 108 9 v' (a ++ b).length ((a ++ b).flatMap MgR.cells9) ∧ w.grownBy w' v.ownBlock := by
  obtain ⟨i0, hi, hz0, hz1, hz2⟩ := info_parts infoMsg
  cases B with
  | none =>
    have hl0 : b = [] := by
      cases b with
      | nil => rfl
      | cons x b =>
        obtain ⟨_, _, h, _⟩ := hb.2 (by simp)
        cases h
    subst hl0
    obtain ⟨A, cA, rfl, _, hle, _⟩ := own_slice hown
    refine ⟨_, _, run_append_nothing w _ _ ty _ i0 Try.underlying92 hi A a.length cA hle _ (Src.ofNil w Try.underlying92 c), by rw [List.append_nil]; exact hown, ext_grownR (Ext.refl w) _⟩
  | some ad =>
    have hnews : ∀ k u, (b.flatMap MgR.cells9)[k]? = some u → w.cell? (ad.add k) = some u := by
      intro k u hu
      have hk := (List.getElem?_eq_some_iff.1 hu).1
      rw [flat_len MgR.cells9 9 MgR.len9] at hk
      obtain ⟨x, off, h, _, hc⟩ := hb.2 (by omega)
      injection h with h
      subst h
      have hadd : (⟨x, off, none⟩ : Addr).add k = ⟨x, off + k, none⟩ := by unfold Addr.add; split <;> simp_all
      rw [hadd]
      exact hc k u hu
    obtain ⟨v', w', hr, h2, h3, _, _⟩ := run_append_own_at (P := Try.prog) w base _ ty _ i0 _ 9 104 Try.underlying92 hi hz0 hz1 hz2 rfl (by omega) v a.length _ hown ad b.length c (b.flatMap MgR.cells9) (flat_len MgR.cells9 9 MgR.len9 b) hnews (MgR.ones9 b) (by unfold maxLen; omega) (by omega) hbase
    exact ⟨v', w', hr, by rw [List.length_append, List.flatMap_append]; exact h2, h3⟩
theorem step_catM {ops : Array Oper} {o : Oper} {ac : Act} {K : Act → World → Prop} {Q : Exit → Act → World → Prop} {E : Prop} {w : World} (hgd : o.guard = none) (s x : Operand) (ho : o.op = .call { callee := .builtin .append, args := #[s, x], argTypes := #[92, 92] })
    (base : Nat) (v : Value) (a b : List MgR) (hs : ac.eval s = v) (hown : w.ownsRow base 108 9 v a.length (a.flatMap MgR.cells9)) (B : Option Addr) (n c : Nat) (hn : n = b.length) (hx : ac.eval x = .slice B n c) (hb : Seg w 9 B b.length (b.flatMap MgR.cells9)) (hl : a.length + b.length ≤ 2000) (hbase : base ≤ w.heap.size)
    (h : ∀ v' w', w'.ownsRow base 108 9 v' (a ++ b).length ((a ++ b).flatMap MgR.cells9) → w.grownBy w' v.ownBlock → K (ac.put o.dst v') w') : if Region.wanted o (yielded ops ac.tmps) = true then Oper.wp Try.prog o ac w K Q else E := by
  have hw : Region.wanted o (yielded ops ac.tmps) = true := by simp [Region.wanted, hgd]
  rw [if_pos hw]
  subst hn
  obtain ⟨v', w', hr, h2, h3⟩ := run_catM base o.type v a b w hown B c hb hl hbase
  unfold Oper.wp execOp
  simp only [ho, resolve, invoke, builtin, Sem.run_bind, Sem.run_pure, Result.andThen_ok, List.map_toArray, List.map_cons, List.map_nil, hs, hx, hr]
  exact h v' w' h2 h3
theorem run_preM (w : World) (g n cap hi : Nat) (hh : hi ≤ cap) : (Instr.slice 92 (.slice (some ⟨g, 0, none⟩) n cap) none (some (.int .i64 (hi : Int))) none).run Try.prog w = .ok (.slice (some ⟨g, 0, none⟩) hi cap) w := by
  obtain ⟨i0, hi0, hz0, hz1, hz2⟩ := info_parts infoMsg
  have h3 : (hi : Int) ≤ (cap : Int) := by omega
  have h4 : (0 : Int) ≤ (hi : Int) := by omega
  simp [Instr.slice, Instr.sliceBounds, run_underlying Try.underlying92, go_sem, sizeOf, typeInfo, hi0, h3, h4]
def sufM (g cap lo : Nat) : Addr := if cap = lo then ⟨g, 0, none⟩ else ⟨g, lo * 9, none⟩
theorem run_sufM (w : World) (g n cap lo m : Nat) (li : Int) (hli : li = lo) (hh : n = lo + m) (hc : n ≤ cap) : (Instr.slice 92 (.slice (some ⟨g, 0, none⟩) n cap) (some (.int .i64 li)) none none).run Try.prog w = .ok (.slice (some (sufM g cap lo)) m (cap - lo)) w := by
  subst hli
  obtain ⟨i0, hi0, hz0, hz1, hz2⟩ := info_parts infoMsg
  have h5 : (0 : Int) ≤ (lo : Int) := by omega
  have h6 : (lo : Int) ≤ (n : Int) := by omega
  have h7 : n - lo = m := by omega
  unfold sufM
  by_cases he : cap = lo
  · simp [Instr.slice, Instr.sliceBounds, run_underlying Try.underlying92, go_sem, sizeOf, typeInfo, hi0, h5, h6, he, h7]
  · simp [Instr.slice, Instr.sliceBounds, run_underlying Try.underlying92, go_sem, sizeOf, typeInfo, hi0, h5, h6, he, hz1, h7]
theorem flat_dropM (l : List MgR) (k : Nat) (hk : k ≤ l.length) : (l.drop k).flatMap MgR.cells9 = (l.flatMap MgR.cells9).drop (k * 9) := by
  have e : l.flatMap MgR.cells9 = (l.take k).flatMap MgR.cells9 ++ (l.drop k).flatMap MgR.cells9 := by rw [← List.flatMap_append, List.take_append_drop]
  have hA : ((l.take k).flatMap MgR.cells9).length = k * 9 := by rw [flat_len MgR.cells9 9 MgR.len9, List.length_take, Nat.min_eq_left hk]
  rw [e, ← hA]
  exact List.drop_left.symm
theorem flat_takeM (l : List MgR) (k : Nat) (hk : k ≤ l.length) : (l.take k).flatMap MgR.cells9 = (l.flatMap MgR.cells9).take (k * 9) := by
  have e : l.flatMap MgR.cells9 = (l.take k).flatMap MgR.cells9 ++ (l.drop k).flatMap MgR.cells9 := by rw [← List.flatMap_append, List.take_append_drop]
  have hA : ((l.take k).flatMap MgR.cells9).length = k * 9 := by rw [flat_len MgR.cells9 9 MgR.len9, List.length_take, Nat.min_eq_left hk]
  rw [e, ← hA]
  exact List.take_left.symm
theorem seg_preM {w : World} {g : Nat} {l : List MgR} (h : Seg w 9 (some ⟨g, 0, none⟩) l.length (l.flatMap MgR.cells9)) {i : Nat} (hi : i ≤ l.length) : Seg w 9 (some ⟨g, 0, none⟩) (l.take i).length ((l.take i).flatMap MgR.cells9) := by
  refine ⟨by rw [flat_len MgR.cells9 9 MgR.len9], fun h0 => ?_⟩
  have h0' : 0 < i := by rw [List.length_take] at h0; omega
  obtain ⟨b, off, hA, hb, hc⟩ := h.2 (by omega)
  refine ⟨b, off, hA, hb, fun j u hu => hc j u ?_⟩
  rw [flat_takeM l i hi] at hu
  have hj := (List.getElem?_eq_some_iff.1 hu).1
  rw [List.length_take] at hj
  rwa [List.getElem?_take_of_lt (by omega)] at hu
theorem seg_sufM {w : World} {g cap : Nat} {l : List MgR} (h : Seg w 9 (some ⟨g, 0, none⟩) l.length (l.flatMap MgR.cells9)) {lo : Nat} (hlo : lo ≤ l.length) (hc : l.length ≤ cap) : Seg w 9 (some (sufM g cap lo)) (l.drop lo).length ((l.drop lo).flatMap MgR.cells9) := by
  refine ⟨by rw [flat_len MgR.cells9 9 MgR.len9], fun h0 => ?_⟩
  rw [List.length_drop] at h0
  obtain ⟨b, off, hA, hb, hcc⟩ := h.2 (by omega)
  injection hA with hA
  injection hA with hA1 hA2
  subst hA1 hA2
  unfold sufM
  rw [if_neg (by omega)]
  refine ⟨g, lo * 9, rfl, hb, fun j u hu => ?_⟩
  rw [flat_dropM l lo hlo, List.getElem?_drop] at hu
  have := hcc (lo * 9 + j) u hu
  rwa [Nat.zero_add] at this
def putM (W : World) (g : Nat) (x : MgR) : World := ((((((((W.setCell ⟨g, 0, none⟩ (.int .i64 x.m.frm)).setCell ⟨g, 1, none⟩ (.int .i64 x.m.dst)).setCell ⟨g, 2, none⟩ (.int .i64 0)).setCell ⟨g, 3, none⟩ (.int .i64 x.m.idx)).setCell ⟨g, 4, none⟩ (.int .i64 x.m.ord)).setCell ⟨g, 5, none⟩ (.int .i64 0)).setCell ⟨g, 6, none⟩ (.int .i64 0)).setCell ⟨g, 7, none⟩ (.slice none 0 0)).setCell ⟨g, 8, none⟩ (.slice x.A x.m.kn.length x.c)
theorem Blk.putM {W : World} {g : Nat} {t : TypeId} {a0 a1 a2 a3 a4 a5 a6 a7 a8 : Value} (h : Blk W g t #[a0, a1, a2, a3, a4, a5, a6, a7, a8]) (x : MgR) : Blk (Go.Proofs.Ytfnnoncdocghjaa.putM W g x) g t x.cells9.toArray := by
  have := Blk.sets (w := W) x.cells9 0 W [a0, a1, a2, a3, a4, a5, a6, a7, a8] h
  exact this
theorem Ext.putM {W0 W : World} (h : Ext W0 W) {g : Nat} (hg : W0.heap.size ≤ g) (x : MgR) : Ext W0 (Go.Proofs.Ytfnnoncdocghjaa.putM W g x) := by
  show Ext W0 (((((((((W.setCell ⟨g, 0, none⟩ _).setCell ⟨g, 1, none⟩ _).setCell ⟨g, 2, none⟩ _).setCell ⟨g, 3, none⟩ _).setCell ⟨g, 4, none⟩ _).setCell ⟨g, 5, none⟩ _).setCell ⟨g, 6, none⟩ _).setCell ⟨g, 7, none⟩ _).setCell ⟨g, 8, none⟩ _)
  exact ((((((((h.set hg _).set hg _).set hg _).set hg _).set hg _).set hg _).set hg _).set hg _).set hg _
theorem blk9v {w : World} {g : Nat} {t : TypeId} {v0 v1 v2 v3 v4 v5 v6 v7 v8 : Value} (h : Blk w g t #[v0, v1, v2, v3, v4, v5, v6, v7, v8]) :
    (w.cell? ⟨g, 0, none⟩ = some v0 ∧ w.cell? ⟨g, 1, none⟩ = some v1 ∧ w.cell? ⟨g, 2, none⟩ = some v2 ∧ w.cell? ⟨g, 3, none⟩ = some v3 ∧ w.cell? ⟨g, 4, none⟩ = some v4 ∧ w.cell? ⟨g, 5, none⟩ = some v5 ∧ w.cell? ⟨g, 6, none⟩ = some v6 ∧ w.cell? ⟨g, 7, none⟩ = some v7 ∧ w.cell? ⟨g, 8, none⟩ = some v8) ∧
    w.frozen? ⟨g, 0, none⟩ = false ∧ w.frozen? ⟨g, 1, none⟩ = false ∧ w.frozen? ⟨g, 2, none⟩ = false ∧ w.frozen? ⟨g, 3, none⟩ = false ∧ w.frozen? ⟨g, 4, none⟩ = false ∧ w.frozen? ⟨g, 5, none⟩ = false ∧ w.frozen? ⟨g, 6, none⟩ = false ∧ w.frozen? ⟨g, 7, none⟩ = false ∧ w.frozen? ⟨g, 8, none⟩ = false :=
  ⟨⟨(h.cell 0).trans rfl, (h.cell 1).trans rfl, (h.cell 2).trans rfl, (h.cell 3).trans rfl, (h.cell 4).trans rfl, (h.cell 5).trans rfl, (h.cell 6).trans rfl, (h.cell 7).trans rfl, (h.cell 8).trans rfl⟩, h.frozen 0, h.frozen 1, h.frozen 2, h.frozen 3, h.frozen 4, h.frozen 5, h.frozen 6, h.frozen 7, h.frozen 8⟩
theorem MgR.blk9 {W : World} {g : Nat} {x : MgR} (h : Blk W g 108 x.cells9.toArray) : W.cell? ⟨g, 0, none⟩ = some (.int .i64 x.m.frm) ∧ W.cell? ⟨g, 1, none⟩ = some (.int .i64 x.m.dst) ∧ W.cell? ⟨g, 2, none⟩ = some (.int .i64 0) ∧ W.cell? ⟨g, 3, none⟩ = some (.int .i64 x.m.idx) ∧ W.cell? ⟨g, 4, none⟩ = some (.int .i64 x.m.ord) ∧ W.cell? ⟨g, 8, none⟩ = some (.slice x.A x.m.kn.length x.c) :=
  ⟨(h.cell 0).trans rfl, (h.cell 1).trans rfl, (h.cell 2).trans rfl, (h.cell 3).trans rfl, (h.cell 4).trans rfl, (h.cell 8).trans rfl⟩
theorem erase_split {α : Type} (l : List α) (i : Nat) (h : i < l.length) : l.take i ++ l.drop (i + 1) = l.eraseIdx i := (List.eraseIdx_eq_take_drop_succ l i).symm
end Go.Proofs.Ytfnnoncdocghjaa
namespace Go.Proofs.Ytfnnoncdocghjaa
open Go.RowKit
set_option linter.unusedVariables false
set_option maxRecDepth 100000

set_option maxHeartbeats 12800000 in
theorem act_recv (W : World) (base g n t : Nat) (f : Int) (r : Rn) (h : RnM W base g n f r) (hw : WS n t r.p.st r.S) (ht : t ≤ 200) (hn : n ≤ 5) (hb : base ≤ W.heap.size) (p o : Int) :
    Calls Try.prog 53 #[.pointer (some ⟨g, 0, none⟩), .agg #[.int .i64 2, .int .i64 p, .int .i64 o]] W (RnPost W base g n f (actV n f r.p.st ⟨2, p, o⟩) (sureV n r.p.st r.S ⟨2, p, o⟩)) := by
  have H := Lib.hid h
  have HW := Lib.hid hw.wf
  have hfl : r.p.F.length ≤ 256 := by have := hw.f256; simpa [Cp.st] using this
  clear h hw
  have HV0 : Hid (actV n f r.p.st ⟨2, p, o⟩ = (if canRecv r.p.st o then recvV r.p.st o.toNat else r.p.st) ∧ sureV n r.p.st r.S ⟨2, p, o⟩ = r.S) := by
    refine ⟨?_, ?_⟩
    · unfold actV; rw [if_neg (show ¬ (2 : Int) = 1 by decide), if_pos rfl]
    · unfold sureV; rw [if_neg (show ¬ (2 : Int) = 3 by decide)]
  rw [HV0.out.1, HV0.out.2]
  clear HV0
  by_cases h0 : o < 0
  · have HV : Hid (canRecv r.p.st o = false) := by
      show _ = _
      have : decide (0 ≤ o) = false := decide_eq_false (by omega)
      unfold canRecv
      rw [this]; rfl
    rw [HV.out, if_neg (by simp)]
    clear HV
    have x1 : decide (o < 0) = true := decide_eq_true h0

    have HBA : Hid (Blk (W.alloc (.cells #[.int .i64 2, .int .i64 p, .int .i64 o] 74)) W.heap.size 74 #[.int .i64 2, .int .i64 p, .int .i64 o]) := Blk.new W _ _
    have HE1 : Hid (Ext W (W.alloc (.cells #[.int .i64 2, .int .i64 p, .int .i64 o] 74))) := (Ext.refl W).allocs _
    go_enter Try.func53, Try.ntmps53
    go_upto_region 1 with fail
    obtain ⟨W1, hW1⟩ : ∃ W1, W.alloc (.cells #[.int .i64 2, .int .i64 p, .int .i64 o] 74) = W1 := ⟨_, rfl⟩
    obtain ⟨gA, hgA⟩ : ∃ gA, W.heap.size = gA := ⟨_, rfl⟩
    rw [hW1] at HBA HE1 ⊢
    rw [hgA] at HBA ⊢
    have HGA : Hid (base ≤ gA) := by show base ≤ gA; omega
    clear hW1 hgA
    have HC1 := Lib.hid (H.out.ext HE1.out)
    obtain ⟨c0, c1, c2, c3, c4, c5, c6⟩ := HC1.out.cells
    obtain ⟨a0, a1, a2⟩ : _ := (⟨(HBA.out.cell 0).trans rfl, (HBA.out.cell 1).trans rfl, (HBA.out.cell 2).trans rfl⟩ : W1.cell? ⟨gA, 0, none⟩ = some (.int .i64 2) ∧ W1.cell? ⟨gA, 1, none⟩ = some (.int .i64 p) ∧ W1.cell? ⟨gA, 2, none⟩ = some (.int .i64 o))
    go_upto_region 7 with fail
    go_quiet (fail)
    go_wp2_with fail
    (try simp only [Exit.inBlock, Exit.then]); refine bodyPost_ret (results_none rfl _ _ _) rfl ?_
    exact RnPost.ext H.out (HE1.out.drewN nq) hb
  · by_cases hlt : o < r.p.F.length
    · obtain ⟨i, rfl⟩ : ∃ i : Nat, o = (i : Int) := ⟨o.toNat, by omega⟩
      have hil : i < r.p.F.length := by omega
      obtain ⟨x, hx⟩ : ∃ x, r.p.F[i]? = some x := ⟨_, List.getElem?_eq_getElem hil⟩
      obtain ⟨gF, hA, hgb, hgs, hxc⟩ := H.out.row hx
      obtain ⟨G, hG1, hG2, hG3⟩ := HW.out.g
      have hxm : x.m ∈ r.p.st.fl := List.mem_map.2 ⟨x, List.mem_of_getElem? hx, rfl⟩
      have hmo := hG3 x.m hxm
      have hqn : x.m.dst < n := hmo.d
      obtain ⟨sk, hsk⟩ : ∃ sk, r.p.t.K[x.m.dst]? = some sk := ⟨_, List.getElem?_eq_getElem (by rw [H.out.t.nk]; exact hqn)⟩
      obtain ⟨se, hse⟩ : ∃ se, r.p.t.R[x.m.dst]? = some se := ⟨_, List.getElem?_eq_getElem (by rw [H.out.t.ne]; exact hqn)⟩
      have hkk := hG2 sk.l (List.mem_map.2 ⟨sk, List.mem_of_getElem? hsk, rfl⟩)
      have hkl : sk.l.length ≤ 200 := by have := hkk.len; omega
      have hml : x.m.kn.length ≤ 200 := by have := hmo.k.len; omega
      have HKK : Hid (∀ k ∈ sk.l, okH k.h) := hkk.ok
      have HMK : Hid (∀ k ∈ x.m.kn, okH k.h) := hmo.k.ok
      have hel : se.l.length ≤ 64 := HW.out.el se.l (List.mem_map.2 ⟨se, List.mem_of_getElem? hse, rfl⟩)
      have hfD : r.p.st.fl.getD i mgD = x.m := by simp [Cp.st, List.getD_eq_getElem?_getD, hx]
      have heD : r.p.st.ev.getD x.m.dst [] = se.l := by simp [Cp.st, List.getD_eq_getElem?_getD, hse]
      have hkD : r.p.st.kn.getD x.m.dst [] = sk.l := by simp [Cp.st, List.getD_eq_getElem?_getD, hsk]
      clear hG1 hG2 hG3 hkk hmo hxm
      have hi0 : (0 : Int) ≤ (i : Int) := by omega
      have hi1 : (i : Int) < (r.p.F.length : Int) := by omega
      have hd0 : (0 : Int) ≤ (x.m.dst : Int) := by omega
      have hd1 : (x.m.dst : Int) < (n : Int) := by omega
      have hn5 : (n : Int) ≤ 5 := by omega
      have x1 : decide ((i : Int) < 0) = false := decide_eq_false (by omega)
      have x2 : decide ((r.p.F.length : Int) ≤ (i : Int)) = false := decide_eq_false (by omega)
      have HFD := Lib.hid hfD
      have HED := Lib.hid heD
      have HKD := Lib.hid hkD
      have HXI := Lib.hid hx
      have HA := Lib.hid hA
      have HGS := Lib.hid hgs
      have HXC := Lib.hid hxc
      clear hfD heD hkD hx hA hgs hxc
      by_cases h64 : se.l.length < 64
      · have HV : Hid (canRecv r.p.st i = true) := canRecv_iff.2 ⟨by omega, by simpa [Cp.st] using hlt, by rw [Int.toNat_natCast, HFD.out, HED.out]; exact h64⟩
        rw [HV.out, if_pos rfl, Int.toNat_natCast]
        have h64' : decide ((64 : Int) ≤ (se.l.length : Int)) = false := decide_eq_false (by omega)
        clear HV
        have HBA : Hid (Blk (W.alloc (.cells #[.int .i64 2, .int .i64 p, .int .i64 i] 74)) W.heap.size 74 #[.int .i64 2, .int .i64 p, .int .i64 i]) := Blk.new W _ _
        have HE1 : Hid (Ext W (W.alloc (.cells #[.int .i64 2, .int .i64 p, .int .i64 i] 74))) := (Ext.refl W).allocs _
        go_enter Try.func53, Try.ntmps53
        go_upto_region 1 with fail
        obtain ⟨W1, hW1⟩ : ∃ W1, W.alloc (.cells #[.int .i64 2, .int .i64 p, .int .i64 i] 74) = W1 := ⟨_, rfl⟩
        obtain ⟨gA, hgA⟩ : ∃ gA, W.heap.size = gA := ⟨_, rfl⟩
        rw [hW1] at HBA HE1 ⊢
        rw [hgA] at HBA ⊢
        have HGA : Hid (base ≤ gA) := by show base ≤ gA; omega
        clear hW1 hgA
        have HC1 := Lib.hid (H.out.ext HE1.out)
        obtain ⟨c0, c1, c2, c3, c4, c5, c6⟩ := HC1.out.cells
        rw [HA.out] at c6
        obtain ⟨a0, a1, a2⟩ : _ := (⟨(HBA.out.cell 0).trans rfl, (HBA.out.cell 1).trans rfl, (HBA.out.cell 2).trans rfl⟩ : W1.cell? ⟨gA, 0, none⟩ = some (.int .i64 2) ∧ W1.cell? ⟨gA, 1, none⟩ = some (.int .i64 p) ∧ W1.cell? ⟨gA, 2, none⟩ = some (.int .i64 i))
        have HQ1 : Hid (∀ j u, x.cells9[j]? = some u → W1.cell? ⟨gF, i * 9 + j, none⟩ = some u) := fun j u hu => (HE1.out.cell (p := ⟨gF, i * 9 + j, none⟩) HGS.out).trans (HXC.out j u hu)
        have hcE := HC1.out.t.cellE hse
        have q0 : W1.cell? ⟨gF, i * 9, none⟩ = some (.int .i64 x.m.frm) := HQ1.out 0 _ rfl
        have q1 : W1.cell? ⟨gF, i * 9 + 1, none⟩ = some (.int .i64 x.m.dst) := HQ1.out 1 _ rfl
        have q2 : W1.cell? ⟨gF, i * 9 + 2, none⟩ = some (.int .i64 0) := HQ1.out 2 _ rfl
        have q3 : W1.cell? ⟨gF, i * 9 + 3, none⟩ = some (.int .i64 x.m.idx) := HQ1.out 3 _ rfl
        have q4 : W1.cell? ⟨gF, i * 9 + 4, none⟩ = some (.int .i64 x.m.ord) := HQ1.out 4 _ rfl
        have q5 : W1.cell? ⟨gF, i * 9 + 5, none⟩ = some (.int .i64 0) := HQ1.out 5 _ rfl
        have q6 : W1.cell? ⟨gF, i * 9 + 6, none⟩ = some (.int .i64 0) := HQ1.out 6 _ rfl
        have q7 : W1.cell? ⟨gF, i * 9 + 7, none⟩ = some (.slice none 0 0) := HQ1.out 7 _ rfl
        have q8 : W1.cell? ⟨gF, i * 9 + 8, none⟩ = some (.slice x.A x.m.kn.length x.c) := HQ1.out 8 _ rfl
        go_upto_region 7 with fail
        go_quiet (fail)
        go_upto_region 8 with fail
        clear c0 c1 c2 c3 c4 c5 c6 a0 a1 a2 q0 q1 q2 q3 q4 q5 q6 q7 q8 hcE
        obtain ⟨W2, hW2⟩ : ∃ W2, W1.drewN nq = W2 := ⟨_, rfl⟩
        have hE2 : Ext W1 W2 := by rw [← hW2]; exact (Ext.refl W1).drewN nq
        rw [hW2]
        have hgs1 : gF < W1.heap.size := Nat.lt_of_lt_of_le HGS.out HE1.out.size
        have HQ2 : Hid (∀ j u, x.cells9[j]? = some u → W2.cell? ⟨gF, i * 9 + j, none⟩ = some u) := fun j u hu => (hE2.cell (p := ⟨gF, i * 9 + j, none⟩) hgs1).trans (HQ1.out j u hu)
        have hgs2 : gF < W2.heap.size := Nat.lt_of_lt_of_le hgs1 hE2.size
        have HC2 := Lib.hid (HC1.out.ext hE2)
        have HB2 := Lib.hid (Blk.ext HBA.out hE2)
        have HE2 := Lib.hid (Ext.trans HE1.out hE2)
        clear hW2 hE2 HC1 HBA HE1 HQ1 hgs1
        have HS2 : Hid (∀ W', Ext W2 W' → (fun W' => W'.cell? ⟨g, 6, none⟩ = some (.slice (some ⟨gF, 0, none⟩) r.p.F.length r.p.c) ∧ W'.cell? ⟨gA, 2, none⟩ = some (.int .i64 i) ∧ W'.cell? ⟨gF, i * 9, none⟩ = some (.int .i64 x.m.frm) ∧ W'.cell? ⟨gF, i * 9 + 1, none⟩ = some (.int .i64 x.m.dst) ∧ W'.cell? ⟨gF, i * 9 + 2, none⟩ = some (.int .i64 0) ∧ W'.cell? ⟨gF, i * 9 + 3, none⟩ = some (.int .i64 x.m.idx) ∧ W'.cell? ⟨gF, i * 9 + 4, none⟩ = some (.int .i64 x.m.ord) ∧ W'.cell? ⟨gF, i * 9 + 5, none⟩ = some (.int .i64 0) ∧ W'.cell? ⟨gF, i * 9 + 6, none⟩ = some (.int .i64 0) ∧ W'.cell? ⟨gF, i * 9 + 7, none⟩ = some (.slice none 0 0) ∧ W'.cell? ⟨gF, i * 9 + 8, none⟩ = some (.slice x.A x.m.kn.length x.c)) W') := fun W' hW => by
          have h9 := HC2.out.ext hW
          have hq : ∀ j u, x.cells9[j]? = some u → W'.cell? ⟨gF, i * 9 + j, none⟩ = some u := fun j u hu => (hW.cell (p := ⟨gF, i * 9 + j, none⟩) hgs2).trans (HQ2.out j u hu)
          have h6 := h9.cells.2.2.2.2.2.2
          rw [HA.out] at h6
          exact ⟨h6, ((Blk.ext HB2.out hW).cell 2).trans rfl, hq 0 _ rfl, hq 1 _ rfl, hq 2 _ rfl, hq 3 _ rfl, hq 4 _ rfl, hq 5 _ rfl, hq 6 _ rfl, hq 7 _ rfl, hq 8 _ rfl⟩
        refine wp_region_sched (by kernel_rfl) 9 [(0, true), (1, true), (2, true), (3, true), (4, true), (5, true), (6, true), (7, true), (8, false), (9, false)] (fun W' => W'.cell? ⟨g, 6, none⟩ = some (.slice (some ⟨gF, 0, none⟩) r.p.F.length r.p.c) ∧ W'.cell? ⟨gA, 2, none⟩ = some (.int .i64 i) ∧ W'.cell? ⟨gF, i * 9, none⟩ = some (.int .i64 x.m.frm) ∧ W'.cell? ⟨gF, i * 9 + 1, none⟩ = some (.int .i64 x.m.dst) ∧ W'.cell? ⟨gF, i * 9 + 2, none⟩ = some (.int .i64 0) ∧ W'.cell? ⟨gF, i * 9 + 3, none⟩ = some (.int .i64 x.m.idx) ∧ W'.cell? ⟨gF, i * 9 + 4, none⟩ = some (.int .i64 x.m.ord) ∧ W'.cell? ⟨gF, i * 9 + 5, none⟩ = some (.int .i64 0) ∧ W'.cell? ⟨gF, i * 9 + 6, none⟩ = some (.int .i64 0) ∧ W'.cell? ⟨gF, i * 9 + 7, none⟩ = some (.slice none 0 0) ∧ W'.cell? ⟨gF, i * 9 + 8, none⟩ = some (.slice x.A x.m.kn.length x.c)) (by kernel_rfl) (fun _ _ dd _ _ h => by cases dd <;> exact h) (HS2.out _ (Below.drew (Ext.refl W2))) (fun hHeld => ?_)
        iterate 8 ((refine sched_read (v := ?_) rfl (Or.inl ⟨by rfl, ?_⟩) hHeld ?_; rotate_left 1; · (intro w' hSw; obtain ⟨t0, t1, t2, t3, t4, t5, t6, t7, t8, t9, t10⟩ := hSw; go_simp; (first | done | with_reducible rfl))); (try simp only [Act.put, List.setIfInBounds_toArray, List.set_cons_zero, List.set_cons_succ]))
        have hE2d : Ext W2 (W2.drew.alloc (.cells #[.int .i64 0, .int .i64 0, .int .i64 0, .int .i64 0, .int .i64 0, .int .i64 0, .int .i64 0, .slice none 0 0, .slice none 0 0] 108)) := Ext.trans (Below.drew (Ext.refl W2)) ((Ext.refl W2.drew).allocs _)
        have hBz : Blk (W2.drew.alloc (.cells #[.int .i64 0, .int .i64 0, .int .i64 0, .int .i64 0, .int .i64 0, .int .i64 0, .int .i64 0, .slice none 0 0, .slice none 0 0] 108)) W2.drew.heap.size 108 #[.int .i64 0, .int .i64 0, .int .i64 0, .int .i64 0, .int .i64 0, .int .i64 0, .int .i64 0, .slice none 0 0, .slice none 0 0] := Blk.new W2.drew _ _
        obtain ⟨g4, hg4⟩ : ∃ g4, W2.heap.size = g4 := ⟨_, rfl⟩
        have hg4' : W2.drew.heap.size = g4 := hg4
        rw [hg4'] at hBz
        refine sched_eff rfl (fun K hK => ?_)
        go_simp
        refine hK.out _ (W2.drew.alloc (.cells #[.int .i64 0, .int .i64 0, .int .i64 0, .int .i64 0, .int .i64 0, .int .i64 0, .int .i64 0, .slice none 0 0, .slice none 0 0] 108)) (HS2.out _ hE2d) (fun hHeld => ?_)
        clear hK K
        try simp only [Act.put, List.setIfInBounds_toArray, List.set_cons_zero, List.set_cons_succ]
        try rw [hg4]
        try rw [hg4']
        have hz4 : W2.heap.size ≤ g4 := by omega
        generalize W2.drew.alloc (.cells #[.int .i64 0, .int .i64 0, .int .i64 0, .int .i64 0, .int .i64 0, .int .i64 0, .int .i64 0, .slice none 0 0, .slice none 0 0] 108) = Wz at hE2d hBz hHeld ⊢
        have HB4 := Lib.hid (Blk.putM hBz x)
        have hpE : Ext W2 (putM Wz g4 x) := Ext.putM hE2d hz4 x
        have HC3 := Lib.hid (HC2.out.ext hpE)
        have HB3 := Lib.hid (Blk.ext HB2.out hpE)
        have HE3 := Lib.hid (Ext.trans HE2.out hpE)
        obtain ⟨⟨y0, y1, y2, y3, y4, y5, y6, y7, y8⟩, z0, z1, z2, z3, z4, z5, z6, z7, z8⟩ := blk9v hBz
        clear hpE hE2d hHeld hg4 hg4'
        refine sched_tail rfl (by decide) (fun K hK => ?_)
        go_simp
        refine hK.out _ (putM Wz g4 x) ?_
        clear hK K y0 y1 y2 y3 y4 y5 y6 y7 y8 z0 z1 z2 z3 z4 z5 z6 z7 z8 hBz
        refine sched_done ?_
        generalize putM Wz g4 x = W3 at HB4 HC3 HB3 HE3 ⊢
        clear HS2 HC2 HB2 HE2 HQ2 hgs2 hz4
        have hz3 : base ≤ W3.heap.size := Nat.le_trans hb HE3.out.size
        have hcap : r.p.F.length ≤ r.p.c := by
          obtain ⟨A', c', e, -, h8, -⟩ := own_slice H.out.f.r
          injection e with e1 e2 e3
          omega
        have HS3 : Hid (∀ W', Ext W3 W' → (fun W' => W'.cell? ⟨g, 6, none⟩ = some (.slice (some ⟨gF, 0, none⟩) r.p.F.length r.p.c) ∧ W'.cell? ⟨gA, 2, none⟩ = some (.int .i64 i)) W') := fun W' hW => by
          have h9 := HC3.out.ext hW
          have h6 := h9.cells.2.2.2.2.2.2
          rw [HA.out] at h6
          exact ⟨h6, ((Blk.ext HB3.out hW).cell 2).trans rfl⟩
        obtain ⟨m, hm⟩ : ∃ m, r.p.F.length = i + 1 + m := ⟨r.p.F.length - (i + 1), by omega⟩
        have hsl1 := fun w => run_preM w gF r.p.F.length r.p.c i (by omega)
        have hsl2 := fun w => run_sufM w gF r.p.F.length r.p.c (i + 1) m ((i : Int) + 1) (by omega) hm hcap
        have hwi : IntKind.i64.wrap ((i : Int) + 1) = (i : Int) + 1 := IntWalk.i64_in _ (by omega)
        have HFS : Hid (Seg W3 9 (some ⟨gF, 0, none⟩) r.p.F.length (r.p.F.flatMap MgR.cells9)) := by
          have h8 := Seg.of_own HC3.out.f.r
          rw [HA.out] at h8
          exact h8
        have HM := Lib.hid hm
        clear hm
        go_upto_region 9 with fail
        refine wp_region_sched (by kernel_rfl) 20 [(0, true), (1, true), (2, true), (3, true), (4, true), (5, true), (6, true), (7, true), (9, true), (10, true), (11, true), (12, true), (13, true), (14, true), (15, true), (16, true), (8, false), (17, false), (18, true), (19, true), (20, false)] (fun W' => W'.cell? ⟨g, 6, none⟩ = some (.slice (some ⟨gF, 0, none⟩) r.p.F.length r.p.c) ∧ W'.cell? ⟨gA, 2, none⟩ = some (.int .i64 i)) (by kernel_rfl) (fun _ _ dd _ _ h => by cases dd <;> exact h) (HS3.out _ (Below.drew (Ext.refl W3))) (fun hHeld => ?_)
        iterate 16 ((refine sched_read (v := ?_) rfl (Or.inl ⟨by rfl, ?_⟩) hHeld ?_; rotate_left 1; · (intro w' hSw; obtain ⟨t0, t1⟩ := hSw; go_simp; (first | done | with_reducible rfl))); (try simp only [Act.put, List.setIfInBounds_toArray, List.set_cons_zero, List.set_cons_succ]))
        have hE3d : Ext W3 W3.drew := Below.drew (Ext.refl W3)
        refine sched_eff rfl (fun K hK => ?_)
        refine step_catM rfl _ _ (by rfl) W3.heap.size (.slice none 0 0) [] (r.p.F.take i) (by rfl) (own_nilv _ _ _ _) (some ⟨gF, 0, none⟩) i r.p.c (by rw [List.length_take]; omega) (by rfl) (seg_preM (HFS.out.ext hE3d) (by omega)) (by rw [List.length_take]; simp; omega) (Nat.le_refl _) ?_
        intro v5 w5 hown5 hg5
        have hE5 : Ext W3 w5 := Ext.trans hE3d ⟨hg5.os, hg5.tape, hg5.output, hg5.size, fun k hk => hg5.block k hk (by intro e; cases e)⟩
        rw [List.nil_append] at hown5
        refine hK.out _ _ (HS3.out _ hE5) (fun hHeld => ?_)
        clear hK K
        try simp only [Act.put, List.setIfInBounds_toArray, List.set_cons_zero, List.set_cons_succ]
        clear hg5 hE3d hsl1 hsl2
        refine sched_eff rfl (fun K hK => ?_)
        refine step_catM rfl _ _ (by rfl) W3.heap.size v5 (r.p.F.take i) (r.p.F.drop (i + 1)) (by rfl) hown5 (some (sufM gF r.p.c (i + 1))) m (r.p.c - (i + 1)) (by have := HM.out; rw [List.length_drop]; omega) (by rfl) (seg_sufM (HFS.out.ext hE5) (by omega) hcap) (by rw [List.length_take, List.length_drop]; omega) hE5.size ?_
        intro v6 w6 hown6 hg6
        have hE6 : Ext W3 w6 := Ext.own hE5 hown5 (Nat.le_refl _) hg6
        rw [erase_split _ _ hil] at hown6
        obtain ⟨A6, c6, rfl, -, -, -⟩ := own_slice hown6
        refine hK.out _ _ (HS3.out _ hE6) (fun hHeld => ?_)
        clear hK K
        try simp only [Act.put, List.setIfInBounds_toArray, List.set_cons_zero, List.set_cons_succ]
        iterate 2 ((refine sched_read (v := ?_) rfl (Or.inl ⟨by rfl, ?_⟩) hHeld ?_; rotate_left 1; · (intro w' hSw; obtain ⟨t0, t1⟩ := hSw; go_simp; (first | done | with_reducible rfl))); (try simp only [Act.put, List.setIfInBounds_toArray, List.set_cons_zero, List.set_cons_succ]))
        have hf6 : FlM MgR.cells9 9 108 w6 base A6 c6 (r.p.F.eraseIdx i) := ⟨own_base hown6 hz3, fun y hy => own_ext (HC3.out.f.k y (List.mem_of_mem_eraseIdx hy)) hE6⟩
        have HC6 := Lib.hid (HC3.out.set_fl (grownBy_ext (row := none) hE6) (TyRow.none _ _) hf6)
        have hb6 := HC3.out.b.ext hE6
        have hfz6 : w6.frozen? ⟨g, 6, none⟩ = false := hb6.frozen 6
        have hs6 := grown_set1 w6 g 6 (.slice A6 (r.p.F.eraseIdx i).length c6)
        have HB6 := Lib.hid (blk_typed (Blk.ext HB4.out hE6) hs6 (TyRow.blk hb6 (by decide)))
        have HXO6 : Hid (KnOwn (w6.setCell ⟨g, 6, none⟩ (.slice A6 (r.p.F.eraseIdx i).length c6)) base x.A x.c x.m.kn) := own_typed (own_ext (HC3.out.f.k x (List.mem_of_getElem? HXI.out)) hE6) hs6 (TyRow.blk hb6 (by decide))
        have HL6 : Hid (Below base W (w6.setCell ⟨g, 6, none⟩ (.slice A6 (r.p.F.eraseIdx i).length c6))) := Below.setCell ((Ext.trans HE3.out hE6).mono hb) H.out.z _
        clear hown5 hown6 hg6 hE5 hE6 hf6 hb6 hs6
        refine sched_tail rfl (by decide) (fun K hK => ?_)
        go_simp
        refine hK.out _ (w6.setCell ⟨g, 6, none⟩ (.slice A6 (r.p.F.eraseIdx i).length c6)) ?_
        clear hK K hHeld
        refine sched_done ?_
        generalize w6.setCell ⟨g, 6, none⟩ (.slice A6 (r.p.F.eraseIdx i).length c6) = W6 at HC6 HB6 HXO6 HL6 ⊢
        clear hfz6 HS3 HC3 HB3 HB4 HE3 HFS
        obtain ⟨b0, b1, b2, b3, b4, b8⟩ := MgR.blk9 HB6.out
        go_upto_region 11 with fail
        clear b0 b1 b2 b3 b4 b8
        have hz6 : base ≤ W6.heap.size := Nat.le_trans hb HL6.out.size
        have HS6 : Hid (∀ W', Ext W6 W' → (fun W' => W'.cell? ⟨g, 3, none⟩ = some (.slice (some ⟨r.p.t.gk, 0, none⟩) n n) ∧ W'.cell? ⟨r.p.t.gk, x.m.dst, none⟩ = some (.slice sk.A sk.l.length sk.c) ∧ W'.cell? ⟨g4, 8, none⟩ = some (.slice x.A x.m.kn.length x.c)) W') := fun W' hW => by
          have h9 := HC6.out.ext hW
          exact ⟨h9.cells.2.2.2.1, h9.t.cellK hsk, (MgR.blk9 (Blk.ext HB6.out hW)).2.2.2.2.2⟩
        refine wp_region_sched (by kernel_rfl) 17 [(0, true), (1, true), (2, true), (3, true), (4, true), (5, true), (6, true), (7, true), (8, true), (9, true), (10, true), (11, true), (12, true), (13, true), (14, true), (15, false), (16, true), (17, false)] (fun W' => W'.cell? ⟨g, 3, none⟩ = some (.slice (some ⟨r.p.t.gk, 0, none⟩) n n) ∧ W'.cell? ⟨r.p.t.gk, x.m.dst, none⟩ = some (.slice sk.A sk.l.length sk.c) ∧ W'.cell? ⟨g4, 8, none⟩ = some (.slice x.A x.m.kn.length x.c)) (by kernel_rfl) (fun _ _ dd _ _ h => by cases dd <;> exact h) (HS6.out _ (Below.drew (Ext.refl W6))) (fun hHeld => ?_)
        iterate 15 ((refine sched_read (v := ?_) rfl (Or.inl ⟨by rfl, ?_⟩) hHeld ?_; rotate_left 1; · (intro w' hSw; obtain ⟨t0, t1, t2⟩ := hSw; go_simp; (first | done | with_reducible rfl))); (try simp only [Act.put, List.setIfInBounds_toArray, List.set_cons_zero, List.set_cons_succ]))
        have hE6d : Ext W6 W6.drew := Below.drew (Ext.refl W6)
        have HMG := Lib.hid (rmergeK_any sk.A x.A sk.c x.c sk.l x.m.kn x.m.dst W6.drew (Seg.of_own (own_ext (HC6.out.t.k sk (List.mem_of_getElem? hsk)) hE6d)) (Seg.of_own (own_ext HXO6.out hE6d)) (by omega) (by omega) (fun k hk => by rcases List.mem_append.1 hk with hk | hk; exact HKK.out k hk; exact HMK.out k hk))
        refine sched_eff rfl (fun K hK => ?_)
        go_simp
        refine HMG.out.mono ?_
        rintro e7 w7 ⟨v, rfl, hown, hE⟩
        obtain ⟨A7, c7, rfl, -, -, -⟩ := own_slice hown
        have hE67 : Ext W6 w7 := Ext.trans hE6d hE
        refine hK.out _ _ (HS6.out _ hE67) (fun hHeld => ?_)
        clear hK K
        try simp only [Act.put, List.setIfInBounds_toArray, List.set_cons_zero, List.set_cons_succ]
        iterate 1 ((refine sched_read (v := ?_) rfl (Or.inl ⟨by rfl, ?_⟩) hHeld ?_; rotate_left 1; · (intro w' hSw; obtain ⟨t0, t1, t2⟩ := hSw; go_simp; (first | done | with_reducible rfl))); (try simp only [Act.put, List.setIfInBounds_toArray, List.set_cons_zero, List.set_cons_succ]))
        obtain ⟨M, hM⟩ : ∃ M, mergeV (bitV x.m.dst) sk.l x.m.kn = M := ⟨_, rfl⟩
        have hmok : ∀ k ∈ M, okH k.h := by
          rw [← hM]
          intro k hk
          obtain ⟨y, hy, rfl⟩ := List.mem_map.1 hk
          refine orB_ok ?_ ((memV_of _ (fun k hk => by rcases List.mem_append.1 hk with hk | hk; exact HKK.out k hk; exact HMK.out k hk)).ok y hy)
          rw [bitV_nat (by omega)]
          exact okH_pow (by omega)
        have hmlen : M.length ≤ 400 := by
          rw [← hM]
          unfold mergeV
          rw [List.length_map]
          have := memV_len (sk.l ++ x.m.kn)
          rw [List.length_append] at this
          omega
        have HMe := Lib.hid hM
        have HMO := Lib.hid hmok
        rw [hM] at hown ⊢
        clear hM hmok HMG
        have hC7 := HC6.out.ext hE67
        have hO7 : KnOwn w7 base A7 c7 M := own_base hown hz6
        have hfz7 : w7.frozen? ⟨r.p.t.gk, x.m.dst, none⟩ = false := hC7.t.kb.frozen _
        have hce7 := hHeld.2.1
        have hs7 := grown_set1 w7 r.p.t.gk x.m.dst (.slice A7 M.length c7)
        have HC8 := Lib.hid (hC7.set_kn hqn hO7)
        have HB8 := Lib.hid (blk_typed (Blk.ext HB6.out hE67) hs7 (TyRow.blk hC7.t.kb (by decide)))
        have HL8 : Hid (Below base W (w7.setCell ⟨r.p.t.gk, x.m.dst, none⟩ (.slice A7 M.length c7))) := Below.setCell (Below.trans HL6.out (hE67.mono hz6)) H.out.t.zk _
        obtain ⟨K8, hK8⟩ : ∃ K8, r.p.t.K.set x.m.dst ⟨A7, c7, M⟩ = K8 := ⟨_, rfl⟩
        have hsk8 : K8[x.m.dst]? = some ⟨A7, c7, M⟩ := by rw [← hK8, List.getElem?_set, if_pos rfl, if_pos (by rw [H.out.t.nk]; exact hqn)]
        have HK8 := Lib.hid hK8
        rw [hK8] at HC8
        clear hown hE hE67 hE6d hC7 hO7 hs7 hK8 hHeld
        refine sched_tail rfl (by decide) (fun K hK => ?_)
        go_simp
        refine hK.out _ (w7.setCell ⟨r.p.t.gk, x.m.dst, none⟩ (.slice A7 M.length c7)) ?_
        clear hK K
        refine sched_done ?_
        generalize w7.setCell ⟨r.p.t.gk, x.m.dst, none⟩ (.slice A7 M.length c7) = W8 at HC8 HB8 HL8 ⊢
        clear hfz7 hce7 HC6 HB6 HXO6 HL6 HS6 hz6
        have hz8 : base ≤ W8.heap.size := Nat.le_trans hb HL8.out.size
        obtain ⟨e, he⟩ : ∃ e : Ev, e = evOf x.m := ⟨_, rfl⟩
        have HEv := Lib.hid he
        have HEC : Hid ((#[.int .i64 1, .int .i64 0, .int .i64 x.m.frm, .int .i64 0, .int .i64 x.m.idx, .int .i64 x.m.ord, .int .i64 0] : Array Value) = e.cells.toArray) := by show _ = _; rw [he]; rfl
        clear he
        have HSR := Lib.hid (HC8.out.t.e.r _ se hse)
        have HSS : Hid (∀ W' row, W8.grownBy W' row → (row = none ∨ row = (Gr.val se).ownBlock) → (fun W' => W'.cell? ⟨g, 2, none⟩ = some (.slice (some ⟨r.p.t.ge, 0, none⟩) n n) ∧ W'.cell? ⟨r.p.t.ge, x.m.dst, none⟩ = some (.slice se.A se.l.length se.c) ∧ W'.cell? ⟨g4, 0, none⟩ = some (.int .i64 x.m.frm) ∧ W'.cell? ⟨g4, 2, none⟩ = some (.int .i64 0) ∧ W'.cell? ⟨g4, 3, none⟩ = some (.int .i64 x.m.idx) ∧ W'.cell? ⟨g4, 4, none⟩ = some (.int .i64 x.m.ord)) W') := fun W' row hW hr => by
          have hty : ∀ t0, t0 ≠ 30 → TyRow W8 row (fun t => t ≠ t0) := fun t0 ht0 => by
            rcases hr with rfl | rfl
            · exact TyRow.none _ _
            · exact TyRow.own HSR.out (Ne.symm ht0)
          have hm := MgR.blk9 (blk_typed HB8.out hW (hty _ (by decide)))
          refine ⟨((blk_typed HC8.out.b hW (hty _ (by decide))).cell 2).trans rfl, ?_, hm.1, hm.2.2.1, hm.2.2.2.1, hm.2.2.2.2.1⟩
          have h9 := Blk.tabAt (blk_typed HC8.out.t.e.b hW (hty _ (by decide))) Gr.len hse (j := 0) (by omega) (u := Gr.val se) rfl
          simpa using h9
        go_upto_region 12 with fail
        refine wp_region_sched (by kernel_rfl) 22 [(0, true), (1, true), (2, true), (3, true), (4, true), (5, true), (6, true), (7, true), (8, true), (9, true), (10, true), (11, true), (12, true), (13, true), (14, true), (15, true), (16, true), (17, true), (18, true), (19, false), (20, false), (21, true), (22, false)] (fun W' => W'.cell? ⟨g, 2, none⟩ = some (.slice (some ⟨r.p.t.ge, 0, none⟩) n n) ∧ W'.cell? ⟨r.p.t.ge, x.m.dst, none⟩ = some (.slice se.A se.l.length se.c) ∧ W'.cell? ⟨g4, 0, none⟩ = some (.int .i64 x.m.frm) ∧ W'.cell? ⟨g4, 2, none⟩ = some (.int .i64 0) ∧ W'.cell? ⟨g4, 3, none⟩ = some (.int .i64 x.m.idx) ∧ W'.cell? ⟨g4, 4, none⟩ = some (.int .i64 x.m.ord)) (by kernel_rfl) (fun _ _ dd _ _ h => by cases dd <;> exact h) (HSS.out _ _ (grownBy_ext (row := none) (Below.drew (Ext.refl W8))) (.inl rfl)) (fun hHeld => ?_)
        iterate 19 ((refine sched_read (v := ?_) rfl (Or.inl ⟨by rfl, ?_⟩) hHeld ?_; rotate_left 1; · (intro w' hSw; obtain ⟨t0, t1, t2, t3, t4, t5⟩ := hSw; go_simp; (first | done | with_reducible rfl))); (try simp only [Act.put, List.setIfInBounds_toArray, List.set_cons_zero, List.set_cons_succ]))
        have hEa : Ext W8 (W8.drew.alloc (.cells e.cells.toArray 30)) := Ext.trans (Below.drew (Ext.refl W8)) ((Ext.refl W8.drew).allocs _)
        have HBa : Hid (Blk (W8.drew.alloc (.cells e.cells.toArray 30)) W8.drew.heap.size 30 e.cells.toArray) := Blk.new W8.drew _ _
        have HCa := Lib.hid (HC8.out.ext hEa)
        refine sched_eff rfl (fun K hK => ?_)
        go_simp
        rw [HEC.out]
        refine hK.out _ (W8.drew.alloc (.cells e.cells.toArray 30)) (HSS.out _ _ (grownBy_ext (row := none) hEa) (.inl rfl)) (fun hHeld => ?_)
        clear hK K
        try simp only [Act.put, List.setIfInBounds_toArray, List.set_cons_zero, List.set_cons_succ]
        refine sched_eff rfl (fun K hK => ?_)
        refine step_push_lies Ev.cells 7 56 Ev.len Ev.one (by omega) (by rfl) _ _ _ (by rfl) base 30 Try.underlying65 (by kernel_rfl) (.slice se.A se.l.length se.c) se.l e W8.drew.heap.size (by rfl) (HCa.out.t.e.r _ se hse) (by rfl) (Seg.ofBlkK HBa.out rfl) (by unfold maxLen; omega) (by omega) (Nat.le_trans hz8 hEa.size) ?_
        intro g9 c9 w9 hown9 hg9 hd9
        have hgr := grownBy_trans (grownBy_ext (row := (Gr.val se).ownBlock) hEa) hg9
        refine hK.out _ _ (HSS.out _ _ hgr (.inr rfl)) (fun hHeld => ?_)
        clear hK K
        try simp only [Act.put, List.setIfInBounds_toArray, List.set_cons_zero, List.set_cons_succ]
        iterate 1 ((refine sched_read (v := ?_) rfl (Or.inl ⟨by rfl, ?_⟩) hHeld ?_; rotate_left 1; · (intro w' hSw; obtain ⟨t0, t1, t2, t3, t4, t5⟩ := hSw; go_simp; (first | done | with_reducible rfl))); (try simp only [Act.put, List.setIfInBounds_toArray, List.set_cons_zero, List.set_cons_succ]))
        have hC9 := HCa.out.push_ev hse hown9 hg9 hd9
        have hty : ∀ t0, t0 ≠ 30 → TyRow W8 (Gr.val se).ownBlock (fun t => t ≠ t0) := fun t0 ht0 => TyRow.own HSR.out (Ne.symm ht0)
        have hbe9 := blk_typed HC8.out.t.e.b hgr (hty _ (by decide))
        have hfz9 : w9.frozen? ⟨r.p.t.ge, x.m.dst, none⟩ = false := hbe9.frozen _
        have hce9 : w9.cell? ⟨r.p.t.ge, x.m.dst, none⟩ = some (.slice se.A se.l.length se.c) := hHeld.2.1
        have HL9 : Hid (Below base W (w9.setCell ⟨r.p.t.ge, x.m.dst, none⟩ (.slice (some ⟨g9, 0, none⟩) (se.l.length + 1) c9))) := Below.setCell (Below.trans HL8.out (Below.grown (Below.refl base W8) hgr hz8 (fun k hk => (HSR.out.lt k hk).1))) H.out.t.ze _
        obtain ⟨R9, hR9⟩ : ∃ R9, r.p.t.R.set x.m.dst ⟨some ⟨g9, 0, none⟩, c9, se.l ++ [e]⟩ = R9 := ⟨_, rfl⟩
        have hs9 : R9[x.m.dst]? = some ⟨some ⟨g9, 0, none⟩, c9, se.l ++ [e]⟩ := by rw [← hR9, List.getElem?_set, if_pos rfl, if_pos (by rw [H.out.t.ne]; exact hqn)]
        have HR9 := Lib.hid hR9
        have HC9 : Hid (RnM (w9.setCell ⟨r.p.t.ge, x.m.dst, none⟩ (.slice (some ⟨g9, 0, none⟩) (se.l.length + 1) c9)) base g n f ⟨⟨⟨r.p.t.ge, r.p.t.gk, r.p.t.go, R9, K8, r.p.t.os⟩, A6, c6, r.p.F.eraseIdx i⟩, r.S, r.SA, r.Sc⟩) := by show RnM _ _ _ _ _ _; rw [← hR9]; exact hC9
        clear hown9 hg9 hd9 hgr hC9 hbe9 hEa hty hR9 hHeld
        refine sched_tail rfl (by decide) (fun K hK => ?_)
        go_simp
        refine hK.out _ (w9.setCell ⟨r.p.t.ge, x.m.dst, none⟩ (.slice (some ⟨g9, 0, none⟩) (se.l.length + 1) c9)) ?_
        clear hK K
        refine sched_done ?_
        generalize w9.setCell ⟨r.p.t.ge, x.m.dst, none⟩ (.slice (some ⟨g9, 0, none⟩) (se.l.length + 1) c9) = W9 at HC9 HL9 ⊢
        clear hfz9 hce9 HC8 HB8 HL8 HSS HSR HBa HCa HEC
        obtain ⟨so, hso⟩ : ∃ so, r.p.t.os[x.m.dst]? = some so := ⟨_, List.getElem?_eq_getElem (by rw [H.out.t.no]; exact hqn)⟩
        have hcO := HC9.out.t.cellO hso
        have hfO := HC9.out.t.o.frozen x.m.dst
        obtain ⟨d0, d1, d2, d3, d4, d5, d6⟩ := HC9.out.cells
        have HC10 : Hid (RnM (W9.setCell ⟨r.p.t.go, x.m.dst, none⟩ (.int .i64 0)) base g n f ⟨⟨⟨r.p.t.ge, r.p.t.gk, r.p.t.go, R9, K8, r.p.t.os.set x.m.dst 0⟩, A6, c6, r.p.F.eraseIdx i⟩, r.S, r.SA, r.Sc⟩) := HC9.out.set_ord hqn 0
        have HL10 : Hid (Below base W (W9.setCell ⟨r.p.t.go, x.m.dst, none⟩ (.int .i64 0))) := Below.setCell HL9.out H.out.t.zo _
        go_upto_region 14 with fail
        generalize W9.setCell ⟨r.p.t.go, x.m.dst, none⟩ (.int .i64 0) = WA at HC10 HL10 ⊢
        clear d0 d1 d2 d3 d4 d5 d6 hcO hfO HC9 HL9
        have hzA : base ≤ WA.heap.size := Nat.le_trans hb HL10.out.size
        have HSA : Hid (∀ W', Ext WA W' → (fun W' => W'.cell? ⟨g, 3, none⟩ = some (.slice (some ⟨r.p.t.gk, 0, none⟩) n n) ∧ W'.cell? ⟨r.p.t.gk, x.m.dst, none⟩ = some (.slice A7 M.length c7) ∧ W'.cell? ⟨g, 2, none⟩ = some (.slice (some ⟨r.p.t.ge, 0, none⟩) n n) ∧ W'.cell? ⟨r.p.t.ge, x.m.dst, none⟩ = some (.slice (some ⟨g9, 0, none⟩) (se.l.length + 1) c9) ∧ W'.cell? ⟨g9, se.l.length * 7, none⟩ = some (.int .i64 e.kind) ∧ W'.cell? ⟨g9, se.l.length * 7 + 1, none⟩ = some (.int .i64 e.inc) ∧ W'.cell? ⟨g9, se.l.length * 7 + 2, none⟩ = some (.int .i64 e.frm) ∧ W'.cell? ⟨g9, se.l.length * 7 + 3, none⟩ = some (.int .i64 e.sinc) ∧ W'.cell? ⟨g9, se.l.length * 7 + 4, none⟩ = some (.int .i64 e.sidx) ∧ W'.cell? ⟨g9, se.l.length * 7 + 5, none⟩ = some (.int .i64 e.ord) ∧ W'.cell? ⟨g9, se.l.length * 7 + 6, none⟩ = some (.int .i64 e.val)) W') := fun W' hW => by
          have h9 := HC10.out.ext hW
          have hk := h9.t.cellK hsk8
          have he := h9.t.cellE hs9
          rw [show (se.l ++ [e]).length = se.l.length + 1 by simp] at he
          have hr9 := h9.t.e.r _ _ hs9
          have hq : ∀ j u, j < 7 → e.cells[j]? = some u → W'.cell? ⟨g9, se.l.length * 7 + j, none⟩ = some u := fun j u hj hu => by
            have h7 : (Gr.val (⟨some ⟨g9, 0, none⟩, c9, se.l ++ [e]⟩ : Gr Ev)) = .slice (some ⟨g9, 0, none⟩) (se.l ++ [e]).length c9 := rfl
            rw [h7] at hr9
            rw [hr9.cellAt (se.l.length * 7 + j) (by simp; omega), flat_get Ev.cells 7 Ev.len (se.l ++ [e]) se.l.length j e (by simp) hj, hu]
          exact ⟨h9.cells.2.2.2.1, hk, h9.cells.2.2.1, he, hq 0 _ (by omega) rfl, hq 1 _ (by omega) rfl, hq 2 _ (by omega) rfl, hq 3 _ (by omega) rfl, hq 4 _ (by omega) rfl, hq 5 _ (by omega) rfl, hq 6 _ (by omega) rfl⟩
        have hwl : IntKind.i64.wrap (((se.l.length : Int) + 1) - 1) = (se.l.length : Int) := by rw [Int.add_sub_cancel]; exact IntWalk.i64_in _ (by omega)
        have hwm : IntKind.i64.wrap ((se.l.length : Int)) = (se.l.length : Int) := IntWalk.i64_in _ (by omega)
        have hl0 : (0 : Int) ≤ (se.l.length : Int) := by omega
        have hl1 : (se.l.length : Int) < (se.l.length : Int) + 1 := by omega
        refine wp_region_sched (by kernel_rfl) 45 [(0, true), (1, true), (2, true), (3, true), (4, true), (5, true), (6, true), (7, true), (8, true), (9, true), (10, true), (11, true), (12, true), (13, true), (14, true), (15, true), (16, true), (17, true), (18, true), (19, true), (20, true), (21, true), (22, true), (23, true), (24, true), (25, true), (26, true), (27, true), (28, true), (29, true), (30, true), (31, true), (32, true), (33, true), (34, true), (35, true), (36, true), (37, true), (38, true), (39, true), (40, true), (41, false), (42, true), (43, false), (44, true), (45, false)] (fun W' => W'.cell? ⟨g, 3, none⟩ = some (.slice (some ⟨r.p.t.gk, 0, none⟩) n n) ∧ W'.cell? ⟨r.p.t.gk, x.m.dst, none⟩ = some (.slice A7 M.length c7) ∧ W'.cell? ⟨g, 2, none⟩ = some (.slice (some ⟨r.p.t.ge, 0, none⟩) n n) ∧ W'.cell? ⟨r.p.t.ge, x.m.dst, none⟩ = some (.slice (some ⟨g9, 0, none⟩) (se.l.length + 1) c9) ∧ W'.cell? ⟨g9, se.l.length * 7, none⟩ = some (.int .i64 e.kind) ∧ W'.cell? ⟨g9, se.l.length * 7 + 1, none⟩ = some (.int .i64 e.inc) ∧ W'.cell? ⟨g9, se.l.length * 7 + 2, none⟩ = some (.int .i64 e.frm) ∧ W'.cell? ⟨g9, se.l.length * 7 + 3, none⟩ = some (.int .i64 e.sinc) ∧ W'.cell? ⟨g9, se.l.length * 7 + 4, none⟩ = some (.int .i64 e.sidx) ∧ W'.cell? ⟨g9, se.l.length * 7 + 5, none⟩ = some (.int .i64 e.ord) ∧ W'.cell? ⟨g9, se.l.length * 7 + 6, none⟩ = some (.int .i64 e.val)) (by kernel_rfl) (fun _ _ dd _ _ h => by cases dd <;> exact h) (HSA.out _ (Below.drew (Ext.refl WA))) (fun hHeld => ?_)
        iterate 41 ((refine sched_read (v := ?_) rfl (Or.inl ⟨by rfl, ?_⟩) hHeld ?_; rotate_left 1; · (intro w' hSw; obtain ⟨t0, t1, t2, t3, t4, t5, t6, t7, t8, t9, t10⟩ := hSw; go_simp; (first | done | with_reducible rfl))); (try simp only [Act.put, List.setIfInBounds_toArray, List.set_cons_zero, List.set_cons_succ]))
        have hEAd : Ext WA WA.drew := Below.drew (Ext.refl WA)
        refine sched_eff rfl (fun K hK => ?_)
        go_simp
        refine (bit_any _ _).mono ?_
        rintro eB wB ⟨rfl, rfl⟩
        refine hK.out _ _ (HSA.out _ hEAd) (fun hHeld => ?_)
        clear hK K
        try simp only [Act.put, List.setIfInBounds_toArray, List.set_cons_zero, List.set_cons_succ]
        iterate 1 ((refine sched_read (v := ?_) rfl (Or.inl ⟨by rfl, ?_⟩) hHeld ?_; rotate_left 1; · (intro w' hSw; obtain ⟨t0, t1, t2, t3, t4, t5, t6, t7, t8, t9, t10⟩ := hSw; go_simp; (first | done | with_reducible rfl))); (try simp only [Act.put, List.setIfInBounds_toArray, List.set_cons_zero, List.set_cons_succ]))
        have hMl := hmlen
        obtain ⟨d, hd⟩ : ∃ d : Dt, d = ⟨x.m.dst, (se.l.length : Int) + 1, e⟩ := ⟨_, rfl⟩
        have HAD := Lib.hid (radd_any A7 c7 M ⟨⟨x.m.dst, (se.l.length : Int) + 1, e⟩, bitV x.m.dst⟩ WA.drew (Seg.of_own (own_ext (HC10.out.t.k _ (List.mem_of_getElem? hsk8)) hEAd)) (by omega) (fun k hk => by
          rcases List.mem_append.1 hk with hk | hk
          · exact HMO.out k hk
          · rw [List.mem_singleton] at hk; subst hk; exact bitV_ok _))
        clear hd
        refine sched_eff rfl (fun K hK => ?_)
        go_simp
        refine HAD.out.mono ?_
        rintro eC wC ⟨v, rfl, hown, hE⟩
        obtain ⟨A8, c8, rfl, -, -, -⟩ := own_slice hown
        have hEC : Ext WA wC := Ext.trans hEAd hE
        refine hK.out _ _ (HSA.out _ hEC) (fun hHeld => ?_)
        clear hK K
        try simp only [Act.put, List.setIfInBounds_toArray, List.set_cons_zero, List.set_cons_succ]
        iterate 1 ((refine sched_read (v := ?_) rfl (Or.inl ⟨by rfl, ?_⟩) hHeld ?_; rotate_left 1; · (intro w' hSw; obtain ⟨t0, t1, t2, t3, t4, t5, t6, t7, t8, t9, t10⟩ := hSw; go_simp; (first | done | with_reducible rfl))); (try simp only [Act.put, List.setIfInBounds_toArray, List.set_cons_zero, List.set_cons_succ]))
        have hC12 := HC10.out.ext hEC
        obtain ⟨N8, hN8⟩ : ∃ N8, memV (M ++ [⟨⟨x.m.dst, (se.l.length : Int) + 1, e⟩, bitV x.m.dst⟩]) = N8 := ⟨_, rfl⟩
        have HN8 := Lib.hid hN8
        rw [hN8] at hown ⊢
        have hO12 : KnOwn wC base A8 c8 N8 := own_base hown hzA
        have HC13 := Lib.hid (hC12.set_kn hqn hO12)
        have HL13 : Hid (Below base W (wC.setCell ⟨r.p.t.gk, x.m.dst, none⟩ (.slice A8 N8.length c8))) := Below.setCell (Below.trans HL10.out (hEC.mono hzA)) H.out.t.zk _
        have hfz12 : wC.frozen? ⟨r.p.t.gk, x.m.dst, none⟩ = false := hC12.t.kb.frozen _
        have hce12 := hHeld.2.1
        clear hown hE hEC hEAd hC12 hO12 hN8 hHeld HAD
        refine sched_tail rfl (by decide) (fun K hK => ?_)
        go_simp
        refine hK.out _ (wC.setCell ⟨r.p.t.gk, x.m.dst, none⟩ (.slice A8 N8.length c8)) ?_
        clear hK K
        refine sched_done ?_
        go_wp2_with fail
        (try simp only [Exit.inBlock, Exit.then]); refine bodyPost_ret (results_none rfl _ _ _) rfl ?_
        refine ⟨rfl, _, HC13.out, ?_, rfl, HL13.out⟩
        unfold recvV
        rw [HFD.out]
        dsimp only
        rw [HED.out, HKD.out]
        simp only [Cp.st, List.map_set, ← HR9.out, ← HK8.out, ← HN8.out, ← HMe.out, HEv.out, bitV_nat (show x.m.dst < 32 by omega), map_erase, List.set_set]
      · have HV : Hid (canRecv r.p.st i = false) := by
          show _ = _
          have : decide ((r.p.st.ev.getD (r.p.st.fl.getD ((i : Int)).toNat mgD).dst []).length < 64) = false := decide_eq_false (by rw [Int.toNat_natCast, HFD.out, HED.out]; exact h64)
          unfold canRecv
          rw [this, Bool.and_false]
        rw [HV.out, if_neg (by simp)]
        have h64' : decide ((64 : Int) ≤ (se.l.length : Int)) = true := decide_eq_true (by omega)
        clear h64 HV
        have HBA : Hid (Blk (W.alloc (.cells #[.int .i64 2, .int .i64 p, .int .i64 i] 74)) W.heap.size 74 #[.int .i64 2, .int .i64 p, .int .i64 i]) := Blk.new W _ _
        have HE1 : Hid (Ext W (W.alloc (.cells #[.int .i64 2, .int .i64 p, .int .i64 i] 74))) := (Ext.refl W).allocs _
        go_enter Try.func53, Try.ntmps53
        go_upto_region 1 with fail
        obtain ⟨W1, hW1⟩ : ∃ W1, W.alloc (.cells #[.int .i64 2, .int .i64 p, .int .i64 i] 74) = W1 := ⟨_, rfl⟩
        obtain ⟨gA, hgA⟩ : ∃ gA, W.heap.size = gA := ⟨_, rfl⟩
        rw [hW1] at HBA HE1 ⊢
        rw [hgA] at HBA ⊢
        have HGA : Hid (base ≤ gA) := by show base ≤ gA; omega
        clear hW1 hgA
        have HC1 := Lib.hid (H.out.ext HE1.out)
        obtain ⟨c0, c1, c2, c3, c4, c5, c6⟩ := HC1.out.cells
        rw [HA.out] at c6
        obtain ⟨a0, a1, a2⟩ : _ := (⟨(HBA.out.cell 0).trans rfl, (HBA.out.cell 1).trans rfl, (HBA.out.cell 2).trans rfl⟩ : W1.cell? ⟨gA, 0, none⟩ = some (.int .i64 2) ∧ W1.cell? ⟨gA, 1, none⟩ = some (.int .i64 p) ∧ W1.cell? ⟨gA, 2, none⟩ = some (.int .i64 i))
        have HQ1 : Hid (∀ j u, x.cells9[j]? = some u → W1.cell? ⟨gF, i * 9 + j, none⟩ = some u) := fun j u hu => (HE1.out.cell (p := ⟨gF, i * 9 + j, none⟩) HGS.out).trans (HXC.out j u hu)
        have hcE := HC1.out.t.cellE hse
        have q0 : W1.cell? ⟨gF, i * 9, none⟩ = some (.int .i64 x.m.frm) := HQ1.out 0 _ rfl
        have q1 : W1.cell? ⟨gF, i * 9 + 1, none⟩ = some (.int .i64 x.m.dst) := HQ1.out 1 _ rfl
        have q2 : W1.cell? ⟨gF, i * 9 + 2, none⟩ = some (.int .i64 0) := HQ1.out 2 _ rfl
        have q3 : W1.cell? ⟨gF, i * 9 + 3, none⟩ = some (.int .i64 x.m.idx) := HQ1.out 3 _ rfl
        have q4 : W1.cell? ⟨gF, i * 9 + 4, none⟩ = some (.int .i64 x.m.ord) := HQ1.out 4 _ rfl
        have q5 : W1.cell? ⟨gF, i * 9 + 5, none⟩ = some (.int .i64 0) := HQ1.out 5 _ rfl
        have q6 : W1.cell? ⟨gF, i * 9 + 6, none⟩ = some (.int .i64 0) := HQ1.out 6 _ rfl
        have q7 : W1.cell? ⟨gF, i * 9 + 7, none⟩ = some (.slice none 0 0) := HQ1.out 7 _ rfl
        have q8 : W1.cell? ⟨gF, i * 9 + 8, none⟩ = some (.slice x.A x.m.kn.length x.c) := HQ1.out 8 _ rfl
        go_upto_region 7 with fail
        go_quiet (fail)
        go_wp2_with fail
        (try simp only [Exit.inBlock, Exit.then]); refine bodyPost_ret (results_none rfl _ _ _) rfl ?_
        exact RnPost.ext H.out (HE1.out.drewN nq) hb
    · have HV : Hid (canRecv r.p.st o = false) := by
        show _ = _
        have : decide (o < r.p.st.fl.length) = false := decide_eq_false (by simpa [Cp.st] using hlt)
        unfold canRecv
        rw [this]; simp
      rw [HV.out, if_neg (by simp)]
      clear HV
      have x1 : decide (o < 0) = false := decide_eq_false h0
      have x2 : decide ((r.p.F.length : Int) ≤ o) = true := decide_eq_true (by omega)

      have HBA : Hid (Blk (W.alloc (.cells #[.int .i64 2, .int .i64 p, .int .i64 o] 74)) W.heap.size 74 #[.int .i64 2, .int .i64 p, .int .i64 o]) := Blk.new W _ _
      have HE1 : Hid (Ext W (W.alloc (.cells #[.int .i64 2, .int .i64 p, .int .i64 o] 74))) := (Ext.refl W).allocs _
      go_enter Try.func53, Try.ntmps53
      go_upto_region 1 with fail
      obtain ⟨W1, hW1⟩ : ∃ W1, W.alloc (.cells #[.int .i64 2, .int .i64 p, .int .i64 o] 74) = W1 := ⟨_, rfl⟩
      obtain ⟨gA, hgA⟩ : ∃ gA, W.heap.size = gA := ⟨_, rfl⟩
      rw [hW1] at HBA HE1 ⊢
      rw [hgA] at HBA ⊢
      have HGA : Hid (base ≤ gA) := by show base ≤ gA; omega
      clear hW1 hgA
      have HC1 := Lib.hid (H.out.ext HE1.out)
      obtain ⟨c0, c1, c2, c3, c4, c5, c6⟩ := HC1.out.cells
      obtain ⟨a0, a1, a2⟩ : _ := (⟨(HBA.out.cell 0).trans rfl, (HBA.out.cell 1).trans rfl, (HBA.out.cell 2).trans rfl⟩ : W1.cell? ⟨gA, 0, none⟩ = some (.int .i64 2) ∧ W1.cell? ⟨gA, 1, none⟩ = some (.int .i64 p) ∧ W1.cell? ⟨gA, 2, none⟩ = some (.int .i64 o))
      go_upto_region 7 with fail
      go_quiet (fail)
      go_wp2_with fail
      (try simp only [Exit.inBlock, Exit.then]); refine bodyPost_ret (results_none rfl _ _ _) rfl ?_
      exact RnPost.ext H.out (HE1.out.drewN nq) hb
end Go.Proofs.Ytfnnoncdocghjaa
namespace Go.Proofs.Ytfnnoncdocghjaa
open Go.RowKit
set_option linter.unusedVariables false
set_option maxRecDepth 100000

theorem act_any (W : World) (base g n t : Nat) (f : Int) (r : Rn) (h : RnM W base g n f r) (hw : WS n t r.p.st r.S) (ht : t ≤ 200) (hn : n ≤ 5) (hb : base ≤ W.heap.size) (a : Av) :
    Calls Try.prog 53 #[.pointer (some ⟨g, 0, none⟩), .agg #[.int .i64 a.kind, .int .i64 a.proc, .int .i64 a.other]] W (RnPost W base g n f (actV n f r.p.st a) (sureV n r.p.st r.S a)) := by
  obtain ⟨k, p, o⟩ := a
  by_cases k1 : k = 1
  · subst k1; exact act_send W base g n t f r h hw ht hn hb p o
  · by_cases k2 : k = 2
    · subst k2; exact act_recv W base g n t f r h hw ht hn hb p o
    · by_cases k3 : k = 3
      · subst k3; exact act_ckpt W base g n t f r h hw ht hn hb p o
      · exact act_none W base g n t f r h hb k p o k1 k2 k3
/-- as playV_take, with what was made stable -/
def RpRel (w1 : World) (g n : Nat) (f : Int) (l : List Av) (gg : Nat) (iv : Value) (wr : World) : Prop :=
  ∃ (j : Nat) (r : Rn), j ≤ l.length ∧ iv = .int .i64 j ∧ gg = l.length - j ∧ RnM wr w1.heap.size g n f r ∧ (r.p.st, r.S) = playS n f (l.take j) ∧ Ext w1 wr
theorem res_sp2 {W : World} {b : Nat} {v1 v2 ev : Value} {tmps : Array Value} (h : Blk W b 50 #[v1, v2]) (h6 : tmps.getD 6 undef = .pointer (some ⟨b, 0, none⟩)) (h7 : tmps.getD 7 undef = ev) : (results Try.f25 tmps).run Try.prog W = .ok (.tuple #[.agg #[v1, v2], ev]) W := by
  rw [results_cell_tmp rfl, h6, h7]
  simp [asAddr, load_sp h]
set_option maxHeartbeats 6400000 in
theorem rplay_any (n f : Int) (A : Option Addr) (c : Nat) (l : List Av) (w : World) (hs : AvSeg w A l) :
    Calls Try.prog 25 #[.int .i64 n, .int .i64 f, .slice A l.length c] w (PlPost n f l w) := by
  by_cases hR : okRange n f
  · by_cases hL : l.length ≤ 200
    · obtain ⟨h1, h2, h3, h4⟩ := hR
      obtain ⟨N, rfl⟩ : ∃ N : Nat, n = (N : Int) := ⟨n.toNat, by omega⟩
      have HV : Hid (playR N f l = (0, (playV N f l).ev, (playV N f l).kn)) := by show _ = _; unfold playR; rw [if_pos ⟨h1, h2, h3, h4⟩, if_pos hL, Int.toNat_natCast]
      unfold PlPost
      rw [HV.out]
      have hN5 : N ≤ 5 := by omega
      have hL' : ¬ (200 : Int) < (l.length : Int) := by omega
      have d1 : decide ((N : Int) < 1) = false := decide_eq_false (by omega)
      have d2 : decide ((5 : Int) < (N : Int)) = false := decide_eq_false (by omega)
      have d3 : decide (f < 0) = false := decide_eq_false (by omega)
      have d4 : decide ((N : Int) < f) = false := decide_eq_false (by omega)
      have d5 : decide ((200 : Int) < (l.length : Int)) = false := decide_eq_false (by omega)
      have hX1 : Ext w (w.alloc (.cells #[.slice none 0 0, .slice none 0 0] 50)) := (Ext.refl w).allocs _
      have hB1 : Blk (w.alloc (.cells #[.slice none 0 0, .slice none 0 0] 50)) w.heap.size 50 #[.slice none 0 0, .slice none 0 0] := Blk.new w _ _
      have HBG := Lib.hid (begin_any N hN5 f (w.alloc (.cells #[.slice none 0 0, .slice none 0 0] 50)))
      have HS := Lib.hid (hs.ext hX1)
      have HX1 := Lib.hid hX1
      have HB1 := Lib.hid hB1
      clear hs hX1 hB1
      go_enter Try.func25, Try.ntmps25
      go_wp2_with fail
      refine HBG.out.mono ?_
      rintro e w2 ⟨g, r0, rfl, hC0, hst0, hS0, hE0⟩
      have HC0 := Lib.hid hC0
      have HST0 : Hid ((r0.p.st, r0.S) = playS N f (l.take 0)) := by show _ = _; rw [hst0, hS0, List.take_zero]; rfl
      have HE0 := Lib.hid hE0
      clear hC0 hst0 hS0 hE0 HBG
      obtain ⟨w1, hw1⟩ : ∃ w1, w.alloc (.cells #[.slice none 0 0, .slice none 0 0] 50) = w1 := ⟨_, rfl⟩
      rw [hw1] at HS HX1 HB1 HC0 HE0
      clear hw1
      go_wp2_with fail
      go_loopg [9] l.length (fun gg iv wr => RpRel w1 g N f l gg iv wr)
      case atStart => exact ⟨0, r0, Nat.zero_le _, rfl, rfl, HC0.out, HST0.out, HE0.out⟩
      case round =>
        obtain ⟨j, r, hj, rfl, rfl, hC, hst, hE⟩ := hrel
        by_cases hlt : j < l.length
        · have hws := WS.play N f (by omega) l j hj
          have HNX := Lib.hid (playS_take N f l j hlt)
          rw [← hst] at hws HNX
          obtain ⟨b, off, rfl, q0, q1, q2⟩ := Av.at_ (HS.out.ext hE) hlt
          obtain ⟨a, ha⟩ : ∃ a, l[j] = a := ⟨_, rfl⟩
          rw [ha] at q0 q1 q2 HNX
          clear ha
          have hj200 : j ≤ 200 := by omega
          have HACT := Lib.hid (act_any wr w1.heap.size g N j f r hC hws hj200 hN5 hE.size a)
          have HE := Lib.hid hE
          clear hC hE hws hst
          have hj0 : (0 : Int) ≤ (j : Int) := by omega
          have hj1 : (j : Int) < (l.length : Int) := by omega
          go_wp2_with fail
          refine HACT.out.mono ?_
          rintro e w5 ⟨rfl, r', hC', hst', hS', hL'⟩
          have HC' := Lib.hid hC'
          have HST' : Hid ((r'.p.st, r'.S) = playS N f (l.take (j + 1))) := by show _ = _; rw [hst', hS', HNX.out]; rfl
          have HL' := Lib.hid hL'
          clear hC' hst' hS' hL' HACT
          go_wp2_with fail
          go_roundg (l.length - (j + 1))
          case measure => omega
          case rel => exact ⟨j + 1, r', by omega, by go_num, rfl, HC'.out, HST'.out, Below.trans HE.out HL'.out⟩
        · obtain rfl : j = l.length := by omega
          rw [List.take_of_length_le (Nat.le_refl _)] at hst
          have hst1 : r.p.st = playV N f l := by rw [← playS_fst, ← hst]
          have HC := Lib.hid hC
          have HCS : Hid (∀ W', Ext wr W' → W'.cell? ⟨g, 2, none⟩ = some (.slice (some ⟨r.p.t.ge, 0, none⟩) N N) ∧ W'.cell? ⟨g, 3, none⟩ = some (.slice (some ⟨r.p.t.gk, 0, none⟩) N N)) := fun W' hW => ⟨(HC.out.ext hW).cells.2.2.1, (HC.out.ext hW).cells.2.2.2.1⟩
          have HE := Lib.hid hE
          have HST1 := Lib.hid hst1
          clear hC hE hst hst1
          go_upto_region 10 with fail
          refine wp_region_sched (by kernel_rfl) 9 [(0, true), (1, true), (2, true), (3, true), (4, true), (5, true), (6, true), (7, true), (8, true), (9, false), (10, false)] (fun W' => W'.cell? ⟨g, 2, none⟩ = some (.slice (some ⟨r.p.t.ge, 0, none⟩) N N) ∧ W'.cell? ⟨g, 3, none⟩ = some (.slice (some ⟨r.p.t.gk, 0, none⟩) N N)) (by kernel_rfl) (fun _ _ dd _ _ h => by cases dd <;> exact h) (HCS.out _ (Below.drew (Ext.refl wr))) (fun hHeld => ?_)
          iterate 9 ((refine sched_read (v := ?_) rfl (Or.inl ⟨by rfl, ?_⟩) hHeld ?_; rotate_left 1; · (intro w' hSw; obtain ⟨t0, t1⟩ := hSw; go_simp; (first | done | with_reducible rfl))); (try simp only [Act.put, List.setIfInBounds_toArray, List.set_cons_zero, List.set_cons_succ]))
          have hEd : Ext wr wr.drew := Below.drew (Ext.refl wr)
          have hC := HC.out.ext hEd
          have hE := Ext.trans HE.out hEd
          clear HC HE HCS hEd
          generalize wr.drew = wd at hHeld hC hE ⊢
          have hB6 := Blk.ext HB1.out hE
          obtain ⟨⟨x0, x1⟩, y0, y1⟩ := blk2 hB6
          have hput := Blk.put2s hB6 (.slice (some ⟨r.p.t.ge, 0, none⟩) N N) (.slice (some ⟨r.p.t.gk, 0, none⟩) N N)
          have hsp := (hC.t.typed hput.2 (TyRow.blk hB6 (by decide))).sp
          rw [show r.p.t.R.map Gr.l = (playV N f l).ev from congrArg Cm.ev HST1.out, show r.p.t.K.map Gr.l = (playV N f l).kn from congrArg Cm.kn HST1.out] at hsp
          have hEf := ((Ext.trans HX1.out hE).set (o := 0) (Nat.le_refl w.heap.size) (.slice (some ⟨r.p.t.ge, 0, none⟩) N N)).set (o := 1) (Nat.le_refl w.heap.size) (.slice (some ⟨r.p.t.gk, 0, none⟩) N N)
          have HSP := Lib.hid hsp
          have HEF := Lib.hid hEf
          have HPUT := Lib.hid hput.1
          clear hsp hEf hput hB6 hC hE hHeld
          refine sched_tail rfl (by decide) (fun K hK => ?_)
          go_simp
          refine hK.out _ ((wd.setCell ⟨w.heap.size, 0, none⟩ (.slice (some ⟨r.p.t.ge, 0, none⟩) N N)).setCell ⟨w.heap.size, 1, none⟩ (.slice (some ⟨r.p.t.gk, 0, none⟩) N N)) ?_
          clear hK K
          (try simp only [Act.put, List.setIfInBounds_toArray, List.set_cons_zero, List.set_cons_succ])
          refine sched_tail rfl (by decide) (fun K hK => ?_)
          go_simp
          refine hK.out _ _ ?_
          clear hK K
          (try simp only [Act.put, List.setIfInBounds_toArray, List.set_cons_zero, List.set_cons_succ])
          refine sched_done ?_
          go_wp2_with fail
          (try simp only [Exit.inBlock, Exit.then])
          refine bodyPost_ret (res_sp2 HPUT.out rfl rfl) rfl ?_
          exact ⟨_, rfl, HSP.out, HEF.out⟩
    · have HV : Hid (playR n f l = (4, [], [])) := by show _ = _; unfold playR; rw [if_pos hR, if_neg hL]
      obtain ⟨h1, h2, h3, h4⟩ := hR
      have hL' : (200 : Int) < (l.length : Int) := by omega
      clear hL hs
      unfold PlPost
      rw [HV.out]
      go_enter Try.func25, Try.ntmps25
      go_wp2_with fail
      (try simp only [Exit.inBlock, Exit.then]); refine bodyPost_ret (res_sp2 (Blk.new w _ _) rfl rfl) rfl ?_
      exact ⟨_, rfl, SpM.nil _, (Ext.refl w).allocs _⟩
  · have HV : Hid (playR n f l = (3, [], [])) := by show _ = _; unfold playR; rw [if_neg hR]
    unfold PlPost
    rw [HV.out]
    by_cases h1 : n < 1
    · go_enter Try.func25, Try.ntmps25
      go_wp2_with fail
      (try simp only [Exit.inBlock, Exit.then]); refine bodyPost_ret (res_sp2 (Blk.new w _ _) rfl rfl) rfl ?_
      exact ⟨_, rfl, SpM.nil _, (Ext.refl w).allocs _⟩
    · by_cases h2 : 5 < n
      · go_enter Try.func25, Try.ntmps25
        go_wp2_with fail
        (try simp only [Exit.inBlock, Exit.then]); refine bodyPost_ret (res_sp2 (Blk.new w _ _) rfl rfl) rfl ?_
        exact ⟨_, rfl, SpM.nil _, (Ext.refl w).allocs _⟩
      · by_cases h3 : f < 0
        · go_enter Try.func25, Try.ntmps25
          go_wp2_with fail
          (try simp only [Exit.inBlock, Exit.then]); refine bodyPost_ret (res_sp2 (Blk.new w _ _) rfl rfl) rfl ?_
          exact ⟨_, rfl, SpM.nil _, (Ext.refl w).allocs _⟩
        · have h4 : n < f := by unfold okRange at hR; omega
          go_enter Try.func25, Try.ntmps25
          go_wp2_with fail
          (try simp only [Exit.inBlock, Exit.then]); refine bodyPost_ret (res_sp2 (Blk.new w _ _) rfl rfl) rfl ?_
          exact ⟨_, rfl, SpM.nil _, (Ext.refl w).allocs _⟩
end Go.Proofs.Ytfnnoncdocghjaa
namespace Go.Proofs.Ytfnnoncdocghjaa
open Go.RowKit
set_option linter.unusedVariables false
set_option maxRecDepth 100000

set_option maxHeartbeats 1600000 in
theorem sameKn (A B : Option Addr) (ca cb : Nat) (l : List Kn) (w : World) (ha : KnSeg w A l) (hb : KnSeg w B l) (hn : l.length ≤ 1000) :
    Calls Try.prog 18 #[.slice A l.length ca, .slice B l.length cb] w (StillPost w (.bool true)) := by
  go_enter Try.func18, Try.ntmps18
  go_wp2_with fail
  go_loopg [5] l.length (fun g i wr => StillRel w l.length g i wr)
  case atStart => exact ⟨0, 0, Nat.zero_le _, rfl, rfl, rfl⟩
  case round =>
    obtain ⟨j, q, hj, rfl, rfl, rfl⟩ := hrel
    by_cases hlt : j < l.length
    · obtain ⟨b, off, rfl, p0, p1, p2, p3, p4, p5, p6, p7, p8, p9⟩ := Kn.at_ ha hlt
      obtain ⟨b', off', rfl, r0, r1, r2, r3, r4, r5, r6, r7, r8, r9⟩ := Kn.at_ hb hlt
      generalize l[j].d.proc = x0 at *
      generalize l[j].d.index = x1 at *
      generalize l[j].d.ev.kind = x2 at *
      generalize l[j].d.ev.inc = x3 at *
      generalize l[j].d.ev.frm = x4 at *
      generalize l[j].d.ev.sinc = x5 at *
      generalize l[j].d.ev.sidx = x6 at *
      generalize l[j].d.ev.ord = x7 at *
      generalize l[j].d.ev.val = x8 at *
      generalize l[j].h = x9 at *
      clear ha hb
      go_wp2_with fail
      go_quiet (fail)
      go_wp2_with fail
      go_roundg (l.length - (j + 1))
      case measure => omega
      case rel => exact ⟨j + 1, _, by omega, by go_num, rfl, rfl⟩
    · go_wp2_with fail
      go_ret
      exact ⟨rfl, _, rfl⟩

end Go.Proofs.Ytfnnoncdocghjaa
