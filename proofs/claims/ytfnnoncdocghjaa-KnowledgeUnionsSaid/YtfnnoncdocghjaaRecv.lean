/- receive of the computation. No statement of the seat is proved here. -/
import Derived.Test.YtfnnoncdocghjaaSend
import Derived.Test.YtfnnoncdocghjaaDelete
namespace Go.Proofs.Ytfnnoncdocghjaa
open Go.RowKit
set_option linter.unusedVariables false
set_option maxRecDepth 100000

theorem CpM.row (W : World) (base g n : Nat) (f : Int) (p : Cp) (h : CpM W base g n f p) {i : Nat} {x : MgR} (hx : p.F[i]? = some x) : ∃ gF, p.A = some ⟨gF, 0, none⟩ ∧ base ≤ gF ∧ gF < W.heap.size ∧ ∀ j u, x.cells[j]? = some u → W.cell? ⟨gF, i * 6 + j, none⟩ = some u := by
  have hi := (List.getElem?_eq_some_iff.1 hx).1
  obtain ⟨gF, cap, e, h1, h2⟩ := h.f.r.form (by omega)
  injection e with e1 _ _
  have hr := h.f.r
  rw [e1] at hr
  refine ⟨gF, e1, h1, h2, fun j u hu => ?_⟩
  have hj : j < 6 := by have := (List.getElem?_eq_some_iff.1 hu).1; rw [MgR.len] at this; exact this
  rw [hr.cellAt (i * 6 + j) (by omega), flat_get MgR.cells 6 MgR.len p.F i j x hx hj, hu]
theorem CpPost.ext {W w' : World} {base g n : Nat} {f : Int} {p : Cp} (h : CpM W base g n f p) (hE : Ext W w') (hb : base ≤ W.heap.size) : CpPost W base g n f p.st (.returned (.tuple #[])) w' := ⟨rfl, p, h.ext hE, rfl, hE.mono hb⟩
theorem map_erase {α β : Type} (f : α → β) : ∀ (l : List α) (i : Nat), (l.eraseIdx i).map f = (l.map f).eraseIdx i
  | [], _ => rfl
  | _ :: _, 0 => rfl
  | x :: l, i + 1 => by rw [List.eraseIdx_cons_succ, List.map_cons, List.map_cons, List.eraseIdx_cons_succ, map_erase f l i]
theorem bitV_nat {q : Nat} (hq : q < 32) : bitV (q : Int) = 2 ^ q := by
  unfold bitV
  rw [if_neg (by omega), Int.toNat_natCast]
/-- a determinant is stored, cell by cell -/
def putD (W : World) (g : Nat) (d : Dt) : World := ((((((((W.setCell ⟨g, 0, none⟩ (.int .i64 d.proc)).setCell ⟨g, 1, none⟩ (.int .i64 d.index)).setCell ⟨g, 2, none⟩ (.int .i64 d.ev.kind)).setCell ⟨g, 3, none⟩ (.int .i64 d.ev.inc)).setCell ⟨g, 4, none⟩ (.int .i64 d.ev.frm)).setCell ⟨g, 5, none⟩ (.int .i64 d.ev.sinc)).setCell ⟨g, 6, none⟩ (.int .i64 d.ev.sidx)).setCell ⟨g, 7, none⟩ (.int .i64 d.ev.ord)).setCell ⟨g, 8, none⟩ (.int .i64 d.ev.val)
theorem Blk.put9 {W : World} {g : Nat} {t : TypeId} {a0 a1 a2 a3 a4 a5 a6 a7 a8 : Value} (h : Blk W g t #[a0, a1, a2, a3, a4, a5, a6, a7, a8]) (d : Dt) : Blk (putD W g d) g t d.cells.toArray ∧ W.grownBy (putD W g d) (some g) := by
  refine ⟨?_, ?_⟩
  · have := Blk.sets (w := W) d.cells 0 W [a0, a1, a2, a3, a4, a5, a6, a7, a8] h
    exact this
  · unfold putD
    exact grownBy_trans (grownBy_trans (grownBy_trans (grownBy_trans (grownBy_trans (grownBy_trans (grownBy_trans (grownBy_trans (grown_set1 _ _ _ _) (grown_set1 _ _ _ _)) (grown_set1 _ _ _ _)) (grown_set1 _ _ _ _)) (grown_set1 _ _ _ _)) (grown_set1 _ _ _ _)) (grown_set1 _ _ _ _)) (grown_set1 _ _ _ _)) (grown_set1 _ _ _ _)
theorem Ext.put9 {W0 W : World} (h : Ext W0 W) {g : Nat} (hg : W0.heap.size ≤ g) (d : Dt) : Ext W0 (putD W g d) := by
  unfold putD
  exact ((((((((h.set hg _).set hg _).set hg _).set hg _).set hg _).set hg _).set hg _).set hg _).set hg _
set_option maxHeartbeats 3200000 in
theorem receive_any (W : World) (base g n t : Nat) (f : Int) (p : Cp) (h : CpM W base g n f p) (hw : WF n t p.st) (ht : t ≤ 200) (hn : n ≤ 5) (hb : base ≤ W.heap.size) (o : Int) :
    Calls Try.prog 50 #[.pointer (some ⟨g, 0, none⟩), .int .i64 o] W (CpPost W base g n f (if canRecv p.st o then recvV p.st o.toNat else p.st)) := by
  have H := Lib.hid h
  have hfl : p.F.length ≤ 256 := by have := hw.f256; simpa [Cp.st] using this
  have HW := Lib.hid hw
  obtain ⟨c0, c1, c2, c3, c4⟩ := h.cells
  clear h hw
  by_cases h0 : o < 0
  · have HV : Hid (canRecv p.st o = false) := by
      show _ = _
      have : decide (0 ≤ o) = false := decide_eq_false (by omega)
      unfold canRecv
      rw [this]; rfl
    rw [HV.out, if_neg (by simp)]
    go_enter Try.func50, Try.ntmps50
    go_wp2_with fail
    (try simp only [Exit.inBlock, Exit.then]); refine bodyPost_ret (results_none rfl _ _ _) rfl ?_
    exact CpPost.same H.out
  · by_cases hlt : o < p.F.length
    · obtain ⟨i, rfl⟩ : ∃ i : Nat, o = (i : Int) := ⟨o.toNat, by omega⟩
      have hil : i < p.F.length := by omega
      obtain ⟨x, hx⟩ : ∃ x, p.F[i]? = some x := ⟨_, List.getElem?_eq_getElem hil⟩
      obtain ⟨gF, hA, hgb, hgs, hxc⟩ := CpM.row W base g n f p H.out hx
      rw [hA] at c4
      have q0 : W.cell? ⟨gF, i * 6, none⟩ = some (.int .i64 x.m.frm) := hxc 0 _ rfl
      have q1 := hxc 1 _ rfl
      have q2 := hxc 2 _ rfl
      have q3 := hxc 3 _ rfl
      have q4 := hxc 4 _ rfl
      have q5 := hxc 5 _ rfl
      clear hxc
      obtain ⟨G, hG1, hG2, hG3⟩ := HW.out.g
      have hxm : x.m ∈ p.st.fl := List.mem_map.2 ⟨x, List.mem_of_getElem? hx, rfl⟩
      have hmo := hG3 x.m hxm
      have hqn : x.m.dst < n := hmo.d
      obtain ⟨sk, hsk⟩ : ∃ sk, p.t.K[x.m.dst]? = some sk := ⟨_, List.getElem?_eq_getElem (by rw [H.out.t.nk]; exact hqn)⟩
      obtain ⟨se, hse⟩ : ∃ se, p.t.R[x.m.dst]? = some se := ⟨_, List.getElem?_eq_getElem (by rw [H.out.t.ne]; exact hqn)⟩
      have hcE := H.out.t.cellE hse
      have hkk := hG2 sk.l (List.mem_map.2 ⟨sk, List.mem_of_getElem? hsk, rfl⟩)
      have hkl : sk.l.length ≤ 200 := by have := hkk.len; omega
      have hml : x.m.kn.length ≤ 200 := by have := hmo.k.len; omega
      have HKK : Hid (∀ k ∈ sk.l, okH k.h) := hkk.ok
      have HMK : Hid (∀ k ∈ x.m.kn, okH k.h) := hmo.k.ok
      have hel : se.l.length ≤ 64 := HW.out.el se.l (List.mem_map.2 ⟨se, List.mem_of_getElem? hse, rfl⟩)
      have hfD : p.st.fl.getD i mgD = x.m := by simp [Cp.st, List.getD_eq_getElem?_getD, hx]
      have heD : p.st.ev.getD x.m.dst [] = se.l := by simp [Cp.st, List.getD_eq_getElem?_getD, hse]
      have hkD : p.st.kn.getD x.m.dst [] = sk.l := by simp [Cp.st, List.getD_eq_getElem?_getD, hsk]
      clear hG1 hG2 hG3 hkk hmo hxm
      have hi0 : (0 : Int) ≤ (i : Int) := by omega
      have hi1 : (i : Int) < (p.F.length : Int) := by omega
      have hd0 : (0 : Int) ≤ (x.m.dst : Int) := by omega
      have hd1 : (x.m.dst : Int) < (n : Int) := by omega
      have hE1 : Ext W (W.alloc (.cells #[.int .i64 x.m.frm, .int .i64 x.m.dst, .int .i64 0, .int .i64 x.m.idx, .int .i64 x.m.ord, .slice x.A x.m.kn.length x.c] 104)) := (Ext.refl W).allocs _
      have hB1 : Blk (W.alloc (.cells #[.int .i64 x.m.frm, .int .i64 x.m.dst, .int .i64 0, .int .i64 x.m.idx, .int .i64 x.m.ord, .slice x.A x.m.kn.length x.c] 104)) W.heap.size 104 x.cells.toArray := Blk.new W _ _
      have hC1 := H.out.ext hE1
      obtain ⟨d0, d1, d2, d3, d4⟩ := hC1.cells
      have hcE1 := hC1.t.cellE hse
      rw [hA] at d4
      have hxb := MgR.blk hB1
      obtain ⟨b0, b1, b2, b3, b4, b5⟩ := hxb
      clear hcE
      have HC1 := Lib.hid hC1
      have HB1 := Lib.hid hB1
      have HE1 := Lib.hid hE1
      clear hC1 hB1 hE1
      have HFD := Lib.hid hfD
      have HED := Lib.hid heD
      have HKD := Lib.hid hkD
      have HXI := Lib.hid hx
      have HA := Lib.hid hA
      clear hfD heD hkD hx hA
      by_cases h64 : se.l.length < 64
      · have HV : Hid (canRecv p.st i = true) := canRecv_iff.2 ⟨by omega, by simpa [Cp.st] using hlt, by rw [Int.toNat_natCast, HFD.out, HED.out]; exact h64⟩
        rw [HV.out, if_pos rfl, Int.toNat_natCast]
        have h64' : decide ((64 : Int) ≤ (se.l.length : Int)) = false := decide_eq_false (by omega)
        clear HV
        go_enter Try.func50, Try.ntmps50
        go_upto_region 4 with fail
        obtain ⟨g4, hg4⟩ : ∃ g4, W.heap.size = g4 := ⟨_, rfl⟩
        have HFL : FlM MgR.cells 6 104 (W.alloc (.cells #[.int .i64 x.m.frm, .int .i64 x.m.dst, .int .i64 0, .int .i64 x.m.idx, .int .i64 x.m.ord, .slice x.A x.m.kn.length x.c] 104)) base (some ⟨gF, 0, none⟩) p.c p.F := by rw [← HA.out]; exact HC1.out.f
        have hne4 : gF ≠ g4 := by omega
        clear c0 c1 c2 c3 c4 q0 q1 q2 q3 q4 q5 b0 b1 b2 b3 b4 b5 hcE1
        have HG4 : Hid (base ≤ g4) := by show base ≤ g4; omega
        rw [hg4] at HB1 ⊢
        generalize W.alloc (.cells #[.int .i64 x.m.frm, .int .i64 x.m.dst, .int .i64 0, .int .i64 x.m.idx, .int .i64 x.m.ord, .slice x.A x.m.kn.length x.c] 104) = W1 at HFL HC1 HB1 HE1 d0 d1 d2 d3 d4 ⊢
        obtain ⟨m, hm⟩ : ∃ m, p.F.length = i + 1 + m := ⟨p.F.length - (i + 1), by omega⟩
        have HD := Lib.hid (delete_any W1 base gF p.c i m p.F HFL hm hfl)
        have hel2 : (p.F.eraseIdx i).length = i + m := by rw [List.length_eraseIdx, if_pos (by omega)]; omega
        have HEL := Lib.hid hel2
        have HM := Lib.hid hm
        have HTY : Hid (TyRow W1 (some gF) (fun t => t = 104)) := TyRow.own (v := .slice (some ⟨gF, 0, none⟩) p.F.length p.c) HFL.r rfl
        clear hel2 hm HFL
        go_wp2_with fail
        refine HD.out.mono ?_
        rintro e w2 ⟨rfl, hF2, hg2⟩
        have hb2 := blk_typed HC1.out.b hg2 (HTY.out.imp fun t e => by subst e; decide)
        have hfz2 : w2.frozen? ⟨g, 4, none⟩ = false := hb2.frozen 4
        have hce2 : w2.cell? ⟨g, 4, none⟩ = some (.slice p.A p.F.length p.c) := (hb2.cell 4).trans rfl
        have hC2 := HC1.out.set_fl hg2 HTY.out hF2
        rw [HEL.out] at hC2
        have hB2 : Blk (w2.setCell ⟨g, 4, none⟩ (.slice (some ⟨gF, 0, none⟩) (i + m) p.c)) g4 104 #[.int .i64 x.m.frm, .int .i64 x.m.dst, .int .i64 0, .int .i64 x.m.idx, .int .i64 x.m.ord, .slice x.A x.m.kn.length x.c] := blk_typed ((hg2.block g4 HB1.out.lt (fun e => hne4 (by injection e with e; exact e.symm))).trans HB1.out) (grown_set1 _ _ _ _) (TyRow.blk hb2 (by decide))
        have HL2 : Hid (Below base W (w2.setCell ⟨g, 4, none⟩ (.slice (some ⟨gF, 0, none⟩) (i + m) p.c))) := Below.setCell (Below.trans (HE1.out.mono (by rw [hg4]; exact HG4.out)) (Below.grown (Below.refl base W1) hg2 (Nat.le_trans hb HE1.out.size) (fun k hk => by injection hk with hk; omega))) H.out.z _
        have HXO2' : KnOwn (w2.setCell ⟨g, 4, none⟩ (.slice (some ⟨gF, 0, none⟩) (i + m) p.c)) base x.A x.c x.m.kn := own_typed (own_typed (HC1.out.f.k x (List.mem_of_getElem? HXI.out)) hg2 (HTY.out.imp fun t e => by subst e; decide)) (grown_set1 _ _ _ _) (TyRow.blk hb2 (by decide))
        have HC2 := Lib.hid hC2
        have HB2 := Lib.hid hB2
        clear hC2 hB2 hF2 hg2 hb2 HD HTY d0 d1 d2 d3 d4
        go_upto_region 5 with fail
        generalize w2.setCell ⟨g, 4, none⟩ (.slice (some ⟨gF, 0, none⟩) (i + m) p.c) = W2 at HC2 HB2 HL2 HXO2' ⊢
        have HXO2 : Hid (KnOwn W2 base x.A x.c x.m.kn) := HXO2'
        clear hfz2 hce2 HC1 HB1
        obtain ⟨b0, b1, b2, b3, b4, b5⟩ := MgR.blk (x := x) HB2.out
        have hE3 : Ext W2 (W2.alloc (.cells #[.int .i64 1, .int .i64 0, .int .i64 x.m.frm, .int .i64 0, .int .i64 x.m.idx, .int .i64 x.m.ord, .int .i64 0] 30)) := (Ext.refl W2).allocs _
        have HBe3 : Hid (Blk (W2.alloc (.cells #[.int .i64 1, .int .i64 0, .int .i64 x.m.frm, .int .i64 0, .int .i64 x.m.idx, .int .i64 x.m.ord, .int .i64 0] 30)) W2.heap.size 30 #[.int .i64 1, .int .i64 0, .int .i64 x.m.frm, .int .i64 0, .int .i64 x.m.idx, .int .i64 x.m.ord, .int .i64 0]) := Blk.new W2 _ _
        have HC3 := Lib.hid (HC2.out.ext hE3)
        have HB3 : Hid (Blk (W2.alloc (.cells #[.int .i64 1, .int .i64 0, .int .i64 x.m.frm, .int .i64 0, .int .i64 x.m.idx, .int .i64 x.m.ord, .int .i64 0] 30)) g4 104 #[.int .i64 x.m.frm, .int .i64 x.m.dst, .int .i64 0, .int .i64 x.m.idx, .int .i64 x.m.ord, .slice x.A x.m.kn.length x.c]) := Blk.ext HB2.out hE3
        have HL3 : Hid (Below base W (W2.alloc (.cells #[.int .i64 1, .int .i64 0, .int .i64 x.m.frm, .int .i64 0, .int .i64 x.m.idx, .int .i64 x.m.ord, .int .i64 0] 30))) := Below.trans HL2.out (hE3.mono (Nat.le_trans hb HL2.out.size))
        obtain ⟨g6, hg6⟩ : ∃ g6, W2.heap.size = g6 := ⟨_, rfl⟩
        have hsr := (HC2.out.t.e.r _ se hse)
        have hne6 : (Gr.val se).ownBlock ≠ some g6 := fun e => by have := (hsr.lt g6 e).2; omega
        clear hsr
        have HXO3 : Hid (KnOwn (W2.alloc (.cells #[.int .i64 1, .int .i64 0, .int .i64 x.m.frm, .int .i64 0, .int .i64 x.m.idx, .int .i64 x.m.ord, .int .i64 0] 30)) base x.A x.c x.m.kn) := own_ext HXO2.out hE3
        go_upto_region 6 with fail
        rw [hg6] at HBe3
        generalize W2.alloc (.cells #[.int .i64 1, .int .i64 0, .int .i64 x.m.frm, .int .i64 0, .int .i64 x.m.idx, .int .i64 x.m.ord, .int .i64 0] 30) = W3 at HC3 HB3 HBe3 HL3 HXO3 hE3 ⊢
        clear b0 b1 b2 b3 b4 b5 HC2 HB2 HL2 HXO2' HXO2
        obtain ⟨e, he⟩ : ∃ e : Ev, e = evOf x.m := ⟨_, rfl⟩
        have HEv := Lib.hid he
        have HBe : Hid (Blk W3 g6 30 e.cells.toArray) := by show Blk _ _ _ _; rw [he]; exact HBe3.out
        clear he HBe3
        have hz3 : base ≤ W3.heap.size := Nat.le_trans hb HL3.out.size
        have hz36 : g6 < W3.heap.size := HBe.out.lt
        have HSR := Lib.hid (HC3.out.t.e.r _ se hse)
        have HSS : Hid (∀ W' row, W3.grownBy W' row → (row = none ∨ row = (Gr.val se).ownBlock) → W'.cell? ⟨g, 1, none⟩ = some (.slice (some ⟨p.t.ge, 0, none⟩) n n) ∧ W'.cell? ⟨p.t.ge, x.m.dst, none⟩ = some (.slice se.A se.l.length se.c) ∧ Blk W' g6 30 e.cells.toArray) := fun W' row hW hr => by
          have hty : ∀ t0, t0 ≠ 30 → TyRow W3 row (fun t => t ≠ t0) := fun t0 ht0 => by
            rcases hr with rfl | rfl
            · exact TyRow.none _ _
            · exact TyRow.own HSR.out (Ne.symm ht0)
          refine ⟨((blk_typed HC3.out.b hW (hty _ (by decide))).cell 1).trans rfl, ?_, ?_⟩
          · have h9 := Blk.tabAt (blk_typed HC3.out.t.e.b hW (hty _ (by decide))) Gr.len hse (j := 0) (by omega) (u := Gr.val se) rfl
            simpa using h9
          · refine (hW.block g6 HBe.out.lt (fun e => ?_)).trans HBe.out
            rcases hr with rfl | rfl
            · cases e
            · exact hne6 e.symm
        refine wp_region_sched (by kernel_rfl) 18 [(0, true), (1, true), (2, true), (3, true), (4, true), (5, true), (6, true), (7, true), (8, true), (9, true), (10, true), (11, true), (12, true), (13, true), (14, true), (15, false), (16, false), (17, true), (18, false)] (fun W' => W'.cell? ⟨g, 1, none⟩ = some (.slice (some ⟨p.t.ge, 0, none⟩) n n) ∧ W'.cell? ⟨p.t.ge, x.m.dst, none⟩ = some (.slice se.A se.l.length se.c) ∧ Blk W' g6 30 e.cells.toArray) (by kernel_rfl) (fun _ _ dd _ _ h => by cases dd <;> exact h) (HSS.out _ _ (grownBy_ext (row := none) (Below.drew (Ext.refl W3))) (.inl rfl)) (fun hHeld => ?_)
        iterate 15 ((refine sched_read (v := ?_) rfl (Or.inl ⟨by rfl, ?_⟩) hHeld ?_; rotate_left 1; · (intro w' hSw; obtain ⟨t0, t1, t2⟩ := hSw; obtain ⟨⟨z0, z1, z2, z3, z4, z5, z6⟩, -⟩ := blk7 t2; go_simp; (first | done | with_reducible rfl))); (try simp only [Act.put, List.setIfInBounds_toArray, List.set_cons_zero, List.set_cons_succ]))
        have hEa : Ext W3 (W3.drew.alloc (.cells e.cells.toArray 30)) := Ext.trans (Below.drew (Ext.refl W3)) ((Ext.refl W3.drew).allocs _)
        have HBa : Hid (Blk (W3.drew.alloc (.cells e.cells.toArray 30)) W3.drew.heap.size 30 e.cells.toArray) := Blk.new W3.drew _ _
        have HCa := Lib.hid (HC3.out.ext hEa)
        refine sched_eff rfl (fun K hK => ?_)
        go_simp
        refine hK.out _ (W3.drew.alloc (.cells e.cells.toArray 30)) (HSS.out _ _ (grownBy_ext (row := none) hEa) (.inl rfl)) (fun hHeld => ?_)
        clear hK K
        try simp only [Act.put, List.setIfInBounds_toArray, List.set_cons_zero, List.set_cons_succ]
        refine sched_eff rfl (fun K hK => ?_)
        refine step_push_lies Ev.cells 7 56 Ev.len Ev.one (by omega) (by rfl) _ _ _ (by rfl) base 30 Try.underlying65 (by kernel_rfl) (.slice se.A se.l.length se.c) se.l e W3.drew.heap.size (by rfl) (HCa.out.t.e.r _ se hse) (by rfl) (Seg.ofBlkK HBa.out rfl) (by unfold maxLen; omega) (by omega) (Nat.le_trans hz3 hEa.size) ?_
        intro g9 c9 w9 hown9 hg9 hd9
        have hgr := grownBy_trans (grownBy_ext (row := (Gr.val se).ownBlock) hEa) hg9
        refine hK.out _ _ (HSS.out _ _ hgr (.inr rfl)) (fun hHeld => ?_)
        clear hK K
        try simp only [Act.put, List.setIfInBounds_toArray, List.set_cons_zero, List.set_cons_succ]
        iterate 1 ((refine sched_read (v := ?_) rfl (Or.inl ⟨by rfl, ?_⟩) hHeld ?_; rotate_left 1; · (intro w' hSw; obtain ⟨t0, t1, t2⟩ := hSw; go_simp; (first | done | with_reducible rfl))); (try simp only [Act.put, List.setIfInBounds_toArray, List.set_cons_zero, List.set_cons_succ]))
        have hC9 := HCa.out.push_ev hse hown9 hg9 hd9
        have hty : ∀ t0, t0 ≠ 30 → TyRow W3 (Gr.val se).ownBlock (fun t => t ≠ t0) := fun t0 ht0 => TyRow.own HSR.out (Ne.symm ht0)
        have hbe9 := blk_typed HC3.out.t.e.b hgr (hty _ (by decide))
        have hfz9 : w9.frozen? ⟨p.t.ge, x.m.dst, none⟩ = false := hbe9.frozen _
        have hce9 : w9.cell? ⟨p.t.ge, x.m.dst, none⟩ = some (.slice se.A se.l.length se.c) := hHeld.2.1
        have hsx := grown_set1 w9 p.t.ge x.m.dst (.slice (some ⟨g9, 0, none⟩) (se.l.length + 1) c9)
        have hB9 : Blk (w9.setCell ⟨p.t.ge, x.m.dst, none⟩ (.slice (some ⟨g9, 0, none⟩) (se.l.length + 1) c9)) g4 104 #[.int .i64 x.m.frm, .int .i64 x.m.dst, .int .i64 0, .int .i64 x.m.idx, .int .i64 x.m.ord, .slice x.A x.m.kn.length x.c] := blk_typed (blk_typed HB3.out hgr (hty _ (by decide))) hsx (TyRow.blk hbe9 (by decide))
        have hBe9 : Blk (w9.setCell ⟨p.t.ge, x.m.dst, none⟩ (.slice (some ⟨g9, 0, none⟩) (se.l.length + 1) c9)) g6 30 e.cells.toArray := blk_typed hHeld.2.2 hsx (TyRow.blk hbe9 (by decide))
        have hXO9 : KnOwn (w9.setCell ⟨p.t.ge, x.m.dst, none⟩ (.slice (some ⟨g9, 0, none⟩) (se.l.length + 1) c9)) base x.A x.c x.m.kn := own_typed (own_typed HXO3.out hgr (hty _ (by decide))) hsx (TyRow.blk hbe9 (by decide))
        have hL9 : Below base W (w9.setCell ⟨p.t.ge, x.m.dst, none⟩ (.slice (some ⟨g9, 0, none⟩) (se.l.length + 1) c9)) := Below.setCell (Below.trans HL3.out (Below.grown (Below.refl base W3) hgr hz3 (fun k hk => (HSR.out.lt k hk).1))) H.out.t.ze _
        have HC4 := Lib.hid hC9
        have HB4 := Lib.hid hB9
        have HBe4 := Lib.hid hBe9
        have HXO4 := Lib.hid hXO9
        have HL4 := Lib.hid hL9
        clear hC9 hB9 hBe9 hXO9 hL9 hown9 hg9 hd9 hgr hsx hbe9 hty HSS HSR HBa HCa hEa HC3 HB3 HBe HL3 HXO3 hE3
        refine sched_tail rfl (by decide) (fun K hK => ?_)
        go_simp
        refine hK.out _ (w9.setCell ⟨p.t.ge, x.m.dst, none⟩ (.slice (some ⟨g9, 0, none⟩) (se.l.length + 1) c9)) ?_
        clear hK K
        refine sched_done ?_
        clear hHeld hfz9 hce9
        generalize w9.setCell ⟨p.t.ge, x.m.dst, none⟩ (.slice (some ⟨g9, 0, none⟩) (se.l.length + 1) c9) = W4 at HC4 HB4 HBe4 HXO4 HL4 ⊢
        obtain ⟨R4, hR4⟩ : ∃ R4, p.t.R.set x.m.dst ⟨some ⟨g9, 0, none⟩, c9, se.l ++ [e]⟩ = R4 := ⟨_, rfl⟩
        have hs4 : R4[x.m.dst]? = some ⟨some ⟨g9, 0, none⟩, c9, se.l ++ [e]⟩ := by rw [← hR4, List.getElem?_set, if_pos rfl, if_pos (by rw [H.out.t.ne]; exact hqn)]
        have HR4 := Lib.hid hR4
        have HC4' : CpM W4 base g n f ⟨⟨p.t.ge, p.t.gk, p.t.go, R4, p.t.K, p.t.os⟩, some ⟨gF, 0, none⟩, p.c, p.F.eraseIdx i⟩ := by rw [← hR4]; exact HC4.out
        obtain ⟨so, hso⟩ : ∃ so, p.t.os[x.m.dst]? = some so := ⟨_, List.getElem?_eq_getElem (by rw [H.out.t.no]; exact hqn)⟩
        have hcO4 := HC4'.t.cellO hso
        have hfO4 := HC4'.t.o.frozen x.m.dst
        obtain ⟨d0, d1, d2, d3, d4⟩ := HC4'.cells
        have hsx4 := grown_set1 W4 p.t.go x.m.dst (.int .i64 0)
        have HC5 : Hid (CpM (W4.setCell ⟨p.t.go, x.m.dst, none⟩ (.int .i64 0)) base g n f ⟨⟨p.t.ge, p.t.gk, p.t.go, R4, p.t.K, p.t.os.set x.m.dst 0⟩, some ⟨gF, 0, none⟩, p.c, p.F.eraseIdx i⟩) := HC4'.set_ord hqn 0
        have HB5 := Lib.hid (blk_typed HB4.out hsx4 (TyRow.blk HC4'.t.o (by decide)))
        have HBe5 := Lib.hid (blk_typed HBe4.out hsx4 (TyRow.blk HC4'.t.o (by decide)))
        have HXO5 := Lib.hid (own_typed HXO4.out hsx4 (TyRow.blk HC4'.t.o (by decide)))
        have HL5 : Hid (Below base W (W4.setCell ⟨p.t.go, x.m.dst, none⟩ (.int .i64 0))) := Below.setCell HL4.out H.out.t.zo _
        clear hR4 hsx4 HC4 HC4' HB4 HBe4 HXO4 HL4
        go_upto_region 8 with fail
        generalize W4.setCell ⟨p.t.go, x.m.dst, none⟩ (.int .i64 0) = W5 at HC5 HB5 HBe5 HXO5 HL5 ⊢
        clear d0 d1 d2 d3 d4 hcO4 hfO4
        have hcE5 : ∀ W', Ext W5 W' → W'.cell? ⟨g, 1, none⟩ = some (.slice (some ⟨p.t.ge, 0, none⟩) n n) ∧ W'.cell? ⟨p.t.ge, x.m.dst, none⟩ = some (.slice (some ⟨g9, 0, none⟩) (se.l.length + 1) c9) ∧ Blk W' g6 30 e.cells.toArray := fun W' hW => by
          have h9 := HC5.out.ext hW
          refine ⟨h9.cells.2.1, ?_, Blk.ext HBe5.out hW⟩
          have h10 := h9.t.cellE hs4
          rw [show (se.l ++ [e]).length = se.l.length + 1 by simp] at h10
          exact h10
        have HS5 := Lib.hid hcE5
        clear hcE5
        obtain ⟨d, hd⟩ : ∃ d : Dt, d = ⟨x.m.dst, (se.l.length : Int) + 1, e⟩ := ⟨_, rfl⟩
        have HDt := Lib.hid hd
        clear hd
        refine wp_region_sched (by kernel_rfl) 13 [(0, true), (1, true), (2, true), (3, true), (4, true), (5, true), (6, true), (7, true), (8, true), (9, true), (10, true), (11, true), (12, false), (13, false)] (fun W' => W'.cell? ⟨g, 1, none⟩ = some (.slice (some ⟨p.t.ge, 0, none⟩) n n) ∧ W'.cell? ⟨p.t.ge, x.m.dst, none⟩ = some (.slice (some ⟨g9, 0, none⟩) (se.l.length + 1) c9) ∧ Blk W' g6 30 e.cells.toArray) (by kernel_rfl) (fun _ _ dd _ _ h => by cases dd <;> exact h) (HS5.out _ (Below.drew (Ext.refl W5))) (fun hHeld => ?_)
        iterate 12 ((refine sched_read (v := ?_) rfl (Or.inl ⟨by rfl, ?_⟩) hHeld ?_; rotate_left 1; · (intro w' hSw; obtain ⟨t0, t1, t2⟩ := hSw; obtain ⟨⟨z0, z1, z2, z3, z4, z5, z6⟩, -⟩ := blk7 t2; go_simp; (first | done | with_reducible rfl))); (try simp only [Act.put, List.setIfInBounds_toArray, List.set_cons_zero, List.set_cons_succ]))
        have hE6 : Ext W5 (W5.drew.alloc (.cells #[.int .i64 0, .int .i64 0, .int .i64 0, .int .i64 0, .int .i64 0, .int .i64 0, .int .i64 0, .int .i64 0, .int .i64 0] 32)) := Ext.trans (Below.drew (Ext.refl W5)) ((Ext.refl W5.drew).allocs _)
        have hBz : Blk (W5.drew.alloc (.cells #[.int .i64 0, .int .i64 0, .int .i64 0, .int .i64 0, .int .i64 0, .int .i64 0, .int .i64 0, .int .i64 0, .int .i64 0] 32)) W5.drew.heap.size 32 #[.int .i64 0, .int .i64 0, .int .i64 0, .int .i64 0, .int .i64 0, .int .i64 0, .int .i64 0, .int .i64 0, .int .i64 0] := Blk.new W5.drew _ _
        obtain ⟨g7, hg7⟩ : ∃ g7, W5.heap.size = g7 := ⟨_, rfl⟩
        have hg7' : W5.drew.heap.size = g7 := hg7
        rw [hg7'] at hBz
        refine sched_eff rfl (fun K hK => ?_)
        go_simp
        refine hK.out _ (W5.drew.alloc (.cells #[.int .i64 0, .int .i64 0, .int .i64 0, .int .i64 0, .int .i64 0, .int .i64 0, .int .i64 0, .int .i64 0, .int .i64 0] 32)) (HS5.out _ hE6) (fun hHeld => ?_)
        clear hK K
        try simp only [Act.put, List.setIfInBounds_toArray, List.set_cons_zero, List.set_cons_succ]
        have hz5 : base ≤ W5.heap.size := Nat.le_trans hb HL5.out.size
        have hz7 : W5.heap.size ≤ g7 := by omega
        have HC6' := HC5.out.ext hE6
        have HB6' := Blk.ext HB5.out hE6
        have HXO6' := own_ext HXO5.out hE6
        generalize W5.drew.alloc (.cells #[.int .i64 0, .int .i64 0, .int .i64 0, .int .i64 0, .int .i64 0, .int .i64 0, .int .i64 0, .int .i64 0, .int .i64 0] 32) = Wz at hE6 hBz hHeld HC6' HB6' HXO6' ⊢
        have hput := Blk.put9 hBz d
        obtain ⟨hp1, hp2⟩ := hput
        have hpE := Ext.put9 hE6 hz7 d
        have HC6 : Hid (CpM (putD Wz g7 d) base g n f ⟨⟨p.t.ge, p.t.gk, p.t.go, R4, p.t.K, p.t.os.set x.m.dst 0⟩, some ⟨gF, 0, none⟩, p.c, p.F.eraseIdx i⟩) := HC5.out.ext hpE
        have HB6 : Hid (Blk (putD Wz g7 d) g4 104 #[.int .i64 x.m.frm, .int .i64 x.m.dst, .int .i64 0, .int .i64 x.m.idx, .int .i64 x.m.ord, .slice x.A x.m.kn.length x.c]) := Blk.ext HB5.out hpE
        have HBd6 := Lib.hid hp1
        have HXO6 := Lib.hid (own_ext HXO5.out hpE)
        have HL6 : Hid (Below base W (putD Wz g7 d)) := Below.trans HL5.out (hpE.mono hz5)
        have hzc := blk9 (d := ⟨0, 0, ⟨0, 0, 0, 0, 0, 0, 0⟩⟩) hBz
        have hzf := blk9f hBz
        obtain ⟨x0, x1, x2, x3, x4, x5, x6, x7, x8⟩ := hzc
        obtain ⟨y0, y1, y2, y3, y4, y5, y6, y7, y8⟩ := hzf
        clear hp1 hp2 hpE HC6' HB6' HXO6' HC5 HB5 HBe5 HXO5 HL5 hE6 hHeld
        refine sched_tail rfl (by decide) (fun K hK => ?_)
        go_simp
        refine hK.out _ (putD Wz g7 ⟨x.m.dst, (se.l.length : Int) + 1, e⟩) ?_
        clear hK K
        rw [← HDt.out]
        clear x0 x1 x2 x3 x4 x5 x6 x7 x8 y0 y1 y2 y3 y4 y5 y6 y7 y8 hBz
        refine sched_done ?_
        generalize putD Wz g7 d = W6 at HC6 HB6 HBd6 HXO6 HL6 ⊢
        have hcS6 : ∀ W', Ext W6 W' → W'.cell? ⟨g, 2, none⟩ = some (.slice (some ⟨p.t.gk, 0, none⟩) n n) ∧ W'.cell? ⟨p.t.gk, x.m.dst, none⟩ = some (.slice sk.A sk.l.length sk.c) ∧ W'.cell? ⟨g4, 5, none⟩ = some (.slice x.A x.m.kn.length x.c) := fun W' hW => by
          have h9 := HC6.out.ext hW
          exact ⟨h9.cells.2.2.1, h9.t.cellK hsk, (MgR.blk (x := x) (Blk.ext HB6.out hW)).2.2.2.2.2⟩
        have HS6 := Lib.hid hcS6
        clear hcS6
        go_upto_region 9 with fail
        refine wp_region_sched (by kernel_rfl) 12 [(0, true), (1, true), (2, true), (3, true), (4, true), (5, true), (6, true), (7, true), (8, true), (9, true), (10, true), (11, false), (12, false)] (fun W' => W'.cell? ⟨g, 2, none⟩ = some (.slice (some ⟨p.t.gk, 0, none⟩) n n) ∧ W'.cell? ⟨p.t.gk, x.m.dst, none⟩ = some (.slice sk.A sk.l.length sk.c) ∧ W'.cell? ⟨g4, 5, none⟩ = some (.slice x.A x.m.kn.length x.c)) (by kernel_rfl) (fun _ _ dd _ _ h => by cases dd <;> exact h) (HS6.out _ (Below.drew (Ext.refl W6))) (fun hHeld => ?_)
        iterate 11 ((refine sched_read (v := ?_) rfl (Or.inl ⟨by rfl, ?_⟩) hHeld ?_; rotate_left 1; · (intro w' hSw; obtain ⟨t0, t1, t2⟩ := hSw; go_simp; (first | done | with_reducible rfl))); (try simp only [Act.put, List.setIfInBounds_toArray, List.set_cons_zero, List.set_cons_succ]))
        have hE6d : Ext W6 W6.drew := Below.drew (Ext.refl W6)
        have HMG := Lib.hid (merge_code sk.A x.A sk.c x.c sk.l x.m.kn x.m.dst W6.drew (Seg.of_own (own_ext (HC6.out.t.k sk (List.mem_of_getElem? hsk)) hE6d)) (Seg.of_own (own_ext HXO6.out hE6d)) (by omega) (by omega) (fun k hk => by rcases List.mem_append.1 hk with hk | hk; exact HKK.out k hk; exact HMK.out k hk))
        refine sched_eff rfl (fun K hK => ?_)
        go_simp
        refine HMG.out.mono ?_
        rintro e9 w7 ⟨v, rfl, hown, hE⟩
        obtain ⟨A7, c7, rfl, -, -, -⟩ := own_slice hown
        have hE67 : Ext W6 w7 := Ext.trans hE6d hE
        refine hK.out _ _ (HS6.out _ hE67) (fun hHeld => ?_)
        clear hK K HMG
        try simp only [Act.put, List.setIfInBounds_toArray, List.set_cons_zero, List.set_cons_succ]
        have HC7 := Lib.hid (HC6.out.ext hE67)
        have HBd7 := Lib.hid (Blk.ext HBd6.out hE67)
        have HL7 : Hid (Below base W w7) := Below.trans HL6.out (hE67.mono (Nat.le_trans hb HL6.out.size))
        have HO7 : Hid (KnOwn w7 base A7 c7 (mergeV (bitV x.m.dst) sk.l x.m.kn)) := own_base hown (Nat.le_trans hb HL6.out.size)
        clear hown hE hE67 hE6d HC6 HB6 HBd6 HXO6 HL6
        refine sched_tail rfl (by decide) (fun K hK => ?_)
        go_simp
        refine hK.out _ _ ?_
        clear hK K hHeld
        try simp only [Act.put, List.setIfInBounds_toArray, List.set_cons_zero, List.set_cons_succ]
        refine sched_done ?_
        have hmok : ∀ k ∈ mergeV (bitV x.m.dst) sk.l x.m.kn, okH k.h := by
          intro k hk
          obtain ⟨y, hy, rfl⟩ := List.mem_map.1 hk
          refine orB_ok ?_ ((memV_of _ (fun k hk => by rcases List.mem_append.1 hk with hk | hk; exact HKK.out k hk; exact HMK.out k hk)).ok y hy)
          rw [bitV_nat (by omega)]
          exact okH_pow (by omega)
        have hmlen : (mergeV (bitV x.m.dst) sk.l x.m.kn).length ≤ 400 := by
          unfold mergeV
          rw [List.length_map]
          have := memV_len (sk.l ++ x.m.kn)
          rw [List.length_append] at this
          omega
        have HMO := Lib.hid hmok
        have HML := Lib.hid hmlen
        obtain ⟨M, hM⟩ : ∃ M, mergeV (bitV x.m.dst) sk.l x.m.kn = M := ⟨_, rfl⟩
        have HMe := Lib.hid hM
        rw [hM] at HO7 HMO HML ⊢
        clear hM hmok hmlen
        have hcS7 : ∀ W', Ext w7 W' → W'.cell? ⟨g, 2, none⟩ = some (.slice (some ⟨p.t.gk, 0, none⟩) n n) ∧ Blk W' g7 32 d.cells.toArray := fun W' hW => ⟨(HC7.out.ext hW).cells.2.2.1, Blk.ext HBd7.out hW⟩
        have HS7 := Lib.hid hcS7
        clear hcS7
        have hw2 : IntKind.u32.wrap ((2 : Int) ^ x.m.dst) = (2 : Int) ^ x.m.dst := wraps_u32' _ (okH_pow (m := x.m.dst) (by omega)).1 (by have := (okH_pow (m := x.m.dst) (by omega)).2; omega)
        go_upto_region 10 with fail
        refine wp_region_sched (by kernel_rfl) 13 [(0, true), (1, true), (2, true), (3, true), (4, true), (5, true), (6, true), (7, true), (8, true), (9, true), (10, true), (11, false), (12, true), (13, false)] (fun W' => W'.cell? ⟨g, 2, none⟩ = some (.slice (some ⟨p.t.gk, 0, none⟩) n n) ∧ Blk W' g7 32 d.cells.toArray) (by kernel_rfl) (fun _ _ dd _ _ h => by cases dd <;> exact h) (HS7.out _ (Below.drew (Ext.refl w7))) (fun hHeld => ?_)
        iterate 11 ((refine sched_read (v := ?_) rfl (Or.inl ⟨by rfl, ?_⟩) hHeld ?_; rotate_left 1; · (intro w' hSw; obtain ⟨t0, t1⟩ := hSw; obtain ⟨z0, z1, z2, z3, z4, z5, z6, z7, z8⟩ := blk9 t1; go_simp; (first | done | with_reducible rfl))); (try simp only [Act.put, List.setIfInBounds_toArray, List.set_cons_zero, List.set_cons_succ]))
        have hE7d : Ext w7 w7.drew := Below.drew (Ext.refl w7)
        have HAD := Lib.hid (add_any A7 c7 M ⟨d, (2 : Int) ^ x.m.dst⟩ w7.drew (Seg.of_own (own_ext HO7.out hE7d)) (by have := HML.out; omega) (fun k hk => by
          rcases List.mem_append.1 hk with hk | hk
          · exact HMO.out k hk
          · rw [List.mem_singleton] at hk; subst hk; exact okH_pow (by omega)))
        refine sched_eff rfl (fun K hK => ?_)
        go_simp
        refine HAD.out.mono ?_
        rintro e9 w8 ⟨v, rfl, hown, hE⟩
        obtain ⟨A8, c8, rfl, -, -, -⟩ := own_slice hown
        have hE78 : Ext w7 w8 := Ext.trans hE7d hE
        refine hK.out _ _ (HS7.out _ hE78) (fun hHeld => ?_)
        clear hK K HAD
        try simp only [Act.put, List.setIfInBounds_toArray, List.set_cons_zero, List.set_cons_succ]
        iterate 1 ((refine sched_read (v := ?_) rfl (Or.inl ⟨by rfl, ?_⟩) hHeld ?_; rotate_left 1; · (intro w' hSw; obtain ⟨t0, t1⟩ := hSw; go_simp; (first | done | with_reducible rfl))); (try simp only [Act.put, List.setIfInBounds_toArray, List.set_cons_zero, List.set_cons_succ]))
        have hC8 := HC7.out.ext hE78
        have hO8 : KnOwn w8 base A8 c8 (memV (M ++ [⟨d, (2 : Int) ^ x.m.dst⟩])) := own_base hown (Nat.le_trans hb HL7.out.size)
        have HC8 : Hid (CpM (w8.setCell ⟨p.t.gk, x.m.dst, none⟩ (.slice A8 (memV (M ++ [⟨d, (2 : Int) ^ x.m.dst⟩])).length c8)) base g n f ⟨⟨p.t.ge, p.t.gk, p.t.go, R4, p.t.K.set x.m.dst ⟨A8, c8, memV (M ++ [⟨d, (2 : Int) ^ x.m.dst⟩])⟩, p.t.os.set x.m.dst 0⟩, some ⟨gF, 0, none⟩, p.c, p.F.eraseIdx i⟩) := hC8.set_kn hqn hO8
        have HL8 : Hid (Below base W (w8.setCell ⟨p.t.gk, x.m.dst, none⟩ (.slice A8 (memV (M ++ [⟨d, (2 : Int) ^ x.m.dst⟩])).length c8))) := Below.setCell (Below.trans HL7.out (hE78.mono (Nat.le_trans hb HL7.out.size))) H.out.t.zk _
        have hfz8 : w8.frozen? ⟨p.t.gk, x.m.dst, none⟩ = false := hC8.t.kb.frozen _
        have hce8 := hC8.t.cellK hsk
        clear hown hE hE78 hE7d hC8 hO8 hHeld
        refine sched_tail rfl (by decide) (fun K hK => ?_)
        go_simp
        refine hK.out _ (w8.setCell ⟨p.t.gk, x.m.dst, none⟩ (.slice A8 (memV (M ++ [⟨d, (2 : Int) ^ x.m.dst⟩])).length c8)) ?_
        clear hK K
        refine sched_done ?_
        (try simp only [Exit.inBlock, Exit.then])
        go_wp2_with fail
        (try simp only [Exit.inBlock, Exit.then]); refine bodyPost_ret (results_none rfl _ _ _) rfl ?_
        refine ⟨rfl, _, HC8.out, ?_, HL8.out⟩
        unfold recvV
        rw [HFD.out]
        dsimp only
        rw [HED.out, HKD.out]
        simp only [Cp.st, List.map_set, ← HR4.out, ← HMe.out, HDt.out, HEv.out, bitV_nat (show x.m.dst < 32 by omega), map_erase]
      · have HV : Hid (canRecv p.st i = false) := by
          show _ = _
          have : decide ((p.st.ev.getD (p.st.fl.getD ((i : Int)).toNat mgD).dst []).length < 64) = false := decide_eq_false (by rw [Int.toNat_natCast, HFD.out, HED.out]; exact h64)
          unfold canRecv
          rw [this, Bool.and_false]
        rw [HV.out, if_neg (by simp)]
        have h64' : decide ((64 : Int) ≤ (se.l.length : Int)) = true := decide_eq_true (by omega)
        clear h64
        go_enter Try.func50, Try.ntmps50
        go_wp2_with fail
        (try simp only [Exit.inBlock, Exit.then]); refine bodyPost_ret (results_none rfl _ _ _) rfl ?_
        exact CpPost.ext H.out ((Ext.refl W).allocs _) hb
    · have HV : Hid (canRecv p.st o = false) := by
        show _ = _
        have : decide (o < p.st.fl.length) = false := decide_eq_false (by simpa [Cp.st] using hlt)
        unfold canRecv
        rw [this]; simp
      rw [HV.out, if_neg (by simp)]
      have hlt' : (p.F.length : Int) ≤ o := by omega
      go_enter Try.func50, Try.ntmps50
      go_wp2_with fail
      (try simp only [Exit.inBlock, Exit.then]); refine bodyPost_ret (results_none rfl _ _ _) rfl ?_
      exact CpPost.same H.out
end Go.Proofs.Ytfnnoncdocghjaa
