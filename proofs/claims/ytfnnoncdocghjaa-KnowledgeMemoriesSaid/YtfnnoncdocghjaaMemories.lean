/- The law KnowledgeMemories walked. No statement of the seat is proved here. -/
import Derived.Test.YtfnnoncdocghjaaArgsK
import Derived.Test.YtfnnoncdocghjaaRMergeK
import Derived.Test.YtfnnoncdocghjaaSameK
namespace Go.Proofs.Ytfnnoncdocghjaa
open Go.RowKit
set_option linter.unusedVariables false
set_option maxRecDepth 100000

def putC10 (W : World) (g : Nat) (k : Kn) : World := ((((((((((W.setCell ⟨g, 0, none⟩ (.int .i64 k.d.proc)).setCell ⟨g, 1, none⟩ (.int .i64 k.d.index)).setCell ⟨g, 2, none⟩ (.int .i64 k.d.ev.kind)).setCell ⟨g, 3, none⟩ (.int .i64 k.d.ev.inc)).setCell ⟨g, 4, none⟩ (.int .i64 k.d.ev.frm)).setCell ⟨g, 5, none⟩ (.int .i64 k.d.ev.sinc)).setCell ⟨g, 6, none⟩ (.int .i64 k.d.ev.sidx)).setCell ⟨g, 7, none⟩ (.int .i64 k.d.ev.ord)).setCell ⟨g, 8, none⟩ (.int .i64 k.d.ev.val)).setCell ⟨g, 9, none⟩ (.int .u32 k.h))
theorem Blk.put10 {W : World} {g : Nat} {t : TypeId} {k0 : Kn} (h : Blk W g t k0.cells.toArray) (k : Kn) : Blk (putC10 W g k) g t k.cells.toArray ∧ W.grownBy (putC10 W g k) (some g) := by
  refine ⟨?_, ?_⟩
  · have := Blk.sets (w := W) k.cells 0 W k0.cells h
    exact this
  · unfold putC10
    exact grownBy_trans (grownBy_trans (grownBy_trans (grownBy_trans (grownBy_trans (grownBy_trans (grownBy_trans (grownBy_trans (grownBy_trans (grown_set1 _ _ _ _) (grown_set1 _ _ _ _)) (grown_set1 _ _ _ _)) (grown_set1 _ _ _ _)) (grown_set1 _ _ _ _)) (grown_set1 _ _ _ _)) (grown_set1 _ _ _ _)) (grown_set1 _ _ _ _)) (grown_set1 _ _ _ _)) (grown_set1 _ _ _ _)
theorem Ext.put10 {W0 W : World} (h : Ext W0 W) {g : Nat} (hg : W0.heap.size ≤ g) (k : Kn) : Ext W0 (putC10 W g k) := by
  unfold putC10
  exact ((((((((((h.set hg _).set hg _).set hg _).set hg _).set hg _).set hg _).set hg _).set hg _).set hg _).set hg _)
theorem hok1 {l : List Kn} {x : Kn} (hl : ∀ k ∈ l, okH k.h) (hx : okH x.h) : ∀ k ∈ l ++ [x], okH k.h := fun k hk => by
  rcases List.mem_append.1 hk with h | h
  · exact hl k h
  · rw [List.mem_singleton] at h; subst h; exact hx
theorem hok2 {l m : List Kn} (hl : ∀ k ∈ l, okH k.h) (hm : ∀ k ∈ m, okH k.h) : ∀ k ∈ l ++ m, okH k.h := fun k hk => by
  rcases List.mem_append.1 hk with h | h
  · exact hl k h
  · exact hm k h
theorem own_seg {w : World} {base n c : Nat} {e : TypeId} {A : Option Addr} {xs : List Value} (h : w.ownsRow base e 10 (.slice A n c) n xs) : Seg w 10 A n xs := by
  obtain ⟨A', c', hv, hs, -, -⟩ := own_slice h
  injection hv with h1 h2 h3
  subst h1
  exact hs
/-- what the law goes on with: the scene's lists, and the determinant in its box -/
def MmCut (w : World) (gK : Nat) (AX AY : Option Addr) (X Y : List Kn) (wx : World) : Prop := ∃ x : Kn, Blk wx gK 34 x.cells.toArray ∧ okH x.h ∧ Ext w wx ∧ KnSeg wx AX X ∧ KnSeg wx AY Y ∧ gK < wx.heap.size
set_option maxHeartbeats 6400000 in
theorem memories_walk (a0 : Option Addr) (cap0 : Nat) (la : List Kn) (a1 : Option Addr) (cap1 : Nat) (lb : List Kn) (kn : Kn) (x3 : Int) (a4 : Option Addr) (cap4 : Nat) (bs : List Int) (w : World)
    (w0 : KnSeg w a0 la ∧ la.length ≤ cap0 ∧ cap0 ≤ maxLen ∧ ∀ k ∈ la, okH k.h) (w1 : KnSeg w a1 lb ∧ lb.length ≤ cap1 ∧ cap1 ≤ maxLen ∧ ∀ k ∈ lb, okH k.h) (w2 : okH kn.h) (w3 : (Lit.int .i64 x3).wf = true)
    (w4 : Seg w 1 a4 bs.length (bs.map (Value.int .u8)) ∧ bs.length ≤ cap4 ∧ cap4 ≤ maxLen ∧ ∀ b ∈ bs, 0 ≤ b ∧ b < 256) :
    Calls Try.prog 4 #[.slice a0 la.length cap0, .slice a1 lb.length cap1, kn.val, .int .i64 x3, .slice a4 bs.length cap4] w fun e w' => e = .returned (.bool true) ∧ Below w.heap.size w w' := by
  have W0 := Lib.hid w0
  have W1 := Lib.hid w1
  have W2 := Lib.hid w2
  have W4 := Lib.hid w4
  have hcapa : (la.length : Int) ≤ maxLen := by have := w0.2.1; have := w0.2.2.1; omega
  have hcapb : (lb.length : Int) ≤ maxLen := by have := w1.2.1; have := w1.2.2.1; omega
  clear w0 w1 w2 w3 w4
  by_cases h60 : la.length ≤ 60
  · by_cases h61 : lb.length ≤ 60
    · have hd : decide ((60 : Int) < (la.length : Int)) = false := decide_eq_false (by omega)
      have hd2 : decide ((60 : Int) < (lb.length : Int)) = false := decide_eq_false (by omega)
      have hl6 : (la.length : Int) ≤ 60 := by omega
      have hl7 : (lb.length : Int) ≤ 60 := by omega
      clear hcapa hcapb
      have hGB : Blk (w.alloc (.cells kn.cells.toArray 34)) w.heap.size 34 kn.cells.toArray := Blk.new w _ _
      have hE0 : Ext w (w.alloc (.cells kn.cells.toArray 34)) := (Ext.refl w).allocs _
      go_enter Try.func4, Try.ntmps4
      go_upto_region 1 with fail
      obtain ⟨wO, hwO⟩ : ∃ wO, w.alloc (.cells kn.cells.toArray 34) = wO := ⟨_, rfl⟩
      obtain ⟨gK, hgK⟩ : ∃ gK, w.heap.size = gK := ⟨_, rfl⟩
      have hwO' := hwO
      unfold Kn.cells at hwO'
      rw [hwO] at hGB hE0
      try rw [hwO']
      try rw [hwO]
      have HGK := Lib.hid hgK
      rw [hgK] at hGB ⊢
      clear hwO hwO' hgK
      have HE0 := Lib.hid hE0
      have HGB := Lib.hid hGB
      clear hGB hE0
      go_wp2_with fail
      refine (awake_any _).mono ?_
      rintro e wA ⟨rfl, hEA⟩
      have HBA := Lib.hid (HGB.out.ext hEA)
      have HEA := Lib.hid (Ext.trans HE0.out hEA)
      clear hEA HGB
      go_wp2_with fail
      refine (new_any a4 cap4 bs 250 wA (W4.out.1.ext HEA.out) W4.out.2.1 W4.out.2.2.1 (by omega) W4.out.2.2.2).mono ?_
      rintro e wB ⟨rfl, hC, hEB⟩
      have hcl := hC.lt
      obtain ⟨c, hc⟩ : ∃ c, wA.heap.size = c := ⟨_, rfl⟩
      have hcc : wA.heap.size ≤ c := by omega
      rw [hc] at hC hcl ⊢
      have HBB := Lib.hid (HBA.out.ext hEB)
      have HEB := Lib.hid (Ext.trans HEA.out hEB)
      have HZB := Lib.hid (Nat.le_trans HEA.out.size hcc)
      have HKC : Hid (gK < c) := Nat.lt_of_lt_of_le HBA.out.lt hcc
      clear hEB hc hcc HBA
      go_wp2_with fail
      refine (known_first c (bs.take 250) 0 wB hC 10 (by omega)).mono ?_
      rintro e wC ⟨v, X, rfl, hownX, hXl, hXok, hD⟩
      have hgC := hD.1
      obtain ⟨-, k1, hC1, -, -⟩ := hD
      have HEC : Hid (Ext w wC) := Below.grown HEB.out hgC HEB.out.size (fun k hk => by injection hk with hk; have := HZB.out; omega)
      have HBC : Hid (Blk wC gK 34 kn.cells.toArray) := (hgC.block gK HBB.out.lt (fun e => by injection e with e; have := HKC.out; omega)).trans HBB.out
      have hcl1 : c < wC.heap.size := Nat.lt_of_lt_of_le hcl hgC.size
      have HOXl := Lib.hid hXok
      clear hC hgC HBB hXok
      obtain ⟨AX, cX, rfl, -, -, -⟩ := own_slice hownX
      go_wp2_with fail
      refine (known_first c (bs.take 250) k1 wC hC1 10 (by omega)).mono ?_
      rintro e wD ⟨v, Y, rfl, hownY, hYl, hYok, hD⟩
      have hgD := hD.1
      obtain ⟨-, k2, hC2, -, -⟩ := hD
      have HED : Hid (Ext w wD) := Below.grown HEC.out hgD HEC.out.size (fun k hk => by injection hk with hk; have := HZB.out; omega)
      have HBD : Hid (Blk wD gK 34 kn.cells.toArray) := (hgD.block gK HBC.out.lt (fun e => by injection e with e; have := HKC.out; omega)).trans HBC.out
      have hcl2 : c < wD.heap.size := Nat.lt_of_lt_of_le hcl1 hgD.size
      have hownX2 := keptc hownX hgD hcl
      have HOYl := Lib.hid hYok
      clear hC1 hgD HBC hYok hownX
      obtain ⟨AY, cY, rfl, -, -, -⟩ := own_slice hownY
      go_wp2_with fail
      refine (known_first c (bs.take 250) k2 wD hC2 1 (by omega)).mono ?_
      rintro e wE ⟨v, Z, rfl, hownZ, hZl, hZok, hD⟩
      have hgE := hD.1
      have HEE : Hid (Ext w wE) := Below.grown HED.out hgE HED.out.size (fun k hk => by injection hk with hk; have := HZB.out; omega)
      have HBE : Hid (Blk wE gK 34 kn.cells.toArray) := (hgE.block gK HBD.out.lt (fun e => by injection e with e; have := HKC.out; omega)).trans HBD.out
      have HX3 := Lib.hid (keptc hownX2 hgE hcl)
      have HY3 := Lib.hid (keptc hownY hgE hcl1)
      have HOZl := Lib.hid hZok
      have HCl : Hid (c < wB.heap.size ∧ c < wC.heap.size ∧ gK = w.heap.size) := ⟨hcl, hcl1, HGK.out.symm⟩
      obtain ⟨AZ, cZ, rfl, hsZ, -, -⟩ := own_slice hownZ
      have HSZ := Lib.hid hsZ
      have hzE : gK < wE.heap.size := HBE.out.lt
      have hX10 : (X.length : Int) ≤ 10 := by omega
      have hY10 : (Y.length : Int) ≤ 10 := by omega
      clear hC2 hgE HBD hZok hownX2 hownY hownZ hD hsZ hcl hcl1 hcl2
      go_upto_if 46 with fail
      go_cut [14] from 43 to 49 (fun _ wx => MmCut w gK AX AY X Y wx)
      case first =>
        obtain ⟨b0, b1, b2, b3, b4, b5, b6, b7, b8, b9⟩ := blk10 HBE.out
        by_cases hZ : 0 < Z.length
        · have hZ1 : Z.length = 1 := by omega
          obtain ⟨tb, toff, htA, p0, p1, p2, p3, p4, p5, p6, p7, p8, p9⟩ := Kn.at_ HSZ.out hZ
          have hzo := HOZl.out _ (List.getElem_mem hZ)
          generalize Z[0] = z at p0 p1 p2 p3 p4 p5 p6 p7 p8 p9 hzo
          subst htA
          simp only [Nat.zero_mul, Nat.add_zero] at p0 p1 p2 p3 p4 p5 p6 p7 p8 p9
          have HBP := Lib.hid (Blk.put10 HBE.out z)
          have HEP := Lib.hid (Ext.put10 HEE.out (g := gK) (by rw [HCl.out.2.2]; exact Nat.le_refl _) z)
          have HXP := Lib.hid (keptc HX3.out HBP.out.2 (Nat.lt_trans HKC.out HCl.out.1))
          have HYP := Lib.hid (keptc HY3.out HBP.out.2 (Nat.lt_trans HKC.out HCl.out.2.1))
          obtain ⟨f0, f1, f2, f3, f4, f5, f6, f7, f8, f9⟩ : _ := (⟨HBE.out.frozen 0, HBE.out.frozen 1, HBE.out.frozen 2, HBE.out.frozen 3, HBE.out.frozen 4, HBE.out.frozen 5, HBE.out.frozen 6, HBE.out.frozen 7, HBE.out.frozen 8, HBE.out.frozen 9⟩ : wE.frozen? ⟨gK, 0, none⟩ = false ∧ wE.frozen? ⟨gK, 1, none⟩ = false ∧ wE.frozen? ⟨gK, 2, none⟩ = false ∧ wE.frozen? ⟨gK, 3, none⟩ = false ∧ wE.frozen? ⟨gK, 4, none⟩ = false ∧ wE.frozen? ⟨gK, 5, none⟩ = false ∧ wE.frozen? ⟨gK, 6, none⟩ = false ∧ wE.frozen? ⟨gK, 7, none⟩ = false ∧ wE.frozen? ⟨gK, 8, none⟩ = false ∧ wE.frozen? ⟨gK, 9, none⟩ = false)
          have hz1 : (0 : Int) < (Z.length : Int) := by omega
          have HZO := Lib.hid hzo
          clear hzo hzE
          unfold putC10 at HBP HEP HXP HYP
          go_wp2_with fail
          go_meet
          exact ⟨z, HBP.out.1, HZO.out, HEP.out, (own_seg HXP.out), (own_seg HYP.out), HBP.out.1.lt⟩
        · have hz1 : ¬ (0 : Int) < (Z.length : Int) := by omega
          go_wp2_with fail
          go_meet
          exact ⟨kn, HBE.out, W2.out, HEE.out, (own_seg HX3.out), (own_seg HY3.out), HBE.out.lt⟩
      case rest =>
      obtain ⟨x, hBx, hxo, hEx, hsX, hsY, hzx⟩ := hcut
      have HSA := Lib.hid (W0.out.1.ext hEx)
      have HSB := Lib.hid (W1.out.1.ext hEx)
      have HSX := Lib.hid hsX
      have HSY := Lib.hid hsY
      have HBx := Lib.hid hBx
      have HEx := Lib.hid hEx
      have HOx := Lib.hid hxo
      have HOA := Lib.hid W0.out.2.2.2
      have HOB := Lib.hid W1.out.2.2.2
      have HOX := Lib.hid HOXl.out
      have HOY := Lib.hid HOYl.out
      clear hBx hxo hEx hsX hsY hzx HBE HX3 HY3 HSZ HOXl HOYl HOZl
      go_wp2_with fail
      refine (mod_any x3 34 _ (by omega) (by omega)).mono ?_
      rintro e wz ⟨rfl, rfl⟩
      obtain ⟨hk0, hk1⟩ := modv_bd x3 34 (by omega)
      obtain ⟨k0, hk0e⟩ : ∃ k0, modv x3 34 = k0 := ⟨_, rfl⟩
      rw [hk0e] at hk0 hk1 ⊢
      clear hk0e
      go_wp2_with fail
      obtain ⟨pp, hpp⟩ : ∃ pp, k0 - 1 = pp := ⟨_, rfl⟩
      try rw [hpp]
      rename World => wz
      have HC : Hid (∀ W', Ext wz W' → W'.cell? ⟨gK, 0, none⟩ = some (.int .i64 x.d.proc) ∧ W'.cell? ⟨gK, 1, none⟩ = some (.int .i64 x.d.index) ∧ W'.cell? ⟨gK, 2, none⟩ = some (.int .i64 x.d.ev.kind) ∧ W'.cell? ⟨gK, 3, none⟩ = some (.int .i64 x.d.ev.inc) ∧ W'.cell? ⟨gK, 4, none⟩ = some (.int .i64 x.d.ev.frm) ∧ W'.cell? ⟨gK, 5, none⟩ = some (.int .i64 x.d.ev.sinc) ∧ W'.cell? ⟨gK, 6, none⟩ = some (.int .i64 x.d.ev.sidx) ∧ W'.cell? ⟨gK, 7, none⟩ = some (.int .i64 x.d.ev.ord) ∧ W'.cell? ⟨gK, 8, none⟩ = some (.int .i64 x.d.ev.val) ∧ W'.cell? ⟨gK, 9, none⟩ = some (.int .u32 x.h)) := fun W' hW => blk10 (HBx.out.ext hW)
      refine wp_region_sched (by kernel_rfl) 35 [(0, true), (1, true), (3, true), (4, true), (2, false), (5, false), (6, false), (7, true), (8, true), (9, true), (11, true), (12, true), (10, false), (13, false), (14, false), (15, true), (16, true), (17, true), (18, true), (19, true), (21, true), (22, true), (23, true), (20, false), (24, false), (25, false), (26, true), (27, true), (28, true), (29, true), (30, true), (32, true), (33, true), (34, true), (31, false), (35, false), (36, false), (37, false), (38, false)] (fun W' => W'.cell? ⟨gK, 0, none⟩ = some (.int .i64 x.d.proc) ∧ W'.cell? ⟨gK, 1, none⟩ = some (.int .i64 x.d.index) ∧ W'.cell? ⟨gK, 2, none⟩ = some (.int .i64 x.d.ev.kind) ∧ W'.cell? ⟨gK, 3, none⟩ = some (.int .i64 x.d.ev.inc) ∧ W'.cell? ⟨gK, 4, none⟩ = some (.int .i64 x.d.ev.frm) ∧ W'.cell? ⟨gK, 5, none⟩ = some (.int .i64 x.d.ev.sinc) ∧ W'.cell? ⟨gK, 6, none⟩ = some (.int .i64 x.d.ev.sidx) ∧ W'.cell? ⟨gK, 7, none⟩ = some (.int .i64 x.d.ev.ord) ∧ W'.cell? ⟨gK, 8, none⟩ = some (.int .i64 x.d.ev.val) ∧ W'.cell? ⟨gK, 9, none⟩ = some (.int .u32 x.h)) (by kernel_rfl) (fun _ _ dd _ _ h => by cases dd <;> exact h) (HC.out _ (Below.drew (Ext.refl wz))) (fun hHeld => ?_)
      have hX0 : Ext wz wz.drew := Below.drew (Ext.refl wz)
      iterate 4 ((refine sched_read (v := ?_) rfl (Or.inl ⟨by rfl, ?_⟩) hHeld ?_; rotate_left 1; · (intro w' hSw; obtain ⟨t0, t1, t2, t3, t4, t5, t6, t7, t8, t9⟩ := hSw; go_simp; (first | done | with_reducible rfl))); (try simp only [Act.put, List.setIfInBounds_toArray, List.set_cons_zero, List.set_cons_succ]))
      refine sched_eff rfl (fun K hK => ?_)
      go_simp
      refine (add_any a0 cap0 la x _ (HSA.out.ext hX0) (by omega) (hok1 HOA.out HOx.out)).mono ?_
      rintro e wa ⟨v, rfl, hown, hEa⟩
      obtain ⟨Aa, ca, rfl, hsa, -, -⟩ := own_slice hown
      have hX0a := Ext.trans hX0 hEa
      clear hown hEa
      refine hK.out _ _ (HC.out _ hX0a) (fun hHeld => ?_)
      clear hK K
      try simp only [Act.put, List.setIfInBounds_toArray, List.set_cons_zero, List.set_cons_succ]
      refine sched_eff rfl (fun K hK => ?_)
      go_simp
      refine (radd_any a0 cap0 la x _ (HSA.out.ext hX0a) (by omega) (hok1 HOA.out HOx.out)).mono ?_
      rintro e wb ⟨v, rfl, hown, hEb⟩
      obtain ⟨Ab, cb, rfl, hsb, -, -⟩ := own_slice hown
      have hX0b := Ext.trans hX0a hEb
      have hsa2 := hsa.ext hEb
      clear hown hsa hEb hX0 hX0a
      refine hK.out _ _ (HC.out _ hX0b) (fun hHeld => ?_)
      clear hK K
      try simp only [Act.put, List.setIfInBounds_toArray, List.set_cons_zero, List.set_cons_succ]
      refine sched_eff rfl (fun K hK => ?_)
      go_simp
      refine (sameKn Aa Ab ca cb (memV (la ++ [x])) wb hsa2 hsb (by have := memV_len (la ++ [x]); simp only [List.length_append, List.length_singleton] at this; omega)).mono ?_
      rintro e wc ⟨rfl, nq, rfl⟩
      have hX1 : Ext wz (wb.drewN nq) := hX0b.drewN nq
      clear hsa2 hsb hX0b
      refine hK.out _ _ (HC.out _ hX1) (fun hHeld => ?_)
      clear hK K
      try simp only [Act.put, List.setIfInBounds_toArray, List.set_cons_zero, List.set_cons_succ]
      iterate 5 ((refine sched_read (v := ?_) rfl (Or.inl ⟨by rfl, ?_⟩) hHeld ?_; rotate_left 1; · (intro w' hSw; obtain ⟨t0, t1, t2, t3, t4, t5, t6, t7, t8, t9⟩ := hSw; go_simp; (first | done | with_reducible rfl))); (try simp only [Act.put, List.setIfInBounds_toArray, List.set_cons_zero, List.set_cons_succ]))
      refine sched_eff rfl (fun K hK => ?_)
      go_simp
      refine (add_any AX cX X x _ (HSX.out.ext hX1) (by omega) (hok1 HOX.out HOx.out)).mono ?_
      rintro e wa ⟨v, rfl, hown, hEa⟩
      obtain ⟨Aa, ca, rfl, hsa, -, -⟩ := own_slice hown
      have hX1a := Ext.trans hX1 hEa
      clear hown hEa
      refine hK.out _ _ (HC.out _ hX1a) (fun hHeld => ?_)
      clear hK K
      try simp only [Act.put, List.setIfInBounds_toArray, List.set_cons_zero, List.set_cons_succ]
      refine sched_eff rfl (fun K hK => ?_)
      go_simp
      refine (radd_any AX cX X x _ (HSX.out.ext hX1a) (by omega) (hok1 HOX.out HOx.out)).mono ?_
      rintro e wb ⟨v, rfl, hown, hEb⟩
      obtain ⟨Ab, cb, rfl, hsb, -, -⟩ := own_slice hown
      have hX1b := Ext.trans hX1a hEb
      have hsa2 := hsa.ext hEb
      clear hown hsa hEb hX1 hX1a
      refine hK.out _ _ (HC.out _ hX1b) (fun hHeld => ?_)
      clear hK K
      try simp only [Act.put, List.setIfInBounds_toArray, List.set_cons_zero, List.set_cons_succ]
      refine sched_eff rfl (fun K hK => ?_)
      go_simp
      refine (sameKn Aa Ab ca cb (memV (X ++ [x])) wb hsa2 hsb (by have := memV_len (X ++ [x]); simp only [List.length_append, List.length_singleton] at this; omega)).mono ?_
      rintro e wc ⟨rfl, nq, rfl⟩
      have hX2 : Ext wz (wb.drewN nq) := hX1b.drewN nq
      clear hsa2 hsb hX1b
      refine hK.out _ _ (HC.out _ hX2) (fun hHeld => ?_)
      clear hK K
      try simp only [Act.put, List.setIfInBounds_toArray, List.set_cons_zero, List.set_cons_succ]
      iterate 8 ((refine sched_read (v := ?_) rfl (Or.inl ⟨by rfl, ?_⟩) hHeld ?_; rotate_left 1; · (intro w' hSw; obtain ⟨t0, t1, t2, t3, t4, t5, t6, t7, t8, t9⟩ := hSw; go_simp; (first | done | with_reducible rfl))); (try simp only [Act.put, List.setIfInBounds_toArray, List.set_cons_zero, List.set_cons_succ]))
      refine sched_eff rfl (fun K hK => ?_)
      go_simp
      refine (merge_code a0 a1 cap0 cap1 la lb x3 _ (HSA.out.ext hX2) (HSB.out.ext hX2) (by omega) (by omega) (hok2 HOA.out HOB.out)).mono ?_
      rintro e wa ⟨v, rfl, hown, hEa⟩
      obtain ⟨Aa, ca, rfl, hsa, -, -⟩ := own_slice hown
      have hX2a := Ext.trans hX2 hEa
      clear hown hEa
      refine hK.out _ _ (HC.out _ hX2a) (fun hHeld => ?_)
      clear hK K
      try simp only [Act.put, List.setIfInBounds_toArray, List.set_cons_zero, List.set_cons_succ]
      refine sched_eff rfl (fun K hK => ?_)
      go_simp
      refine (rmergeK_any a0 a1 cap0 cap1 la lb x3 _ (HSA.out.ext hX2a) (HSB.out.ext hX2a) (by omega) (by omega) (hok2 HOA.out HOB.out)).mono ?_
      rintro e wb ⟨v, rfl, hown, hEb⟩
      obtain ⟨Ab, cb, rfl, hsb, -, -⟩ := own_slice hown
      have hX2b := Ext.trans hX2a hEb
      have hsa2 := hsa.ext hEb
      clear hown hsa hEb hX2 hX2a
      refine hK.out _ _ (HC.out _ hX2b) (fun hHeld => ?_)
      clear hK K
      try simp only [Act.put, List.setIfInBounds_toArray, List.set_cons_zero, List.set_cons_succ]
      refine sched_eff rfl (fun K hK => ?_)
      go_simp
      refine (sameKn Aa Ab ca cb (mergeV (bitV x3) la lb) wb hsa2 hsb (by have := memV_len (la ++ lb); unfold mergeV; simp only [List.length_append, List.length_map] at this ⊢; omega)).mono ?_
      rintro e wc ⟨rfl, nq, rfl⟩
      have hX3 : Ext wz (wb.drewN nq) := hX2b.drewN nq
      clear hsa2 hsb hX2b
      refine hK.out _ _ (HC.out _ hX3) (fun hHeld => ?_)
      clear hK K
      try simp only [Act.put, List.setIfInBounds_toArray, List.set_cons_zero, List.set_cons_succ]
      iterate 8 ((refine sched_read (v := ?_) rfl (Or.inl ⟨by rfl, ?_⟩) hHeld ?_; rotate_left 1; · (intro w' hSw; obtain ⟨t0, t1, t2, t3, t4, t5, t6, t7, t8, t9⟩ := hSw; go_simp; (first | done | with_reducible rfl))); (try simp only [Act.put, List.setIfInBounds_toArray, List.set_cons_zero, List.set_cons_succ]))
      refine sched_eff rfl (fun K hK => ?_)
      go_simp
      refine (merge_code AX AY cX cY X Y pp _ (HSX.out.ext hX3) (HSY.out.ext hX3) (by omega) (by omega) (hok2 HOX.out HOY.out)).mono ?_
      rintro e wa ⟨v, rfl, hown, hEa⟩
      obtain ⟨Aa, ca, rfl, hsa, -, -⟩ := own_slice hown
      have hX3a := Ext.trans hX3 hEa
      clear hown hEa
      refine hK.out _ _ (HC.out _ hX3a) (fun hHeld => ?_)
      clear hK K
      try simp only [Act.put, List.setIfInBounds_toArray, List.set_cons_zero, List.set_cons_succ]
      refine sched_tail rfl (by decide) (fun K hK => ?_)
      go_simp
      refine (rmergeK_any AX AY cX cY X Y pp _ (HSX.out.ext hX3a) (HSY.out.ext hX3a) (by omega) (by omega) (hok2 HOX.out HOY.out)).mono ?_
      rintro e wb ⟨v, rfl, hown, hEb⟩
      obtain ⟨Ab, cb, rfl, hsb, -, -⟩ := own_slice hown
      have hX3b := Ext.trans hX3a hEb
      have hsa2 := hsa.ext hEb
      clear hown hsa hEb hX3 hX3a
      refine hK.out _ _ ?_
      clear hK K
      try simp only [Act.put, List.setIfInBounds_toArray, List.set_cons_zero, List.set_cons_succ]
      refine sched_tail rfl (by decide) (fun K hK => ?_)
      go_simp
      refine (sameKn Aa Ab ca cb (mergeV (bitV pp) X Y) wb hsa2 hsb (by have := memV_len (X ++ Y); unfold mergeV; simp only [List.length_append, List.length_map] at this ⊢; omega)).mono ?_
      rintro e wc ⟨rfl, nq, rfl⟩
      have hX4 : Ext wz (wb.drewN nq) := hX3b.drewN nq
      clear hsa2 hsb hX3b
      refine hK.out _ _ ?_
      clear hK K
      try simp only [Act.put, List.setIfInBounds_toArray, List.set_cons_zero, List.set_cons_succ]
      refine sched_tail rfl (by decide) (fun K hK => ?_)
      go_simp
      refine hK.out _ _ ?_
      clear hK K
      try simp only [Act.put, List.setIfInBounds_toArray, List.set_cons_zero, List.set_cons_succ]
      refine sched_tail rfl (by decide) (fun K hK => ?_)
      go_simp
      refine hK.out _ _ ?_
      clear hK K
      try simp only [Act.put, List.setIfInBounds_toArray, List.set_cons_zero, List.set_cons_succ]
      refine sched_done ?_
      go_wp2_with fail
      go_ret
      exact ⟨rfl, Ext.trans HEx.out hX4⟩
    · have hd : decide ((60 : Int) < (la.length : Int)) = false := decide_eq_false (by omega)
      have hd2 : decide ((60 : Int) < (lb.length : Int)) = true := decide_eq_true (by omega)
      go_enter Try.func4, Try.ntmps4
      go_wp2_with fail
      refine (awake_any _).mono ?_
      rintro e wA ⟨rfl, hEA⟩
      have HEA := Lib.hid (Ext.trans ((Ext.refl w).allocs _) hEA)
      clear hEA
      go_wp2_with fail
      go_ret
      exact ⟨rfl, HEA.out⟩
  · have hd : decide ((60 : Int) < (la.length : Int)) = true := decide_eq_true (by omega)
    go_enter Try.func4, Try.ntmps4
    go_wp2_with fail
    refine (awake_any _).mono ?_
    rintro e wA ⟨rfl, hEA⟩
    have HEA := Lib.hid (Ext.trans ((Ext.refl w).allocs _) hEA)
    clear hEA
    go_wp2_with fail
    go_ret
    exact ⟨rfl, HEA.out⟩
end Go.Proofs.Ytfnnoncdocghjaa
