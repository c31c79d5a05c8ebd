/- Spread, UnionsK, joined. No statement of the seat is proved here. -/
import Derived.Test.YtfnnoncdocghjaaK4
import Derived.Test.YtfnnoncdocghjaaK7
import Derived.Test.YtfnnoncdocghjaaK5
import Derived.Test.YtfnnoncdocghjaaK6
namespace Go.Proofs.Ytfnnoncdocghjaa
open Go.RowKit
set_option linter.unusedVariables false
set_option maxRecDepth 100000

set_option maxHeartbeats 1600000 in
theorem sameEvs (A B : Option Addr) (ca cb : Nat) (l : List Ev) (w : World) (ha : EvSeg w A l) (hb : EvSeg w B l) (hn : l.length ≤ 1000) :
    Calls Try.prog 54 #[.slice A l.length ca, .slice B l.length cb] w (StillPost w (.bool true)) := by
  go_enter Try.func54, Try.ntmps54
  go_wp2_with fail
  go_loopg [5] l.length (fun g i wr => StillRel w l.length g i wr)
  case atStart => exact ⟨0, 0, Nat.zero_le _, rfl, rfl, rfl⟩
  case round =>
    obtain ⟨j, q, hj, rfl, rfl, rfl⟩ := hrel
    by_cases hlt : j < l.length
    · obtain ⟨b, off, rfl, p0, p1, p2, p3, p4, p5, p6⟩ := Ev.at_ ha hlt
      obtain ⟨b', off', rfl, r0, r1, r2, r3, r4, r5, r6⟩ := Ev.at_ hb hlt
      generalize l[j].kind = x0 at *
      generalize l[j].inc = x1 at *
      generalize l[j].frm = x2 at *
      generalize l[j].sinc = x3 at *
      generalize l[j].sidx = x4 at *
      generalize l[j].ord = x5 at *
      generalize l[j].val = x6 at *
      clear ha hb
      go_wp2_with fail
      go_quiet (fail)
      go_wp2_with fail
      go_roundg (l.length - (j + 1))
      case measure => omega
      case rel => exact ⟨j + 1, _, by omega, by go_num, rfl, rfl⟩
    · go_wp2_with fail
      go_ret
      exact ⟨rfl, _, rfl⟩
def SsRel (w2 : World) (ne : Nat) (g : Nat) (i : Value) (wr : World) : Prop := ∃ j : Nat, j ≤ ne ∧ i = .int .i64 j ∧ g = ne - j ∧ Ext w2 wr
theorem two_rows {α : Type} {R R2 : List (Gr α)} {L : List (List α)} (h1 : R.map Gr.l = L) (h2 : R2.map Gr.l = L) {m : Nat} (hb : ∀ l ∈ L, l.length ≤ m) : ∀ j (h : j < R.length) (h' : j < R2.length), R[j].l = R2[j].l ∧ R[j].l.length ≤ m := fun j h h' => by
  have e1 : L[j]? = some R[j].l := by rw [← h1, List.getElem?_map, List.getElem?_eq_getElem h]; rfl
  have e2 : L[j]? = some R2[j].l := by rw [← h2, List.getElem?_map, List.getElem?_eq_getElem h']; rfl
  rw [e1] at e2
  injection e2 with e2
  exact ⟨e2, hb _ (List.mem_of_getElem? e1)⟩
set_option maxHeartbeats 3200000 in
theorem sameSp (v1 v2 : Value) (evs : List (List Ev)) (kns : List (List Kn)) (w : World) (h1 : SpM w v1 evs kns) (h2 : SpM w v2 evs kns) (hb1 : ∀ l ∈ evs, l.length ≤ 1000) (hb2 : ∀ l ∈ kns, l.length ≤ 1000) (hne : evs.length ≤ 1000) (hnk : kns.length ≤ 1000) :
    Calls Try.prog 26 #[v1, v2] w (ExtPost w (.bool true)) := by
  obtain ⟨A1, A2, cA0, cA1, R, K, rfl, a1, a2, a3, a4⟩ := h1
  obtain ⟨B1, B2, cB0, cB1, R2, K2, rfl, b1, b2, b3, b4⟩ := h2
  obtain ⟨ne, hneq⟩ : ∃ ne, evs.length = ne := ⟨_, rfl⟩
  obtain ⟨nk, hnkq⟩ : ∃ nk, kns.length = nk := ⟨_, rfl⟩
  have r1 : R.length = ne := by rw [← hneq, ← a3, List.length_map]
  have r2 : R2.length = ne := by rw [← hneq, ← b3, List.length_map]
  have r3 : K.length = nk := by rw [← hnkq, ← a4, List.length_map]
  have r4 : K2.length = nk := by rw [← hnkq, ← b4, List.length_map]
  rw [hneq] at hne
  rw [hnkq] at hnk
  have HML0 := Lib.hid (two_rows a3 b3 hb1)
  have HML1 := Lib.hid (two_rows a4 b4 hb2)
  have HLX0 : Hid (R.length = ne ∧ R2.length = ne) := ⟨r1, r2⟩
  have HLX1 : Hid (K.length = nk ∧ K2.length = nk) := ⟨r3, r4⟩
  rw [r1, r2, r3, r4]
  have hX : Ext w ((w.alloc (.cells #[.slice A1 ne cA0, .slice A2 nk cA1] 50)).alloc (.cells #[.slice B1 ne cB0, .slice B2 nk cB1] 50)) := ((Ext.refl w).allocs _).allocs _
  have hBA : Blk ((w.alloc (.cells #[.slice A1 ne cA0, .slice A2 nk cA1] 50)).alloc (.cells #[.slice B1 ne cB0, .slice B2 nk cB1] 50)) w.heap.size 50 #[.slice A1 ne cA0, .slice A2 nk cA1] := Blk.ext (Blk.new w _ _) ((Ext.refl _).allocs _)
  have hBB : Blk ((w.alloc (.cells #[.slice A1 ne cA0, .slice A2 nk cA1] 50)).alloc (.cells #[.slice B1 ne cB0, .slice B2 nk cB1] 50)) (w.heap.size + 1) 50 #[.slice B1 ne cB0, .slice B2 nk cB1] := by
    have := Blk.new (w.alloc (.cells #[.slice A1 ne cA0, .slice A2 nk cA1] 50)) 50 #[.slice B1 ne cB0, .slice B2 nk cB1]
    simpa using this
  have H1 := Lib.hid (a1.ext hX)
  have H2 := Lib.hid (a2.ext hX)
  have G1 := Lib.hid (b1.ext hX)
  have G2 := Lib.hid (b2.ext hX)
  have HX := Lib.hid hX
  clear a1 a2 a3 a4 b1 b2 b3 b4 r1 r2 r3 r4 hneq hnkq hX hb1 hb2
  go_enter Try.func26, Try.ntmps26
  go_upto_region 1 with fail
  obtain ⟨w2, hw2⟩ : ∃ w2, (w.alloc (.cells #[.slice A1 ne cA0, .slice A2 nk cA1] 50)).alloc (.cells #[.slice B1 ne cB0, .slice B2 nk cB1] 50) = w2 := ⟨_, rfl⟩
  obtain ⟨gA, hgA⟩ : ∃ gA, w.heap.size = gA := ⟨_, rfl⟩
  obtain ⟨gB, hgB⟩ : ∃ gB, gA + 1 = gB := ⟨_, rfl⟩
  rw [hw2] at hBA hBB H1 H2 G1 G2 HX ⊢
  rw [hgA] at hBA hBB ⊢
  rw [hgB] at hBB ⊢
  clear hw2 hgA hgB
  obtain ⟨z0, z1⟩ := (blk2 hBA).1
  obtain ⟨z2, z3⟩ := (blk2 hBB).1
  have HBA := Lib.hid hBA
  have HBB := Lib.hid hBB
  have e1 : ((ne : Int) != (ne : Int)) = false := by simp
  have e2 : ((nk : Int) != (nk : Int)) = false := by simp
  clear hBA hBB
  go_wp2_with fail
  go_loopg [5] ne (fun gg iv wr => SsRel w2 ne gg iv wr)
  case atStart => exact ⟨0, Nat.zero_le _, rfl, rfl, Ext.refl w2⟩
  case round =>
    obtain ⟨j, hj, rfl, rfl, hE⟩ := hrel
    rename World => wr
    by_cases hlt : j < ne
    · have hjX : j < R.length := by rw [HLX0.out.1]; exact hlt
      have hjY : j < R2.length := by rw [HLX0.out.2]; exact hlt
      obtain ⟨b1, o1, hA1, q1⟩ := (H1.out.ext hE).at_ hjX
      obtain ⟨b2, o2, hA2, q2⟩ := (G1.out.ext hE).at_ hjY
      have HA1 := Lib.hid hA1
      have HA2 := Lib.hid hA2
      have HR1 := Lib.hid ((H1.out.ext hE).row hjX).1
      have HR2 := Lib.hid ((G1.out.ext hE).row hjY).1
      have hls := HML0.out j hjX hjY
      have hl1 := hls.1
      have hl2 := hls.2
      generalize R[j] = x1 at q1 HR1 hl1 hl2
      generalize R2[j] = x2 at q2 HR2 hl1
      obtain ⟨xa, xc, xl⟩ := x1
      obtain ⟨ya, yc, yl⟩ := x2
      dsimp only at q1 q2 HR1 HR2 hl1 hl2
      subst hl1
      have HC : Hid (∀ W', Ext wr W' → W'.cell? ⟨gA, 0, none⟩ = some (.slice (some ⟨b1, o1, none⟩) ne cA0) ∧ W'.cell? ⟨b1, o1 + j, none⟩ = some (.slice xa xl.length xc) ∧ W'.cell? ⟨gB, 0, none⟩ = some (.slice (some ⟨b2, o2, none⟩) ne cB0) ∧ W'.cell? ⟨b2, o2 + j, none⟩ = some (.slice ya xl.length yc)) := fun W' hW => by
        have hz := (blk2 (Blk.ext HBA.out (Ext.trans hE hW))).1
        have hz2 := (blk2 (Blk.ext HBB.out (Ext.trans hE hW))).1
        rw [HA1.out] at hz
        rw [HA2.out] at hz2
        exact ⟨hz.1, (hW.cell (p := ⟨b1, o1 + j, none⟩) (World.block_lt_of_cell? wr _ q1)).trans q1, hz2.1, (hW.cell (p := ⟨b2, o2 + j, none⟩) (World.block_lt_of_cell? wr _ q2)).trans q2⟩
      have HE := Lib.hid hE
      have hj0 : (0 : Int) ≤ (j : Int) := by omega
      have hj1 : (j : Int) < (ne : Int) := by omega
      obtain ⟨z0, z1, z2, z3⟩ := HC.out _ (Ext.refl wr)
      clear q1 q2 hE hA1 hA2 hls
      go_upto_region 6 with fail
      clear z0 z1 z2 z3
      refine wp_region_sched (by kernel_rfl) 10 [(0, true), (1, true), (2, true), (3, true), (4, true), (5, true), (6, true), (7, true), (8, true), (9, true), (10, false), (11, false)] (fun W' => W'.cell? ⟨gA, 0, none⟩ = some (.slice (some ⟨b1, o1, none⟩) ne cA0) ∧ W'.cell? ⟨b1, o1 + j, none⟩ = some (.slice xa xl.length xc) ∧ W'.cell? ⟨gB, 0, none⟩ = some (.slice (some ⟨b2, o2, none⟩) ne cB0) ∧ W'.cell? ⟨b2, o2 + j, none⟩ = some (.slice ya xl.length yc)) (by kernel_rfl) (fun _ _ dd _ _ h => by cases dd <;> exact h) (HC.out _ (Below.drew (Ext.refl wr))) (fun hHeld => ?_)
      iterate 10 ((refine sched_read (v := ?_) rfl (Or.inl ⟨by rfl, ?_⟩) hHeld ?_; rotate_left 1; · (intro w' hSw; obtain ⟨t0, t1, t2, t3⟩ := hSw; go_simp; (first | done | with_reducible rfl))); (try simp only [Act.put, List.setIfInBounds_toArray, List.set_cons_zero, List.set_cons_succ]))
      have hEd : Ext wr wr.drew := Below.drew (Ext.refl wr)
      refine sched_tail rfl (by decide) (fun K hK => ?_)
      go_simp
      refine (sameEvs xa ya xc yc xl _ (HR1.out.ext hEd) (HR2.out.ext hEd) (by omega)).mono ?_
      rintro e7 w7 ⟨rfl, nq, rfl⟩
      have HX7 : Hid (Ext wr (wr.drewN (1 + nq))) := (Ext.refl wr).drewN _
      refine hK.out _ _ ?_
      clear hK K
      (try simp only [Act.put, List.setIfInBounds_toArray, List.set_cons_zero, List.set_cons_succ])
      refine sched_tail rfl (by decide) (fun K hK => ?_)
      go_simp
      refine hK.out _ _ ?_
      clear hK K
      (try simp only [Act.put, List.setIfInBounds_toArray, List.set_cons_zero, List.set_cons_succ])
      refine sched_done ?_
      clear hHeld hEd
      go_wp2_with fail
      go_roundg (ne - (j + 1))
      case measure => omega
      case rel => exact ⟨j + 1, by omega, by go_num, rfl, Ext.trans HE.out HX7.out⟩
    · obtain rfl : j = ne := by omega
      have HE5 := Lib.hid hE
      obtain ⟨z4, z5⟩ := (blk2 (Blk.ext HBA.out hE)).1
      clear hE
      go_wp2_with fail
      go_loopg [6] nk (fun gg iv wr => SsRel w2 nk gg iv wr)
      case atStart => exact ⟨0, Nat.zero_le _, rfl, rfl, HE5.out⟩
      case round =>
        obtain ⟨j, hj, rfl, rfl, hE⟩ := hrel
        rename World => wr
        by_cases hlt : j < nk
        · have hjX : j < K.length := by rw [HLX1.out.1]; exact hlt
          have hjY : j < K2.length := by rw [HLX1.out.2]; exact hlt
          obtain ⟨b1, o1, hA1, q1⟩ := (H2.out.ext hE).at_ hjX
          obtain ⟨b2, o2, hA2, q2⟩ := (G2.out.ext hE).at_ hjY
          have HA1 := Lib.hid hA1
          have HA2 := Lib.hid hA2
          have HR1 := Lib.hid ((H2.out.ext hE).row hjX).1
          have HR2 := Lib.hid ((G2.out.ext hE).row hjY).1
          have hls := HML1.out j hjX hjY
          have hl1 := hls.1
          have hl2 := hls.2
          generalize K[j] = x1 at q1 HR1 hl1 hl2
          generalize K2[j] = x2 at q2 HR2 hl1
          obtain ⟨xa, xc, xl⟩ := x1
          obtain ⟨ya, yc, yl⟩ := x2
          dsimp only at q1 q2 HR1 HR2 hl1 hl2
          subst hl1
          have HC : Hid (∀ W', Ext wr W' → W'.cell? ⟨gA, 1, none⟩ = some (.slice (some ⟨b1, o1, none⟩) nk cA1) ∧ W'.cell? ⟨b1, o1 + j, none⟩ = some (.slice xa xl.length xc) ∧ W'.cell? ⟨gB, 1, none⟩ = some (.slice (some ⟨b2, o2, none⟩) nk cB1) ∧ W'.cell? ⟨b2, o2 + j, none⟩ = some (.slice ya xl.length yc)) := fun W' hW => by
            have hz := (blk2 (Blk.ext HBA.out (Ext.trans hE hW))).1
            have hz2 := (blk2 (Blk.ext HBB.out (Ext.trans hE hW))).1
            rw [HA1.out] at hz
            rw [HA2.out] at hz2
            exact ⟨hz.2, (hW.cell (p := ⟨b1, o1 + j, none⟩) (World.block_lt_of_cell? wr _ q1)).trans q1, hz2.2, (hW.cell (p := ⟨b2, o2 + j, none⟩) (World.block_lt_of_cell? wr _ q2)).trans q2⟩
          have HE := Lib.hid hE
          have hj0 : (0 : Int) ≤ (j : Int) := by omega
          have hj1 : (j : Int) < (nk : Int) := by omega
          obtain ⟨z0, z1, z2, z3⟩ := HC.out _ (Ext.refl wr)
          clear q1 q2 hE hA1 hA2 hls
          go_upto_region 11 with fail
          clear z0 z1 z2 z3
          refine wp_region_sched (by kernel_rfl) 10 [(0, true), (1, true), (2, true), (3, true), (4, true), (5, true), (6, true), (7, true), (8, true), (9, true), (10, false), (11, false)] (fun W' => W'.cell? ⟨gA, 1, none⟩ = some (.slice (some ⟨b1, o1, none⟩) nk cA1) ∧ W'.cell? ⟨b1, o1 + j, none⟩ = some (.slice xa xl.length xc) ∧ W'.cell? ⟨gB, 1, none⟩ = some (.slice (some ⟨b2, o2, none⟩) nk cB1) ∧ W'.cell? ⟨b2, o2 + j, none⟩ = some (.slice ya xl.length yc)) (by kernel_rfl) (fun _ _ dd _ _ h => by cases dd <;> exact h) (HC.out _ (Below.drew (Ext.refl wr))) (fun hHeld => ?_)
          iterate 10 ((refine sched_read (v := ?_) rfl (Or.inl ⟨by rfl, ?_⟩) hHeld ?_; rotate_left 1; · (intro w' hSw; obtain ⟨t0, t1, t2, t3⟩ := hSw; go_simp; (first | done | with_reducible rfl))); (try simp only [Act.put, List.setIfInBounds_toArray, List.set_cons_zero, List.set_cons_succ]))
          have hEd : Ext wr wr.drew := Below.drew (Ext.refl wr)
          refine sched_tail rfl (by decide) (fun K hK => ?_)
          go_simp
          refine (sameKn xa ya xc yc xl _ (HR1.out.ext hEd) (HR2.out.ext hEd) (by omega)).mono ?_
          rintro e7 w7 ⟨rfl, nq, rfl⟩
          have HX7 : Hid (Ext wr (wr.drewN (1 + nq))) := (Ext.refl wr).drewN _
          refine hK.out _ _ ?_
          clear hK K
          (try simp only [Act.put, List.setIfInBounds_toArray, List.set_cons_zero, List.set_cons_succ])
          refine sched_tail rfl (by decide) (fun K hK => ?_)
          go_simp
          refine hK.out _ _ ?_
          clear hK K
          (try simp only [Act.put, List.setIfInBounds_toArray, List.set_cons_zero, List.set_cons_succ])
          refine sched_done ?_
          clear hHeld hEd
          go_wp2_with fail
          go_roundg (nk - (j + 1))
          case measure => omega
          case rel => exact ⟨j + 1, by omega, by go_num, rfl, Ext.trans HE.out HX7.out⟩
        · obtain rfl : j = nk := by omega
          obtain ⟨z6, z7⟩ := (blk2 (Blk.ext HBA.out hE)).1
          have HE := Lib.hid hE
          clear hE
          go_wp2_with fail
          go_ret
          exact ⟨rfl, Ext.trans HX.out HE.out⟩
end Go.Proofs.Ytfnnoncdocghjaa
namespace Go.Proofs.Ytfnnoncdocghjaa
open Go.RowKit
set_option linter.unusedVariables false
set_option maxRecDepth 100000

theorem memV_map_orB {b : Int} (hb : okH b) {l : List Kn} (hok : ∀ k ∈ l, okH k.h) : (memV l).map (orB b) = memV (l.map (orB b)) := by
  have h := memV_of l hok
  refine MemOf.eqV ⟨?_, fun d => ?_, fun k hk => ?_, fun k hk i => ?_⟩ ?_
  · rw [List.map_map, show Kn.d ∘ orB b = Kn.d from rfl]; exact h.asc
  · constructor
    · rintro ⟨x, hx, e⟩
      obtain ⟨y, hy, rfl⟩ := List.mem_map.1 hx
      obtain ⟨z, hz, ez⟩ := (h.dets d).1 ⟨y, hy, e⟩
      exact ⟨orB b z, List.mem_map.2 ⟨z, hz, rfl⟩, ez⟩
    · rintro ⟨x, hx, e⟩
      obtain ⟨y, hy, rfl⟩ := List.mem_map.1 hx
      obtain ⟨z, hz, ez⟩ := (h.dets d).2 ⟨y, hy, e⟩
      exact ⟨orB b z, List.mem_map.2 ⟨z, hz, rfl⟩, ez⟩
  · obtain ⟨y, hy, rfl⟩ := List.mem_map.1 hk
    exact orB_ok hb (h.ok y hy)
  · obtain ⟨y, hy, rfl⟩ := List.mem_map.1 hk
    rw [orB_bit hb (h.ok y hy)]
    constructor
    · intro hh
      rcases Bool.or_eq_true _ _ ▸ hh with hh | hh
      · obtain ⟨z, hz, ez, hbz⟩ := (h.bits y hy i).1 hh
        exact ⟨orB b z, List.mem_map.2 ⟨z, hz, rfl⟩, ez, by rw [orB_bit hb (hok z hz), hbz]; rfl⟩
      · obtain ⟨z, hz, ez⟩ := (h.dets y.d).1 ⟨y, hy, rfl⟩
        exact ⟨orB b z, List.mem_map.2 ⟨z, hz, rfl⟩, ez, by rw [orB_bit hb (hok z hz), hh]; simp⟩
    · rintro ⟨x, hx, e, hbx⟩
      obtain ⟨z, hz, rfl⟩ := List.mem_map.1 hx
      rw [orB_bit hb (hok z hz)] at hbx
      rcases Bool.or_eq_true _ _ ▸ hbx with hh | hh
      · rw [(h.bits y hy i).2 ⟨z, hz, e, hh⟩]; rfl
      · rw [hh]; simp
  · intro k hk
    obtain ⟨y, hy, rfl⟩ := List.mem_map.1 hk
    exact orB_ok hb (hok y hy)
theorem memV_congr {l m : List Kn} (hok : ∀ k ∈ l, okH k.h) (h : ∀ x, x ∈ l ↔ x ∈ m) : memV l = memV m :=
  ((memV_of l hok).congr h).eqV fun k hk => hok k ((h k).2 hk)
theorem orB_idem {b : Int} (hb : okH b) {l : List Kn} (hok : ∀ k ∈ l, okH k.h) : (l.map (orB b)).map (orB b) = l.map (orB b) := by
  rw [List.map_map]
  refine List.map_congr_left fun k hk => kn_ext rfl ?_
  show bits .or .u32 (bits .or .u32 k.h b) b = bits .or .u32 k.h b
  have h1 := bits_u32 (hok k hk).1 (hok k hk).2 hb.1 hb.2
  have h2 := orB_ok hb (hok k hk)
  refine okH_eq (orB_ok (k := orB b k) hb h2) h2 fun i => ?_
  have e1 := orB_bit hb h2 i
  have e2 := orB_bit hb (hok k hk) i
  show bitH (orB b (orB b k)) i = bitH (orB b k) i
  rw [e1, e2]
  cases bitH k i <;> cases b.toNat.testBit i <;> rfl
theorem ok_map {b : Int} (hb : okH b) {l : List Kn} (hok : ∀ k ∈ l, okH k.h) : ∀ k ∈ l.map (orB b), okH k.h := fun k hk => by
  obtain ⟨y, hy, rfl⟩ := List.mem_map.1 hk
  exact orB_ok hb (hok y hy)
theorem hok2 {l m : List Kn} (hl : ∀ k ∈ l, okH k.h) (hm : ∀ k ∈ m, okH k.h) : ∀ k ∈ l ++ m, okH k.h := fun k hk => by
  rcases List.mem_append.1 hk with h | h
  · exact hl k h
  · exact hm k h
theorem mergeV_as {b : Int} (hb : okH b) {x y : List Kn} (hx : ∀ k ∈ x, okH k.h) (hy : ∀ k ∈ y, okH k.h) : mergeV b x y = memV (x.map (orB b) ++ y.map (orB b)) := by
  unfold mergeV
  rw [memV_map_orB hb (hok2 hx hy), List.map_append]
theorem mergeV_ok {b : Int} (hb : okH b) {x y : List Kn} (hx : ∀ k ∈ x, okH k.h) (hy : ∀ k ∈ y, okH k.h) : ∀ k ∈ mergeV b x y, okH k.h := by
  rw [mergeV_as hb hx hy]
  exact (memV_of _ (hok2 (ok_map hb hx) (ok_map hb hy))).ok
theorem mergeV_len (b : Int) (x y : List Kn) : (mergeV b x y).length ≤ x.length + y.length := by
  have := memV_len (x ++ y)
  unfold mergeV
  simp only [List.length_append, List.length_map] at this ⊢
  omega
theorem mergeV_comm {b : Int} (hb : okH b) {x y : List Kn} (hx : ∀ k ∈ x, okH k.h) (hy : ∀ k ∈ y, okH k.h) : mergeV b y x = mergeV b x y := by
  rw [mergeV_as hb hy hx, mergeV_as hb hx hy]
  refine memV_congr (hok2 (ok_map hb hy) (ok_map hb hx)) fun k => ?_
  simp only [List.mem_append]
  exact Or.comm
theorem mergeV_orB {b : Int} (hb : okH b) {x y : List Kn} (hx : ∀ k ∈ x, okH k.h) (hy : ∀ k ∈ y, okH k.h) : (mergeV b x y).map (orB b) = mergeV b x y := by
  unfold mergeV
  exact orB_idem hb (memV_of _ (hok2 hx hy)).ok
theorem mergeV_left {b : Int} (hb : okH b) {x y z : List Kn} (hx : ∀ k ∈ x, okH k.h) (hy : ∀ k ∈ y, okH k.h) (hz : ∀ k ∈ z, okH k.h) : mergeV b (mergeV b x y) z = memV (x.map (orB b) ++ y.map (orB b) ++ z.map (orB b)) := by
  rw [mergeV_as hb (mergeV_ok hb hx hy) hz, mergeV_orB hb hx hy, mergeV_as hb hx hy, memV_idem (hok2 (ok_map hb hx) (ok_map hb hy))]
theorem mergeV_assoc {b : Int} (hb : okH b) {x y z : List Kn} (hx : ∀ k ∈ x, okH k.h) (hy : ∀ k ∈ y, okH k.h) (hz : ∀ k ∈ z, okH k.h) : mergeV b x (mergeV b y z) = mergeV b (mergeV b x y) z := by
  rw [mergeV_left hb hx hy hz, mergeV_comm hb (mergeV_ok hb hy hz) hx, mergeV_left hb hy hz hx]
  refine memV_congr (hok2 (hok2 (ok_map hb hy) (ok_map hb hz)) (ok_map hb hx)) fun k => ?_
  simp only [List.mem_append]
  constructor
  · rintro ((h | h) | h) <;> simp [h]
  · rintro ((h | h) | h) <;> simp [h]
theorem mergeV_again {b : Int} (hb : okH b) {x y : List Kn} (hx : ∀ k ∈ x, okH k.h) (hy : ∀ k ∈ y, okH k.h) : mergeV b (mergeV b x y) x = mergeV b x y := by
  rw [mergeV_left hb hx hy hx, mergeV_as hb hx hy]
  refine memV_congr (hok2 (hok2 (ok_map hb hx) (ok_map hb hy)) (ok_map hb hx)) fun k => ?_
  simp only [List.mem_append]
  constructor
  · rintro ((h | h) | h) <;> simp [h]
  · rintro (h | h) <;> simp [h]
theorem mergeV_dets {b : Int} {x y : List Kn} (hx : ∀ k ∈ x, okH k.h) (hy : ∀ k ∈ y, okH k.h) : stockV (x.map Kn.d ++ y.map Kn.d) = (mergeV b x y).map Kn.d := by
  have h := memV_of (x ++ y) (hok2 hx hy)
  unfold mergeV
  rw [List.map_map, show Kn.d ∘ orB b = Kn.d from rfl]
  refine asc_unique _ _ (stock_asc _) h.asc fun d => ?_
  rw [stock_mem, ← List.map_append, List.mem_map, List.mem_map]
  exact ⟨fun ⟨k, hk, e⟩ => (h.dets d).2 ⟨k, hk, e⟩, fun ⟨k, hk, e⟩ => (h.dets d).1 ⟨k, hk, e⟩⟩
theorem own_segK {w : World} {base n c : Nat} {e : TypeId} {A : Option Addr} {xs : List Value} (h : w.ownsRow base e 10 (.slice A n c) n xs) : Seg w 10 A n xs := by
  obtain ⟨A', c', hv, hs, -, -⟩ := own_slice h
  injection hv with h1 h2 h3
  subst h1
  exact hs
set_option maxHeartbeats 3200000 in
theorem unions_walk (a0 : Option Addr) (cap0 : Nat) (bs : List Int) (x1 : Int) (w : World)
    (w0 : Seg w 1 a0 bs.length (bs.map (Value.int .u8)) ∧ bs.length ≤ cap0 ∧ cap0 ≤ maxLen ∧ ∀ b ∈ bs, 0 ≤ b ∧ b < 256) (w1 : (Lit.int .i64 x1).wf = true) :
    Calls Try.prog 11 #[.slice a0 bs.length cap0, .int .i64 x1] w fun e w' => e = .returned (.bool true) ∧ Below w.heap.size w w' := by
  have W0 := Lib.hid w0
  clear w0 w1
  go_enter Try.func11, Try.ntmps11
  go_wp2_with fail
  refine (awake_any _).mono ?_
  rintro e wA ⟨rfl, hEA⟩
  have HEA := Lib.hid hEA
  clear hEA
  go_wp2_with fail
  refine (new_any a0 cap0 bs 250 wA (W0.out.1.ext HEA.out) W0.out.2.1 W0.out.2.2.1 (by omega) W0.out.2.2.2).mono ?_
  rintro e wB ⟨rfl, hC, hEB⟩
  have hcl := hC.lt
  obtain ⟨c, hc⟩ : ∃ c, wA.heap.size = c := ⟨_, rfl⟩
  have hcc : wA.heap.size ≤ c := by omega
  rw [hc] at hC hcl ⊢
  have HEB := Lib.hid (Ext.trans HEA.out hEB)
  have HZB := Lib.hid (Nat.le_trans HEA.out.size hcc)
  clear hEB hc hcc
  go_wp2_with fail
  refine (known_first c (bs.take 250) 0 wB hC 8 (by omega)).mono ?_
  rintro e wC ⟨v, X, rfl, hownX, hXl, hXok, hD⟩
  have hgC := hD.1
  obtain ⟨-, k1, hC1, -, -⟩ := hD
  have HEC : Hid (Ext w wC) := Below.grown HEB.out hgC HEB.out.size (fun k hk => by injection hk with hk; have := HZB.out; omega)
  have hcl1 : c < wC.heap.size := Nat.lt_of_lt_of_le hcl hgC.size
  have HOX := Lib.hid hXok
  clear hC hgC hXok
  obtain ⟨AX, cX, rfl, -, -, -⟩ := own_slice hownX
  go_wp2_with fail
  refine (known_first c (bs.take 250) k1 wC hC1 8 (by omega)).mono ?_
  rintro e wD ⟨v, Y, rfl, hownY, hYl, hYok, hD⟩
  have hgD := hD.1
  obtain ⟨-, k2, hC2, -, -⟩ := hD
  have HED : Hid (Ext w wD) := Below.grown HEC.out hgD HEC.out.size (fun k hk => by injection hk with hk; have := HZB.out; omega)
  have hcl2 : c < wD.heap.size := Nat.lt_of_lt_of_le hcl1 hgD.size
  have hownX2 := keptc hownX hgD hcl
  have HOY := Lib.hid hYok
  clear hC1 hgD hYok hownX
  obtain ⟨AY, cY, rfl, -, -, -⟩ := own_slice hownY
  go_wp2_with fail
  refine (known_first c (bs.take 250) k2 wD hC2 8 (by omega)).mono ?_
  rintro e wE ⟨v, Z, rfl, hownZ, hZl, hZok, hD⟩
  have hgE := hD.1
  have HEE : Hid (Ext w wE) := Below.grown HED.out hgE HED.out.size (fun k hk => by injection hk with hk; have := HZB.out; omega)
  have HSX := Lib.hid (own_segK (keptc hownX2 hgE hcl))
  have HSY := Lib.hid (own_segK (keptc hownY hgE hcl1))
  have HOZ := Lib.hid hZok
  obtain ⟨AZ, cZ, rfl, hsZ, -, -⟩ := own_slice hownZ
  have HSZ := Lib.hid hsZ
  clear hC2 hgE hZok hownX2 hownY hownZ hD hsZ hcl hcl1 hcl2 HZB HEB HEC HED
  go_wp2_with fail
  refine (mod_any x1 5 _ (by omega) (by omega)).mono ?_
  rintro e wz ⟨rfl, rfl⟩
  obtain ⟨p, hp⟩ : ∃ p, modv x1 5 = p := ⟨_, rfl⟩
  rw [hp]
  clear hp
  obtain ⟨b, hb⟩ : ∃ b, bitV p = b := ⟨_, rfl⟩
  have HB : Hid (okH b) := by rw [← hb]; exact bitV_ok p
  have HMC : Hid (∀ (A B : Option Addr) (ca cb : Nat) (a c : List Kn) (w : World) (ha : KnSeg w A a) (hb : KnSeg w B c) (hla : a.length ≤ 100) (hlb : c.length ≤ 100) (hoa : ∀ k ∈ a, okH k.h) (hoc : ∀ k ∈ c, okH k.h),
    Calls Try.prog 21 #[.slice A a.length ca, .slice B c.length cb, .int .i64 p] w (OwnPostK (mergeV b a c) w)) := fun A B ca cb a c w h1 h2 h3 h4 h5 h6 => by
    rw [← hb]
    exact merge_code A B ca cb a c p w h1 h2 (by omega) (by omega) (hok2 h5 h6)
  clear hb
  have lxy := mergeV_len b X Y
  have lyx := mergeV_len b Y X
  have lyz := mergeV_len b Y Z
  have HOXY := Lib.hid (mergeV_ok HB.out HOX.out HOY.out)
  have HOYZ := Lib.hid (mergeV_ok HB.out HOY.out HOZ.out)
  have HU1 := Lib.hid (mergeV_comm HB.out HOX.out HOY.out)
  have HU2 := Lib.hid (mergeV_assoc HB.out HOX.out HOY.out HOZ.out)
  have HU3 := Lib.hid (mergeV_again HB.out HOX.out HOY.out)
  have HU4 := Lib.hid (mergeV_dets (b := b) HOX.out HOY.out)
  rename World => wz
  have hX0 : Ext wz wz := Ext.refl wz
  go_wp2_with fail
  refine (HMC.out AX AY cX cY X Y _ HSX.out HSY.out (by omega) (by omega) HOX.out HOY.out).mono ?_
  rintro e wa ⟨v, rfl, hown, hE⟩
  obtain ⟨AM, cM, rfl, hsM, -, -⟩ := own_slice hown
  have hX1 := Ext.trans hX0 hE
  have HM1 := Lib.hid hsM
  have HW1 := Lib.hid hX1
  clear hown hE hX0 hsM hX1
  have hX1 : Ext wa wa := Ext.refl wa
  go_wp2_with fail
  refine (HMC.out AY AX cY cX Y X _ (HSY.out.ext HW1.out) (HSX.out.ext HW1.out) (by omega) (by omega) HOY.out HOX.out).mono ?_
  rintro e wb ⟨v, rfl, hown, hE⟩
  obtain ⟨AN, cN, rfl, hsN, -, -⟩ := own_slice hown
  have hX2 := Ext.trans hX1 hE
  rw [HU1.out] at hsN ⊢
  clear hown hE hX1
  go_wp2_with fail
  refine (sameKn AM AN cM cN (mergeV b X Y) _ (HM1.out.ext hX2) hsN (by omega)).mono ?_
  rintro e wc ⟨rfl, nq, rfl⟩
  have hX3 : Ext wa (wb.drewN nq) := hX2.drewN nq
  clear hsN hX2
  go_wp2_with fail
  refine (HMC.out AM AZ cM cZ (mergeV b X Y) Z _ (HM1.out.ext hX3) (HSZ.out.ext (Ext.trans HW1.out hX3)) (by omega) (by omega) HOXY.out HOZ.out).mono ?_
  rintro e wd ⟨v, rfl, hown, hE⟩
  obtain ⟨AP, cP, rfl, hsP, -, -⟩ := own_slice hown
  have hX4 := Ext.trans hX3 hE
  clear hown hE hX3
  go_wp2_with fail
  refine (HMC.out AY AZ cY cZ Y Z _ (HSY.out.ext (Ext.trans HW1.out hX4)) (HSZ.out.ext (Ext.trans HW1.out hX4)) (by omega) (by omega) HOY.out HOZ.out).mono ?_
  rintro e we ⟨v, rfl, hown, hE⟩
  obtain ⟨AQ, cQ, rfl, hsQ, -, -⟩ := own_slice hown
  have hX5 := Ext.trans hX4 hE
  have hsP5 := hsP.ext hE
  clear hown hE hX4 hsP
  go_wp2_with fail
  refine (HMC.out AX AQ cX cQ X (mergeV b Y Z) _ (HSX.out.ext (Ext.trans HW1.out hX5)) hsQ (by omega) (by omega) HOX.out HOYZ.out).mono ?_
  rintro e wf ⟨v, rfl, hown, hE⟩
  obtain ⟨AR, cR, rfl, hsR, -, -⟩ := own_slice hown
  have hX6 := Ext.trans hX5 hE
  have hsP6 := hsP5.ext hE
  rw [HU2.out] at hsR ⊢
  clear hown hE hX5 hsP5 hsQ
  have lxyz := mergeV_len b (mergeV b X Y) Z
  go_wp2_with fail
  refine (sameKn AP AR cP cR (mergeV b (mergeV b X Y) Z) _ hsP6 hsR (by omega)).mono ?_
  rintro e wg ⟨rfl, nq2, rfl⟩
  have hX7 : Ext wa (wf.drewN nq2) := hX6.drewN nq2
  clear hsP6 hsR hX6
  go_wp2_with fail
  refine (HMC.out AM AX cM cX (mergeV b X Y) X _ (HM1.out.ext hX7) (HSX.out.ext (Ext.trans HW1.out hX7)) (by omega) (by omega) HOXY.out HOX.out).mono ?_
  rintro e wh ⟨v, rfl, hown, hE⟩
  obtain ⟨AS, cS, rfl, hsS, -, -⟩ := own_slice hown
  have hX8 := Ext.trans hX7 hE
  rw [HU3.out] at hsS ⊢
  clear hown hE hX7
  go_wp2_with fail
  refine (sameKn AM AS cM cS (mergeV b X Y) _ (HM1.out.ext hX8) hsS (by omega)).mono ?_
  rintro e wi ⟨rfl, nq3, rfl⟩
  have hX9 : Ext wa (wh.drewN nq3) := hX8.drewN nq3
  clear hsS hX8
  go_wp2_with fail
  refine (dets_any AM cM (mergeV b X Y) _ (HM1.out.ext hX9) (by omega)).mono ?_
  rintro e wj ⟨v, rfl, hown, hE⟩
  obtain ⟨AT, cT, rfl, hsT, -, -⟩ := own_slice hown
  have hX10 := Ext.trans hX9 hE
  have HST := Lib.hid hsT
  clear hown hE hX9 hsT
  go_wp2_with fail
  refine (dets_any AX cX X _ (HSX.out.ext (Ext.trans HW1.out hX10)) (by omega)).mono ?_
  rintro e wk ⟨v, rfl, hown, hE⟩
  obtain ⟨AU, cU, rfl, hsU, -, -⟩ := own_slice hown
  have hX11 := Ext.trans hX10 hE
  have HST2 := Lib.hid (HST.out.ext hE)
  clear hown hE hX10 HST
  go_wp2_with fail
  refine (dets_any AY cY Y _ (HSY.out.ext (Ext.trans HW1.out hX11)) (by omega)).mono ?_
  rintro e wl ⟨v, rfl, hown, hE⟩
  obtain ⟨AV, cV, rfl, hsV, -, -⟩ := own_slice hown
  have hX12 := Ext.trans hX11 hE
  have HST3 := Lib.hid (HST2.out.ext hE)
  have hsU2 := hsU.ext hE
  clear hown hE hX11 HST2 hsU
  have HDM := Dd.merge_any AU AV cU cV (X.map Kn.d) (Y.map Kn.d) wl hsU2 hsV (by rw [List.length_map]; omega) (by rw [List.length_map]; omega)
  rw [HU4.out, List.length_map, List.length_map] at HDM
  have HDM := Lib.hid HDM
  clear hsU2 hsV
  simp only [List.length_map]
  go_wp2_with fail
  refine HDM.out.mono ?_
  rintro e wm ⟨AF, cF, rfl, hsF, -, -, hE⟩
  have hX13 := Ext.trans hX12 hE
  have hsT4 := HST3.out.ext hE
  have HSM := sameDets AT AF cT cF ((mergeV b X Y).map Kn.d) wm hsT4 hsF (by rw [List.length_map]; omega)
  rw [List.length_map] at HSM
  have HSM := Lib.hid HSM
  clear hE hX12 hsT4 hsF HST3 HDM
  simp only [List.length_map]
  go_wp2_with fail
  refine HSM.out.mono ?_
  rintro e wn ⟨rfl, nq4, rfl⟩
  have hX14 : Ext wa (wm.drewN nq4) := hX13.drewN nq4
  clear hX13 HSM
  go_wp2_with fail
  go_ret
  exact ⟨rfl, Ext.trans HEE.out (Ext.trans HW1.out hX14)⟩
end Go.Proofs.Ytfnnoncdocghjaa
