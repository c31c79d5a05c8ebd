/- The law KnowledgeFrugal walked. No statement of the seat is proved here. -/
import Derived.Test.YtfnnoncdocghjaaDraw
import Derived.Test.YtfnnoncdocghjaaFrugalPlain
namespace Go.Proofs.Ytfnnoncdocghjaa
open Go.RowKit
set_option linter.unusedVariables false
set_option maxRecDepth 100000

theorem playR_ok {N : Nat} {f : Nat} {l : List Av} (h1 : 1 ≤ N) (h2 : N ≤ 5) (hf : f ≤ N) (hl : l.length ≤ 200) : playR N f l = (0, (playV N f l).ev, (playV N f l).kn) := by
  unfold playR
  rw [if_pos ⟨by omega, by omega, by omega, by omega⟩, if_pos hl, Int.toNat_natCast]
def FgRel (w1 : World) (N : Nat) (g : Nat) (i : Value) (wr : World) : Prop := ∃ j : Nat, j ≤ N ∧ i = .int .i64 j ∧ g = N - j ∧ Ext w1 wr
set_option maxHeartbeats 3200000 in
theorem frugal_walk (a0 : Option Addr) (cap0 : Nat) (bs : List Int) (w : World)
    (h3 : Seg w 1 a0 bs.length (bs.map (Value.int .u8)) ∧ bs.length ≤ cap0 ∧ cap0 ≤ maxLen ∧ ∀ b ∈ bs, 0 ≤ b ∧ b < 256) :
    Calls Try.prog 9 #[.slice a0 bs.length cap0] w fun e w' => e = .returned (.bool true) ∧ Below w.heap.size w w' := by
  have H3 := Lib.hid h3
  clear h3
  go_enter Try.func9, Try.ntmps9
  go_wp2_with fail
  refine (awake_any _).mono ?_
  rintro e w1 ⟨rfl, hE1⟩
  have HE1 := Lib.hid hE1
  clear hE1
  go_wp2_with fail
  refine (draw_any a0 cap0 bs w1 (H3.out.1.ext HE1.out) H3.out.2.1 H3.out.2.2.1 H3.out.2.2.2).mono ?_
  rintro e w2 ⟨N, f, A, c, l, rfl, hN1, hN2, hf, hS, hl, hE2⟩
  have HE2 := Lib.hid (Ext.trans HE1.out hE2)
  have HS := Lib.hid hS
  clear hE2 hS
  have HP := Lib.hid (play_any N 0 A c l w2 HS.out)
  have hpr := playR_ok (N := N) (f := 0) (l := l) (by omega) (by omega) (by omega) (by omega)
  have hwf := WF.play N 0 (by omega) l l.length (Nat.le_refl _)
  rw [List.take_length] at hwf
  have hfr := Frug.play N (by omega) l
  have HPR : Hid (playR N 0 l = (0, (playV N 0 l).ev, (playV N 0 l).kn)) := hpr
  clear hpr
  go_wp2_with fail
  refine HP.out.mono ?_
  rintro e w3 ⟨v, rfl, hsp, hE3⟩
  rw [HPR.out] at hsp ⊢
  dsimp only at hsp ⊢
  obtain ⟨A1, A2, c1, c2, R, K, rfl, h1, h2, h3, h4⟩ := hsp
  have hRl : R.length = N := by have := congrArg List.length h3; rw [List.length_map, hfr.ev] at this; exact this
  have hKl : K.length = N := by have := congrArg List.length h4; rw [List.length_map, hfr.kn] at this; exact this
  have hE3' : Ext w2 (w3.alloc (.cells #[.slice A1 R.length c1, .slice A2 K.length c2] 50)) := hE3.allocs _
  have hE4 : Ext w3 (w3.alloc (.cells #[.slice A1 R.length c1, .slice A2 K.length c2] 50)) := (Ext.refl w3).allocs _
  have hB6 : Blk (w3.alloc (.cells #[.slice A1 R.length c1, .slice A2 K.length c2] 50)) w3.heap.size 50 #[.slice A1 R.length c1, .slice A2 K.length c2] := Blk.new w3 _ _
  have h1' := h1.ext hE4
  have h2' := h2.ext hE4
  obtain ⟨g6, hg6⟩ : ∃ g6, w3.heap.size = g6 := ⟨_, rfl⟩
  rw [hg6] at hB6
  rw [hRl, hKl] at hE3' hB6 ⊢
  rw [hRl, hKl] at h1' h2'
  have H1 := Lib.hid h1'
  have H2 := Lib.hid h2'
  have H34 : Hid (R.map Gr.l = (playV N 0 l).ev ∧ K.map Gr.l = (playV N 0 l).kn) := ⟨h3, h4⟩
  have HWF := Lib.hid hwf
  have HFR := Lib.hid hfr
  have HLL : Hid (R.length = N ∧ K.length = N) := ⟨hRl, hKl⟩
  have HEF : Hid (Ext w (w3.alloc (.cells #[.slice A1 N c1, .slice A2 N c2] 50))) := Ext.trans HE2.out hE3'
  clear h1 h2 h1' h2' h3 h4 hwf hfr hRl hKl hE3 hE3' hE4 HP
  obtain ⟨z0, z1⟩ := (blk2 hB6).1
  have HB6 := Lib.hid hB6
  clear hB6
  go_upto_region 5 with fail
  generalize w3.alloc (.cells #[.slice A1 N c1, .slice A2 N c2] 50) = w4 at *
  have eN : ((N : Int) != (N : Int)) = false := by simp
  go_wp2_with fail
  go_loopg [8] N (fun g i wr => FgRel w4 N g i wr)
  case atStart => exact ⟨0, Nat.zero_le _, rfl, rfl, Ext.refl w4⟩
  case round =>
    obtain ⟨j, hj, rfl, rfl, hE⟩ := hrel
    by_cases hlt : j < N
    · have hjR : j < R.length := by rw [HLL.out.1]; exact hlt
      have hjK : j < K.length := by rw [HLL.out.2]; exact hlt
      obtain ⟨b1, o1, rfl, q1⟩ := (H1.out.ext hE).at_ hjR
      obtain ⟨b2, o2, rfl, q2⟩ := (H2.out.ext hE).at_ hjK
      have hr1 := (H1.out.row hjR).1
      have hr2 := (H2.out.row hjK).1
      have hev : (playV N 0 l).ev.getD j [] = R[j].l := by rw [← H34.out.1]; simp [List.getD_eq_getElem?_getD, hjR]
      have hkn : (playV N 0 l).kn.getD j [] = K[j].l := by rw [← H34.out.2]; simp [List.getD_eq_getElem?_getD, hjK]
      have hdl := HFR.out.d j hlt
      rw [hev, hkn] at hdl
      have hel : R[j].l.length ≤ 64 := HWF.out.el _ (by rw [← H34.out.1]; exact List.mem_map.2 ⟨_, List.getElem_mem hjR, rfl⟩)
      have hkl : K[j].l.length ≤ 200 := by
        obtain ⟨G, hG1, hG2, -⟩ := HWF.out.g
        have := (hG2 K[j].l (by rw [← H34.out.2]; exact List.mem_map.2 ⟨_, List.getElem_mem hjK, rfl⟩)).len
        omega
      generalize R[j] = rj at *
      generalize K[j] = kj at *
      have HR1 := Lib.hid hr1
      have HR2 := Lib.hid hr2
      have HDL := Lib.hid hdl
      clear hr1 hr2 hev hkn hdl
      have hj0 : (0 : Int) ≤ (j : Int) := by omega
      have hj1 : (j : Int) < (N : Int) := by omega
      have HC : Hid (∀ W', Ext wr W' → W'.cell? ⟨g6, 1, none⟩ = some (.slice (some ⟨b2, o2, none⟩) N c2) ∧ W'.cell? ⟨b2, o2 + j, none⟩ = some (.slice kj.A kj.l.length kj.c) ∧ W'.cell? ⟨g6, 0, none⟩ = some (.slice (some ⟨b1, o1, none⟩) N c1) ∧ W'.cell? ⟨b1, o1 + j, none⟩ = some (.slice rj.A rj.l.length rj.c)) := fun W' hW => by
        have hz := (blk2 (Blk.ext HB6.out (Ext.trans hE hW))).1
        exact ⟨hz.2, (hW.cell (p := ⟨b2, o2 + j, none⟩) (World.block_lt_of_cell? wr _ q2)).trans q2, hz.1, (hW.cell (p := ⟨b1, o1 + j, none⟩) (World.block_lt_of_cell? wr _ q1)).trans q1⟩
      have HE := Lib.hid hE
      clear q1 q2 hE
      go_upto_region 10 with fail
      refine wp_region_sched (by kernel_rfl) 12 [(0, true), (1, true), (2, true), (3, true), (4, true), (6, true), (7, true), (8, true), (9, true), (10, true), (11, true), (5, false), (12, false), (13, false), (14, false)] (fun W' => W'.cell? ⟨g6, 1, none⟩ = some (.slice (some ⟨b2, o2, none⟩) N c2) ∧ W'.cell? ⟨b2, o2 + j, none⟩ = some (.slice kj.A kj.l.length kj.c) ∧ W'.cell? ⟨g6, 0, none⟩ = some (.slice (some ⟨b1, o1, none⟩) N c1) ∧ W'.cell? ⟨b1, o1 + j, none⟩ = some (.slice rj.A rj.l.length rj.c)) (by kernel_rfl) (fun _ _ dd _ _ h => by cases dd <;> exact h) (HC.out _ (Below.drew (Ext.refl wr))) (fun hHeld => ?_)
      iterate 11 ((refine sched_read (v := ?_) rfl (Or.inl ⟨by rfl, ?_⟩) hHeld ?_; rotate_left 1; · (intro w' hSw; obtain ⟨t0, t1, t2, t3⟩ := hSw; go_simp; (first | done | with_reducible rfl))); (try simp only [Act.put, List.setIfInBounds_toArray, List.set_cons_zero, List.set_cons_succ]))
      have hEd : Ext wr wr.drew := Below.drew (Ext.refl wr)
      refine sched_eff rfl (fun K hK => ?_)
      go_simp
      refine (dets_any kj.A kj.c kj.l _ (HR2.out.ext (Ext.trans HE.out hEd)) (by omega)).mono ?_
      rintro e5 w5 ⟨v5, rfl, hown5, hE5⟩
      obtain ⟨A5, c5, rfl, hs5, -, -⟩ := own_slice hown5
      have hX5 := Ext.trans hEd hE5
      refine hK.out _ _ (HC.out _ hX5) (fun hHeld => ?_)
      clear hK K
      try simp only [Act.put, List.setIfInBounds_toArray, List.set_cons_zero, List.set_cons_succ]
      refine sched_tail rfl (by decide) (fun K hK => ?_)
      go_simp
      refine (lineage_sl rj.A rj.c j rj.l _ (HR1.out.ext (Ext.trans HE.out hX5)) (by omega)).mono ?_
      rintro e6 w6 ⟨v6, rfl, hown6, hE6⟩
      obtain ⟨A6, c6, rfl, hs6, -, -⟩ := own_slice hown6
      have hX6 := Ext.trans hX5 hE6
      refine hK.out _ _ ?_
      clear hK K
      try simp only [Act.put, List.setIfInBounds_toArray, List.set_cons_zero, List.set_cons_succ]
      refine sched_tail rfl (by decide) (fun K hK => ?_)
      go_simp
      have hs5' := hs5.ext hE6
      rw [HDL.out] at hs5'
      have hlk : kj.l.length = (linV j rj.l).length := by rw [← HDL.out, List.length_map]
      rw [hlk]
      refine (sameDets A5 A6 c5 c6 (linV j rj.l) w6 hs5' hs6 (by unfold linV; rw [lin_len]; omega)).mono ?_
      rintro e7 w7 ⟨rfl, nq, rfl⟩
      have HX7 : Hid (Ext wr (w6.drewN nq)) := hX6.drewN nq
      refine hK.out _ _ ?_
      clear hK K
      try simp only [Act.put, List.setIfInBounds_toArray, List.set_cons_zero, List.set_cons_succ]
      refine sched_tail rfl (by decide) (fun K hK => ?_)
      go_simp
      refine hK.out _ _ ?_
      clear hK K
      try simp only [Act.put, List.setIfInBounds_toArray, List.set_cons_zero, List.set_cons_succ]
      refine sched_done ?_
      clear hHeld hX5 hX6 hE5 hE6 hs5 hs6 hs5' hown5 hown6 hEd
      go_wp2_with fail
      go_roundg (N - (j + 1))
      case measure => omega
      case rel => exact ⟨j + 1, by omega, by go_num, rfl, Ext.trans HE.out HX7.out⟩
    · have hlt' : ¬ (j : Int) < (N : Int) := by omega
      go_wp2_with fail
      go_ret
      exact ⟨rfl, Ext.trans HEF.out hE⟩
end Go.Proofs.Ytfnnoncdocghjaa
