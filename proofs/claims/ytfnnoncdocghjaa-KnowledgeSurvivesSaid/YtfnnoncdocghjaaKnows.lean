/- knows of the law. No statement of the seat is proved here. -/
import Derived.Test.YtfnnoncdocghjaaK8
import Derived.Test.YtfnnoncdocghjaaK7
namespace Go.Proofs.Ytfnnoncdocghjaa
open Go.RowKit
set_option linter.unusedVariables false
set_option maxRecDepth 100000

set_option maxHeartbeats 1600000 in
theorem knows_any (A1 A2 : Option Addr) (c1 c2 N : Nat) (K : List (Gr Kn)) (p : Nat) (kl : List Kn) (d : Dt) (w : World) (hK : GSeg Kn.cells 10 w A2 K) (hp : p < K.length) (hN : K.length = N) (hkl : K[p].l = kl) (hl : kl.length ≤ 1000) :
    Calls Try.prog 28 #[.agg #[.slice A1 N c1, .slice A2 N c2], .int .i64 p, d.val] w (ExtPost w (.bool (hasB (kl.map Kn.d) d))) := by
  have hX : Ext w ((w.alloc (.cells #[.slice A1 N c1, .slice A2 N c2] 50)).alloc (.cells d.cells.toArray 32)) := ((Ext.refl w).allocs _).allocs _
  have hBA : Blk ((w.alloc (.cells #[.slice A1 N c1, .slice A2 N c2] 50)).alloc (.cells d.cells.toArray 32)) w.heap.size 50 #[.slice A1 N c1, .slice A2 N c2] := Blk.ext (Blk.new w _ _) ((Ext.refl _).allocs _)
  have hBD : Blk ((w.alloc (.cells #[.slice A1 N c1, .slice A2 N c2] 50)).alloc (.cells d.cells.toArray 32)) (w.heap.size + 1) 32 d.cells.toArray := by
    have := Blk.new (w.alloc (.cells #[.slice A1 N c1, .slice A2 N c2] 50)) 32 d.cells.toArray
    simpa using this
  have HK := Lib.hid (hK.ext hX)
  have HX := Lib.hid hX
  have hpN : p < N := by omega
  have hp0 : (0 : Int) ≤ (p : Int) := by omega
  have hp1 : (p : Int) < (N : Int) := by omega
  obtain ⟨b2, o2, hA2, q2⟩ := HK.out.at_ hp
  have hr := (HK.out.row hp).1
  have hPL : Hid (p < K.length) := hp
  rw [hkl] at q2 hr
  clear hN
  generalize K[p].A = ka at q2 hr
  generalize K[p].c = kc at q2
  clear hkl hK hp
  subst hA2
  go_enter Try.func28, Try.ntmps28
  go_upto_region 1 with fail
  obtain ⟨w2, hw2⟩ : ∃ w2, (w.alloc (.cells #[.slice A1 N c1, .slice (some ⟨b2, o2, none⟩) N c2] 50)).alloc (.cells d.cells.toArray 32) = w2 := ⟨_, rfl⟩
  have hw2' := hw2
  unfold Dt.cells at hw2'
  obtain ⟨gA, hgA⟩ : ∃ gA, w.heap.size = gA := ⟨_, rfl⟩
  obtain ⟨gD, hgD⟩ : ∃ gD, gA + 1 = gD := ⟨_, rfl⟩
  rw [hw2] at hBA hBD HX HK q2 hr
  try rw [hw2']
  try rw [hw2]
  rw [hgA] at hBA hBD ⊢
  rw [hgD] at hBD ⊢
  clear hw2 hw2' hgA hgD
  have HR := Lib.hid hr
  have HBA := Lib.hid hBA
  have HBD := Lib.hid hBD
  have hq2 := World.block_lt_of_cell? w2 _ q2
  have HC : Hid (∀ W', Ext w2 W' → (fun W' => W'.cell? ⟨gA, 1, none⟩ = some (.slice (some ⟨b2, o2, none⟩) N c2) ∧ W'.cell? ⟨b2, o2 + p, none⟩ = some (.slice ka kl.length kc) ∧ W'.cell? ⟨gD, 0, none⟩ = some (.int .i64 d.proc) ∧ W'.cell? ⟨gD, 1, none⟩ = some (.int .i64 d.index) ∧ W'.cell? ⟨gD, 2, none⟩ = some (.int .i64 d.ev.kind) ∧ W'.cell? ⟨gD, 3, none⟩ = some (.int .i64 d.ev.inc) ∧ W'.cell? ⟨gD, 4, none⟩ = some (.int .i64 d.ev.frm) ∧ W'.cell? ⟨gD, 5, none⟩ = some (.int .i64 d.ev.sinc) ∧ W'.cell? ⟨gD, 6, none⟩ = some (.int .i64 d.ev.sidx) ∧ W'.cell? ⟨gD, 7, none⟩ = some (.int .i64 d.ev.ord) ∧ W'.cell? ⟨gD, 8, none⟩ = some (.int .i64 d.ev.val)) W') := fun W' hW => by
    have hz := (blk2 (Blk.ext HBA.out hW)).1
    exact ⟨hz.2, (hW.cell (p := ⟨b2, o2 + p, none⟩) hq2).trans q2, blk9 (Blk.ext HBD.out hW)⟩
  clear hBA hBD hr
  refine wp_region_sched (by kernel_rfl) 7 [(0, true), (1, true), (2, true), (3, true), (4, true), (6, true), (5, false), (7, false), (8, false)] (fun W' => W'.cell? ⟨gA, 1, none⟩ = some (.slice (some ⟨b2, o2, none⟩) N c2) ∧ W'.cell? ⟨b2, o2 + p, none⟩ = some (.slice ka kl.length kc) ∧ W'.cell? ⟨gD, 0, none⟩ = some (.int .i64 d.proc) ∧ W'.cell? ⟨gD, 1, none⟩ = some (.int .i64 d.index) ∧ W'.cell? ⟨gD, 2, none⟩ = some (.int .i64 d.ev.kind) ∧ W'.cell? ⟨gD, 3, none⟩ = some (.int .i64 d.ev.inc) ∧ W'.cell? ⟨gD, 4, none⟩ = some (.int .i64 d.ev.frm) ∧ W'.cell? ⟨gD, 5, none⟩ = some (.int .i64 d.ev.sinc) ∧ W'.cell? ⟨gD, 6, none⟩ = some (.int .i64 d.ev.sidx) ∧ W'.cell? ⟨gD, 7, none⟩ = some (.int .i64 d.ev.ord) ∧ W'.cell? ⟨gD, 8, none⟩ = some (.int .i64 d.ev.val)) (by kernel_rfl) (fun _ _ dd _ _ h => by cases dd <;> exact h) (HC.out _ (Below.drew (Ext.refl w2))) (fun hHeld => ?_)
  iterate 6 ((refine sched_read (v := ?_) rfl (Or.inl ⟨by rfl, ?_⟩) hHeld ?_; rotate_left 1; · (intro w' hSw; obtain ⟨t0, t1, t2, t3, t4, t5, t6, t7, t8, t9, t10⟩ := hSw; go_simp; (first | done | with_reducible rfl))); (try simp only [Act.put, List.setIfInBounds_toArray, List.set_cons_zero, List.set_cons_succ]))
  have hEd : Ext w2 w2.drew := Below.drew (Ext.refl w2)
  have HD := Lib.hid (dets_ref ka kc kl w2.drew (HR.out.ext hEd) (by omega))
  refine sched_eff rfl (fun K hK => ?_)
  go_simp
  refine HD.out.mono ?_
  rintro e5 w5 ⟨v5, rfl, hown5, hE5⟩
  obtain ⟨A5, c5, rfl, hs5, -, -⟩ := own_slice hown5
  have hX5 := Ext.trans hEd hE5
  refine hK.out _ _ (HC.out _ hX5) (fun hHeld => ?_)
  clear hK K HD
  (try simp only [Act.put, List.setIfInBounds_toArray, List.set_cons_zero, List.set_cons_succ])
  have HH := Lib.hid (has_ref A5 c5 (kl.map Kn.d) d w5 hs5 (by rw [List.length_map]; omega))
  refine sched_tail rfl (by decide) (fun K hK => ?_)
  have hh := HH.out
  rw [List.length_map] at hh
  go_simp
  refine hh.mono ?_
  rintro e6 w6 ⟨rfl, hE6⟩
  have hX6 := Lib.hid (Ext.trans hX5 hE6)
  refine hK.out _ _ ?_
  clear hK K HH hh
  (try simp only [Act.put, List.setIfInBounds_toArray, List.set_cons_zero, List.set_cons_succ])
  refine sched_tail rfl (by decide) (fun K hK => ?_)
  go_simp
  refine hK.out _ _ ?_
  clear hK K
  (try simp only [Act.put, List.setIfInBounds_toArray, List.set_cons_zero, List.set_cons_succ])
  refine sched_done ?_
  clear hHeld hX5 hE5 hE6 hs5 hown5 hEd
  go_wp2_with fail
  go_ret
  exact ⟨rfl, Ext.trans HX.out hX6.out⟩
end Go.Proofs.Ytfnnoncdocghjaa
