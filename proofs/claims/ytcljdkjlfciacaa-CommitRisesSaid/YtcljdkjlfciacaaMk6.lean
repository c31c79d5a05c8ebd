/- Reduce of the reference of chapter 16. No statement of the seat is proved here. -/
import Derived.Test.YtcljdkjlfciacaaMk5
namespace Go.Proofs.Ytcljdkjlfciacaa
open Go.RowKit
set_option linter.unusedVariables false

theorem Ar.at__ {w : World} {A : Option Addr} {l : List Ar} (h : Seg w 4 A l.length (l.flatMap Ar.cells)) {j : Nat} (hj : j < l.length) :
    ∃ b off, A = some ⟨b, off, none⟩ ∧ w.cell? ⟨b, off + j * 4, none⟩ = some (.int .i64 l[j].frm) ∧ w.cell? ⟨b, off + j * 4 + 1, none⟩ = some (.int .i64 l[j].idx) ∧ w.cell? ⟨b, off + j * 4 + 2, none⟩ = some (.int .i64 l[j].dst) ∧ w.cell? ⟨b, off + j * 4 + 3, none⟩ = some (.int .i64 l[j].at_) := by
  obtain ⟨b, off, hA, _, hc⟩ := Seg.at_ h Ar.len hj
  exact ⟨b, off, hA, hc 0 _ rfl, hc 1 _ rfl, hc 2 _ rfl, hc 3 _ rfl⟩
def RedPost (p0 : Pt) (n N b : Nat) (w : World) (e : Ending) (w' : World) : Prop := ∃ p : Pt, e = .returned (.agg #[.slice p.A0 p.Ls.length p.c0, .slice p.A1 p.Ks.length p.c1, p.v2]) ∧ PtMem w' b p ∧ PtOk n N p ∧ Ext w w' ∧ (∀ a ∈ p.As, 0 < a.at_) ∧ p.Ls = p0.Ls
def RdRel (As : List Ar) (v0 v1 : Value) (w2 : World) (g3 : Nat) (g : Nat) (iv : Value) (wr : World) : Prop :=
  ∃ (j : Nat) (Bs : List Ar) (v : Value), j ≤ As.length ∧ iv = .int .i64 j ∧ g = As.length - j ∧ Ext w2 wr ∧ Blk wr g3 32 #[v0, v1, v] ∧ wr.ownsRow (g3 + 1) 86 4 v Bs.length (Bs.flatMap Ar.cells) ∧ g3 + 1 ≤ wr.heap.size ∧ Hid (Bs.length ≤ j ∧ ∀ a ∈ Bs, a ∈ As ∧ 0 < a.at_)

set_option maxRecDepth 100000 in
set_option maxHeartbeats 6400000 in
theorem reduce_pt (n N b : Nat) (p : Pt) (w : World) (hM : PtMem w b p) (hO : PtOk n N p) (hb : b ≤ w.heap.size) (hN : N < 60) :
    Calls Try.prog 45 #[.agg #[.slice p.A0 p.Ls.length p.c0, .slice p.A1 p.Ks.length p.c1, p.v2]] w (RedPost p n N b w) := by
  obtain ⟨A2, c2, hv2, hsA, _, _⟩ := own_slice hM.a
  obtain ⟨A0, c0, Ls, A1, c1, Ks, v2, As⟩ := p
  dsimp only at hv2 hsA ⊢
  subst hv2
  have hal : As.length ≤ N := hO.al
  have hB1 := Blk.new w 32 #[.slice A0 Ls.length c0, .slice A1 Ks.length c1, .slice A2 As.length c2]
  have hX4 := (Ext.refl w).allocs (.cells #[.slice A0 Ls.length c0, .slice A1 Ks.length c1, .slice A2 As.length c2] 32)
  obtain ⟨w1, hw1⟩ : ∃ w1, w.alloc (.cells #[.slice A0 Ls.length c0, .slice A1 Ks.length c1, .slice A2 As.length c2] 32) = w1 := ⟨_, rfl⟩
  have hz1 : w1.heap.size = w.heap.size + 1 := by rw [← hw1]; simp
  rw [hw1] at hX4 hB1
  have hB8 := Blk.new w1 32 #[.slice none 0 0, .slice none 0 0, .slice none 0 0]
  have hX8 := (Ext.refl w1).allocs (.cells #[.slice none 0 0, .slice none 0 0, .slice none 0 0] 32)
  obtain ⟨w2, hw2⟩ : ∃ w2, w1.alloc (.cells #[.slice none 0 0, .slice none 0 0, .slice none 0 0] 32) = w2 := ⟨_, rfl⟩
  have hz2 : w2.heap.size = w.heap.size + 2 := by rw [← hw2]; simp; omega
  rw [hw2] at hB8 hX8
  rw [hz1] at hB8
  have HW : Hid ((w.alloc (.cells #[.slice A0 Ls.length c0, .slice A1 Ks.length c1, .slice A2 As.length c2] 32)).alloc (.cells #[.slice none 0 0, .slice none 0 0, .slice none 0 0] 32) = w2) := by show _ = _; rw [hw1, hw2]
  have hX2 := hX4.trans hX8
  have hB12 := hB1.ext hX8
  have hsA2 := hsA.ext hX2
  clear hw1 hw2 hz1 hB1 hX4 hX8
  obtain ⟨⟨p0, p1, p2⟩, _, _, _⟩ := blk3 hB12
  have HM := Lib.hid hM
  have HO := Lib.hid hO
  clear hM hO hsA
  have hN3 := Blk.new w2 32 #[.slice A0 Ls.length c0, .slice A1 Ks.length c1, .slice none 0 0]
  have hX3 := (Ext.refl w2).allocs (.cells #[.slice A0 Ls.length c0, .slice A1 Ks.length c1, .slice none 0 0] 32)
  obtain ⟨g1, hg1⟩ : ∃ g1, w.heap.size = g1 := ⟨_, rfl⟩
  go_enter Try.func45, Try.ntmps45
  go_wp2_with fail
  rw [HW.out]
  go_upto_region 3 with fail
  try rw [hz2]
  try rw [HW.out]
  obtain ⟨w3, hw3⟩ : ∃ w3, w2.alloc (.cells #[.slice A0 Ls.length c0, .slice A1 Ks.length c1, .slice none 0 0] 32) = w3 := ⟨_, rfl⟩
  have hz3 : w3.heap.size = w.heap.size + 3 := by rw [← hw3]; simp; omega
  rw [hw3] at hN3 hX3 ⊢
  rw [hg1] at hz2 hz3 hB12 hB8 p0 p1 p2 hb
  rw [hz2] at hN3
  obtain ⟨g3, hg3⟩ : ∃ g3, g1 + 1 + 1 = g3 := ⟨_, rfl⟩
  rw [hg3] at hN3 ⊢
  have hz3' : g3 + 1 ≤ w3.heap.size := by omega
  have HZ2 := Lib.hid hz2
  have HG := Lib.hid hg1
  have HN3 := Lib.hid hN3
  have HX3 := Lib.hid hX3
  have hg13 : g1 < g3 := by omega
  have hg23 : g1 + 1 < g3 := by omega
  have hw23 : w2.heap.size ≤ g3 := by omega
  clear hw3 hN3 hX3 hz2 hz3 hg1 hg3 p0 p1 p2 HW
  go_loopg [4] As.length (fun g iv wr => RdRel As (.slice A0 Ls.length c0) (.slice A1 Ks.length c1) w2 g3 g iv wr)
  case atStart => exact ⟨0, [], .slice none 0 0, Nat.zero_le _, rfl, rfl, HX3.out, HN3.out, own_nilv _ _ _ _, hz3', (⟨Nat.le_refl _, fun a ha => by cases ha⟩ : _ ∧ _)⟩
  case round =>
    clear HX3 HN3 hz3'
    obtain ⟨j, Bs, v, hj, rfl, rfl, hE, hB3, hown, hzr, HBs⟩ := hrel
    obtain ⟨B2, d2, rfl, _, _, _⟩ := own_slice hown
    have hB1r := hB12.ext hE
    have hs := hsA2.ext hE
    obtain ⟨⟨p0, p1, p2⟩, _, _, _⟩ := blk3 hB1r
    by_cases hlt : j < As.length
    · obtain ⟨a, ha⟩ : ∃ a, As[j] = a := ⟨_, rfl⟩
      obtain ⟨bA, oA, rfl, a0, a1, a2, a3⟩ := Ar.at__ hs hlt
      rw [ha] at a0 a1 a2 a3
      have HA := Lib.hid ha
      have hok := HO.out.ab a (by rw [← ha]; exact List.getElem_mem hlt)
      clear ha
      have hj0 : (0 : Int) ≤ (j : Int) := by omega
      have hj1 : (j : Int) < (As.length : Int) := by omega
      by_cases hz : a.at_ = 0
      · have dz : (a.at_ != 0) = false := by simp [hz]
        clear hz
        go_wp2_with fail
        go_roundg (As.length - (j + 1))
        case measure => omega
        case rel => exact ⟨j + 1, Bs, _, by omega, by go_num, rfl, hE, hB3, hown, hzr, (⟨by have := HBs.out.1; omega, HBs.out.2⟩ : _ ∧ _)⟩
      · have dz : (a.at_ != 0) = true := by simp [hz]
        have hzp : 0 < a.at_ := by have := hok.2.2.2.2.1; omega
        clear hz
        obtain ⟨⟨x0, x1, x2⟩, y0, y1, y2⟩ := blk3 hB3
        go_upto_region 6 with fail
        have hBl : Bs.length ≤ 60 := by have := HBs.out.1; omega
        have hEa : Ext wr (wr.alloc (.cells a.cells.toArray 86)).drew := Below.drew ((Ext.refl wr).allocs _)
        have hBa : Blk (wr.alloc (.cells a.cells.toArray 86)).drew wr.heap.size 86 a.cells.toArray := Blk.new wr _ _
        have HBa := Lib.hid hBa
        have HOW := Lib.hid hown
        have HB3 := Lib.hid hB3
        refine wp_region_sched (by kernel_rfl) 8 [(0, true), (1, true), (2, true), (3, true), (4, true), (5, true), (6, true), (7, false), (8, false), (9, false), (10, false)] (fun w' => w'.cell? ⟨g3, 2, none⟩ = some (.slice B2 Bs.length d2) ∧ w'.cell? ⟨g1, 2, none⟩ = some (.slice (some ⟨bA, oA, none⟩) As.length c2) ∧ w'.cell? ⟨bA, oA + j * 4, none⟩ = some (.int .i64 a.frm) ∧ w'.cell? ⟨bA, oA + j * 4 + 1, none⟩ = some (.int .i64 a.idx) ∧ w'.cell? ⟨bA, oA + j * 4 + 2, none⟩ = some (.int .i64 a.dst) ∧ w'.cell? ⟨bA, oA + j * 4 + 3, none⟩ = some (.int .i64 a.at_))
          (by kernel_rfl) (fun _ _ d _ _ h => by cases d <;> exact h) ⟨x2, p2, a0, a1, a2, a3⟩ (fun hHeld => ?_)
        iterate 7 ((refine sched_read (v := ?_) rfl (Or.inl ⟨by rfl, ?_⟩) hHeld ?_; rotate_left 1; · (intro w' hSw; obtain ⟨t0, t1, t2, t3, t4, t5⟩ := hSw; go_simp; (first | done | with_reducible rfl))); (try simp only [Act.put, List.setIfInBounds_toArray, List.set_cons_zero, List.set_cons_succ]))
        refine sched_eff rfl (fun K hK => ?_)
        go_simp
        refine hK.out _ _ ⟨hEa.keepCellM x2, hEa.keepCellM p2, hEa.keepCellM a0, hEa.keepCellM a1, hEa.keepCellM a2, hEa.keepCellM a3⟩ (fun hHeld => ?_)
        clear hK K
        try simp only [Act.put, List.setIfInBounds_toArray, List.set_cons_zero, List.set_cons_succ]
        clear x0 x1 x2 y0 y1 y2 p0 p1 p2 a0 a1 a2 a3
        refine sched_tail rfl (by decide) (fun K hK => ?_)
        refine step_push_lies Ar.cells 4 32 Ar.len Ar.one (by omega) (by rfl) _ _ _ (by rfl) (g3 + 1) 86 Try.underlying30 (by kernel_rfl) (.slice B2 Bs.length d2) Bs a wr.heap.size (by rfl) (own_ext HOW.out hEa) (by rfl) (Seg.ofBlk HBa.out rfl) (by unfold maxLen; omega) (by omega) (Nat.le_trans hzr hEa.size) ?_
        intro g9 c9 w9 hown9 hg9 hd9
        have hB39 : Blk w9 g3 32 #[.slice A0 Ls.length c0, .slice A1 Ks.length c1, .slice B2 Bs.length d2] := (hg9.block g3 (HB3.out.ext hEa).lt (fun e => by
          have := (HOW.out.lt _ e.symm).1
          omega)).trans (HB3.out.ext hEa)
        have hE9 : Ext w2 w9 := Ext.own (hE.trans hEa) (own_ext HOW.out hEa) (by omega) hg9
        have hz9 := hg9.size
        have hza := hEa.size
        refine hK.out _ _ ?_
        clear hK K
        try simp only [Act.put, List.setIfInBounds_toArray, List.set_cons_zero, List.set_cons_succ]
        refine sched_tail rfl (by decide) (fun K hK => ?_)
        go_simp
        refine hK.out _ _ ?_
        clear hK K
        try simp only [Act.put, List.setIfInBounds_toArray, List.set_cons_zero, List.set_cons_succ]
        have y := blk3 hB39
        obtain ⟨⟨x0, x1, x2⟩, y0, y1, y2⟩ := y
        have HB39 := Lib.hid hB39
        have HO9 := Lib.hid hown9
        have HE9 := Lib.hid hE9
        have hz9' : g3 + 1 ≤ w9.heap.size := Nat.le_trans hzr (Nat.le_trans hza hz9)
        clear hB39 hown9 hE9 hg9 hd9 hz9 hza
        refine sched_tail rfl (by decide) (fun K hK => ?_)
        go_simp
        refine hK.out _ _ ?_
        clear hK K
        refine sched_done ?_
        clear x0 x1 x2 y0 y1 y2
        go_wp2_with fail
        go_roundg (As.length - (j + 1))
        case measure => omega
        case rel =>
          have hlen : (Bs ++ [a]).length = Bs.length + 1 := by simp
          refine ⟨j + 1, Bs ++ [a], _, by omega, by go_num, rfl, HE9.out.set hw23 _, HB39.out.set2of3 _, own_keptc HO9.out (grown_set1 _ _ _ _) (by omega), by simpa using hz9', (⟨by rw [hlen]; have := HBs.out.1; omega, fun x hx => ?_⟩ : _ ∧ _)⟩
          rcases List.mem_append.1 hx with h | h
          · exact HBs.out.2 x h
          · rw [List.mem_singleton] at h
            subst h
            exact ⟨by rw [← HA.out]; exact List.getElem_mem hlt, hzp⟩
    · obtain rfl : j = As.length := by omega
      have hB8r := hB8.ext hE
      obtain ⟨⟨z0, z1, z2⟩, y0, y1, y2⟩ := blk3 hB8r
      obtain ⟨⟨x0, x1, x2⟩, _, _, _⟩ := blk3 hB3
      go_wp2_with fail
      refine bodyPost_ret (v := .agg #[.slice A0 Ls.length c0, .slice A1 Ks.length c1, .slice B2 Bs.length d2]) (by simp [results, Try.results45, go_sem, *]) rfl ?_
      have hX : Ext w wr := hX2.trans hE
      have hm := HM.out
      have ho := HO.out
      have hwz := HG.out
      have hb1 : ∀ g, (Value.slice B2 Bs.length d2).ownBlock = some g → g3 + 1 ≤ g := fun g hg => (hown.lt g hg).1
      have hp : PtMem wr b ⟨A0, c0, Ls, A1, c1, Ks, .slice B2 Bs.length d2, Bs⟩ := ⟨hm.l.ext hX, hm.lf, hm.lc, hm.k.ext hX, hm.kf, fun r hr => ⟨(hm.ks r hr).1.ext hX, (hm.ks r hr).2⟩, own_base hown (by omega), fun g hg => by
        have := hb1 g hg
        exact ⟨fun hn ad e => by have := hm.l.under hn ad e; omega, fun hn ad e => by have := hm.k.under hn ad e; omega, fun r hr hn ad e => by have := (hm.ks r hr).1.under hn ad e; omega⟩⟩
      have haw : PtAway (g1 + 1) ⟨A0, c0, Ls, A1, c1, Ks, .slice B2 Bs.length d2, Bs⟩ := ⟨fun hn ad e => by have := hm.l.under hn ad e; omega, fun hn ad e => by have := hm.k.under hn ad e; omega, fun r hr hn ad e => by have := (hm.ks r hr).1.under hn ad e; omega, fun e => by have := hb1 _ e; omega⟩
      refine ⟨⟨A0, c0, Ls, A1, c1, Ks, .slice B2 Bs.length d2, Bs⟩, rfl, hp.put haw (grown_sets3 _ _ _ _ _), ⟨ho.ll, ho.kl, ho.lb, ho.kb, ?_, fun a ha => ho.ab a (HBs.out.2 a ha).1, ho.gd.sub fun a ha _ => (HBs.out.2 a ha).1⟩, ((hX.set (by omega) _).set (by omega) _).set (by omega) _, fun a ha => (HBs.out.2 a ha).2, rfl⟩
      show Bs.length ≤ N
      have := HBs.out.1
      omega
end Go.Proofs.Ytcljdkjlfciacaa
