/- Mark of the reference of chapter 16. No statement of the seat is proved here. -/
import Derived.Test.YtcljdkjlfciacaaMk3
import Derived.Deep.AppendLies
namespace Go.Proofs.Ytcljdkjlfciacaa
open Go.RowKit
set_option linter.unusedVariables false

theorem Kr.at_ {w : World} {A : Option Addr} {l : List Kr} (h : Seg w 1 A l.length (l.flatMap Kr.cells)) {j : Nat} (hj : j < l.length) :
    ∃ b off, A = some ⟨b, off, none⟩ ∧ w.cell? ⟨b, off + j, none⟩ = some (.slice l[j].A l[j].l.length l[j].c) := by
  obtain ⟨b, off, hA, _, hc⟩ := Seg.at_ h Kr.len hj
  have := hc 0 _ rfl
  exact ⟨b, off, hA, by simpa using this⟩
theorem own_kr {w : World} {base g cap : Nat} {l : List Kr} (h : w.ownsRow base 28 1 (.slice (some ⟨g, 0, none⟩) l.length cap) l.length (l.flatMap Kr.cells)) {j : Nat} (hj : j < l.length) : w.cell? ⟨g, j, none⟩ = some (.slice l[j].A l[j].l.length l[j].c) := by
  have := flat_get Kr.cells 1 Kr.len l j 0 l[j] (List.getElem?_eq_getElem hj) (by omega)
  rw [Nat.mul_one, Nat.add_zero] at this
  rw [h.cellAt j (by omega), this]
  rfl
theorem own_storeK {w : World} {base g cap : Nat} {l : List Kr} (h : w.ownsRow base 28 1 (.slice (some ⟨g, 0, none⟩) l.length cap) l.length (l.flatMap Kr.cells)) {j : Nat} (hj : j < l.length) (x : Kr) :
    (w.setCell ⟨g, j, none⟩ (.slice x.A x.l.length x.c)).ownsRow base 28 1 (.slice (some ⟨g, 0, none⟩) l.length cap) (l.set j x).length ((l.set j x).flatMap Kr.cells) := by
  have h1 := (h.stored j (.slice x.A x.l.length x.c)).1
  have e := setAll_flat Kr.cells 1 (by omega) Kr.len l j x hj
  rw [Nat.mul_one] at e
  rw [List.length_set, ← e]
  exact h1
theorem Ext.keepCellM {W W' : World} {a : Addr} {v : Value} (h : Ext W W') (hc : W.cell? a = some v) : W'.cell? a = some v := by rw [h.cell (World.block_lt_of_cell? _ _ hc)]; exact hc
theorem cell_farM {W : World} {b i g o : Nat} {v : Value} (h : W.cell? ⟨b, i, none⟩ = some v) (hne : b ≠ g) (u : Value) : (W.setCell ⟨g, o, none⟩ u).cell? ⟨b, i, none⟩ = some v :=
  (World.cell?_of_block (w := W) (a := ⟨b, i, none⟩) (Below.heap_setCell W ⟨g, o, none⟩ u b hne)).trans h
/-- the copy that Mark has made -/
def MkRel (W5 : World) (v0 v2 : Value) (Ks : List Kr) (s6 : Value) (wx : World) : Prop :=
  ∃ g6 vK, s6 = .pointer (some ⟨g6, 0, none⟩) ∧ Ext W5 wx ∧ W5.heap.size ≤ g6 ∧ Blk wx g6 32 #[v0, vK, v2] ∧ wx.ownsRow W5.heap.size 28 1 vK Ks.length (Ks.flatMap Kr.cells)

set_option maxRecDepth 100000 in
set_option maxHeartbeats 6400000 in
theorem mark_pt (n N b : Nat) (p : Pt) (q : Nat) (w : World) (hM : PtMem w b p) (hO : PtOk n N p) (hb : b ≤ w.heap.size) (hq : q < n) (hn : n ≤ 4) (hN : N < 60) :
    Calls Try.prog 59 #[.agg #[.slice p.A0 p.Ls.length p.c0, .slice p.A1 p.Ks.length p.c1, p.v2], .int .i64 q] w (WithPost p n (N + 1) b w) := by
  obtain ⟨A2, c2, hv2, _, _, _⟩ := own_slice hM.a
  obtain ⟨A0, c0, Ls, A1, c1, Ks, v2, As⟩ := p
  dsimp only at hv2 ⊢
  subst hv2
  have HM := Lib.hid hM
  have HO := Lib.hid hO
  have hll : Ls.length = n := hO.ll
  have hkl : Ks.length = n := hO.kl
  have hlb := hO.lb q hq
  dsimp only at hlb
  have hs0 : IntSeg w A0 Ls := hM.l
  have hk0 : Seg w 1 A1 Ks.length (Ks.flatMap Kr.cells) := hM.k
  have hqK : q < Ks.length := by omega
  have hqL : q < Ls.length := by omega
  have hkb := hO.kb Ks[q] (List.getElem_mem hqK)
  have hkr := (hM.ks Ks[q] (List.getElem_mem hqK)).1
  have haw := hM.away (Nat.le_succ w.heap.size)
  clear hM hO
  have hB2 := Blk.new w 32 #[.slice A0 Ls.length c0, .slice A1 Ks.length c1, .slice A2 As.length c2]
  have hX4 := (Ext.refl w).allocs (.cells #[.slice A0 Ls.length c0, .slice A1 Ks.length c1, .slice A2 As.length c2] 32)
  obtain ⟨w1, hw1⟩ : ∃ w1, w.alloc (.cells #[.slice A0 Ls.length c0, .slice A1 Ks.length c1, .slice A2 As.length c2] 32) = w1 := ⟨_, rfl⟩
  have hz1 : w1.heap.size = w.heap.size + 1 := by rw [← hw1]; simp
  rw [hw1] at hX4 hB2
  have hB8 := Blk.new w1 32 #[.slice none 0 0, .slice none 0 0, .slice none 0 0]
  have hX8 := (Ext.refl w1).allocs (.cells #[.slice none 0 0, .slice none 0 0, .slice none 0 0] 32)
  obtain ⟨w2, hw2⟩ : ∃ w2, w1.alloc (.cells #[.slice none 0 0, .slice none 0 0, .slice none 0 0] 32) = w2 := ⟨_, rfl⟩
  rw [hw2] at hB8 hX8
  rw [hz1] at hB8
  have HW : Hid ((w.alloc (.cells #[.slice A0 Ls.length c0, .slice A1 Ks.length c1, .slice A2 As.length c2] 32)).alloc (.cells #[.slice none 0 0, .slice none 0 0, .slice none 0 0] 32) = w2) := by show _ = _; rw [hw1, hw2]
  have hX2 := hX4.trans hX8
  have hB22 := hB2.ext hX8
  clear hw1 hw2 hz1 hB2 hX4 hX8
  have hqI0 : (0 : Int) ≤ (q : Int) := by omega
  have hqI1 : (q : Int) < (Ls.length : Int) := by omega
  have hqI2 : (q : Int) < (Ks.length : Int) := by omega
  have HLL := Lib.hid hll
  have HKL := Lib.hid hkl
  have hLn : Ls.length ≤ 4 := by omega
  have hKn : Ks.length ≤ 4 := by omega
  clear hll hkl
  go_enter Try.func59, Try.ntmps59
  go_wp2_with fail
  rw [HW.out]
  refine (proc_any A0 Ls.length c0 (.slice A1 Ks.length c1) (.slice A2 As.length c2) q w2 hqI0 hqI1).mono ?_
  rintro e w5 ⟨rfl, hE5⟩
  have hX5 := hX2.trans hE5
  have hB25 := hB22.ext hE5
  have hB85 := hB8.ext hE5
  clear HW hX2 hB22 hB8 hE5
  obtain ⟨⟨p0, p1, p2⟩, _, _, _⟩ := blk3 hB25
  obtain ⟨bL, oL, rfl, pq⟩ := Iv.at_ (hs0.ext hX5) hqL
  rw [← elX_at hqL] at pq
  obtain ⟨bK, oK, rfl, pk⟩ := Kr.at_ (hk0.ext hX5) hqK
  have hkr5 := hkr.ext hX5
  obtain ⟨kr, hkrE⟩ : ∃ kr, Ks[q] = kr := ⟨_, rfl⟩
  have HKE := Lib.hid hkrE
  rw [hkrE] at hkb hkr hkr5 pk
  clear hkrE
  obtain ⟨kA, kc, kl⟩ := kr
  dsimp only at hkb hkr hkr5 pk
  obtain ⟨m, hm⟩ : ∃ m, kl.length = m + 1 := ⟨kl.length - 1, by omega⟩
  obtain ⟨bR, oR, rfl, plast⟩ := Iv.at_ hkr5 (show m < kl.length by omega)
  rw [← elX_at (show m < kl.length by omega)] at plast
  have hwl : IntKind.i64.wrap ((kl.length : Int) - 1) = (m : Int) := by rw [show (kl.length : Int) - 1 = (m : Int) by omega]; exact IntWalk.i64_in _ (by omega)
  have hm0 : (0 : Int) ≤ (m : Int) := by omega
  have hm1 : (m : Int) < (kl.length : Int) := by omega
  have HMM := Lib.hid hm
  clear hm
  go_upto_region 4 with fail
  by_cases heq : elX kl m = elX Ls q
  · have deq : (elX kl m == elX Ls q) = true := by simp [heq]
    clear heq
    go_quiet (fail)
    have hX6 := hX5.trans (Ext.drewn w5 nq)
    have hB26 := hB25.ext (Ext.drewn w5 nq)
    have hB86 := hB85.ext (Ext.drewn w5 nq)
    have HM6 := Lib.hid (HM.out.ext hX6)
    generalize w5.drewN nq = w6 at *
    clear p0 p1 p2 pq pk plast hB25 hB85 hX5
    obtain ⟨⟨x0, x1, x2⟩, _, _, _⟩ := blk3 hB26
    obtain ⟨⟨z0, z1, z2⟩, y0, y1, y2⟩ := blk3 hB86
    go_wp2_with fail
    refine bodyPost_ret (v := .agg #[.slice (some ⟨bL, oL, none⟩) Ls.length c0, .slice (some ⟨bK, oK, none⟩) Ks.length c1, .slice A2 As.length c2]) (by simp [results, Try.results59, go_sem, *]) rfl ?_
    have hE8 : Ext w (((w6.setCell ⟨w.heap.size + 1, 0, none⟩ (.slice (some ⟨bL, oL, none⟩) Ls.length c0)).setCell ⟨w.heap.size + 1, 1, none⟩ (.slice (some ⟨bK, oK, none⟩) Ks.length c1)).setCell ⟨w.heap.size + 1, 2, none⟩ (.slice A2 As.length c2)) := ((hX6.set (by omega) _).set (by omega) _).set (by omega) _
    exact ⟨⟨some ⟨bL, oL, none⟩, c0, Ls, some ⟨bK, oK, none⟩, c1, Ks, .slice A2 As.length c2, As⟩, rfl, HM6.out.put haw (grown_sets3 w6 (w.heap.size + 1) _ _ _), HO.out.mono (by omega), hE8, fun g _ h => h⟩
  · have deq : (elX kl m == elX Ls q) = false := by simp [heq]
    clear heq
    go_quiet (fail)
    have hX6 := hX5.trans (Ext.drewn w5 nq)
    have hB26 := hB25.ext (Ext.drewn w5 nq)
    have hB86 := hB85.ext (Ext.drewn w5 nq)
    have hk6 := hk0.ext hX6
    have hkr6 := hkr.ext hX6
    have hs06 := hs0.ext hX6
    generalize w5.drewN nq = w6 at *
    clear p0 p1 p2 pq pk plast hB25 hB85 hX5 hkr5 hk0 hkr hs0 hwl
    obtain ⟨⟨x0, x1, x2⟩, _, _, _⟩ := blk3 hB26
    have hx6 : Ext w6 w6 := Ext.refl w6
    go_upto_region 6 with fail
    go_cut [6] (fun s6 wx => MkRel w6 (.slice (some ⟨bL, oL, none⟩) Ls.length c0) (.slice A2 As.length c2) Ks s6 wx)
    case first =>
      go_region_held3 (fun w' => w'.cell? ⟨w.heap.size, 0, none⟩ = some (.slice (some ⟨bL, oL, none⟩) Ls.length c0) ∧ w'.cell? ⟨w.heap.size, 1, none⟩ = some (.slice (some ⟨bK, oK, none⟩) Ks.length c1) ∧ w'.cell? ⟨w.heap.size, 2, none⟩ = some (.slice A2 As.length c2))
        (first | (refine (blk3 (hB26.ext ?_)).1; (repeat (first | with_reducible exact hx6 | with_reducible exact hxK | with_reducible refine Below.drew ?_ | with_reducible refine Ext.allocs ?_ _ | with_reducible refine Ext.set ?_ (by omega) _))))
        (first
          | (refine step_append_seg (by rfl) _ _ _ (by rfl) w6.heap.size 28 1 24 (by omega) Try.underlying29 (by kernel_rfl) (.slice none 0 0) 0 [] (by rfl) (own_nilv _ _ _ _) (some ⟨bK, oK, none⟩) Ks.length c1 (Ks.flatMap Kr.cells) (by rfl) (hk6.ext (by repeat (first | with_reducible exact hx6 | with_reducible refine Below.drew ?_ | with_reducible refine Ext.allocs ?_ _))) (Kr.ones Ks) (by unfold maxLen; omega) (by omega) (Below.size (B := w6.heap.size) (w := w6) (by repeat (first | with_reducible exact hx6 | with_reducible refine Below.drew ?_ | with_reducible refine Ext.allocs ?_ _))) ?_; intro vK wK hownK hgK; have hEK := Ext.of_grown rfl hgK; rw [Nat.zero_add, List.nil_append] at hownK; obtain ⟨BK, cK, rfl, _, _, _⟩ := own_slice hownK; have hxK : Ext w6 wK := Ext.trans (by repeat (first | with_reducible exact hx6 | with_reducible refine Below.drew ?_ | with_reducible refine Ext.allocs ?_ _)) hEK; have hzK := hxK.size; (first | (have hB10 : Blk wK w6.heap.size 32 #[.slice none 0 0, .slice none 0 0, .slice none 0 0] := Blk.ext (Blk.new w6.drew 32 #[.slice none 0 0, .slice none 0 0, .slice none 0 0]) hEK; have hy10 := blk3 hB10; obtain ⟨⟨t0, t1, t2⟩, s0, s1, s2⟩ := hy10) | skip)))
      · go_wp2_with fail
        go_meet
        exact ⟨wK.heap.size, _, rfl, hxK.allocs _, hzK, Blk.new wK _ _, hownK.alloc _⟩
      · go_wp2_with fail
        go_meet
        exact ⟨w6.heap.size, _, rfl, ((hxK.set (Nat.le_refl _) _).set (Nat.le_refl _) _).set (Nat.le_refl _) _, Nat.le_refl _, hB10.sets3 _ _ _, hownK.kept (grown_sets3 _ _ _ _ _) (own_not hownK hB10 (by decide))⟩
    case rest =>
      obtain ⟨g6, vK, rfl, hE7, hg6, hB6, hK⟩ := hcut
      obtain ⟨gK, cK, hvK, hgK, hzK⟩ := hK.form (show 0 < Ks.length by omega)
      subst hvK
      have hngK : gK ≠ g6 := fun e => by
        rcases own_not hK hB6 (by decide) with h | h
        · cases h
        · exact h (by rw [e]; rfl)
      have hX7 := hX6.trans hE7
      have hB27 := hB26.ext hE7
      have hB87 := hB86.ext hE7
      have hkr7 := hkr6.ext hE7
      have hs07 := hs06.ext hE7
      obtain ⟨⟨q0, q1, q2⟩, _, _, _⟩ := blk3 hB27
      obtain ⟨⟨r0, r1, r2⟩, _, _, _⟩ := blk3 hB6
      obtain ⟨bL', oL', hbo, pL⟩ := Iv.at_ hs07 hqL
      injection hbo with hbo
      injection hbo with hbo1 hbo2
      subst hbo1 hbo2
      rw [← elX_at hqL] at pL
      have hg86 : w.heap.size + 1 < w6.heap.size := hB86.lt
      have hbLz : bL < w6.heap.size := hs06.under (show 0 < Ls.length by omega) _ rfl
      have hxc : Ext wc wc := Ext.refl wc
      have hzc := hE7.size
      clear hx6 x0 x1 x2 hB26 hB86 hk6 hkr6 hs06
      go_upto_region 7 with fail
      have hklb : kl.length ≤ 100 := by omega
      go_region_held3 (fun w' => w'.cell? ⟨g6, 1, none⟩ = some (.slice (some ⟨gK, 0, none⟩) Ks.length cK) ∧ w'.cell? ⟨w.heap.size, 0, none⟩ = some (.slice (some ⟨bL, oL, none⟩) Ls.length c0) ∧ w'.cell? ⟨bL, oL + q, none⟩ = some (.int .i64 (elX Ls q)))
        (first | (refine (fun (h : Ext wc _) => ⟨h.keepCellM r1, h.keepCellM q0, h.keepCellM pL⟩) ?_; (repeat (first | with_reducible exact hxc | with_reducible exact hxC | with_reducible exact hx9 | with_reducible refine Below.drew ?_ | with_reducible refine Ext.allocs ?_ _)); done) | (exact ⟨cell_farM (hx9.keepCellM r1) hngK.symm _, cell_farM (hx9.keepCellM q0) (by omega) _, cell_farM (hx9.keepCellM pL) (by omega) _⟩))
        (first
          | (refine step_append_seg (by rfl) _ _ _ (by rfl) wc.heap.size 3 1 8 (by omega) Try.underlying28 (by kernel_rfl) (.slice none 0 0) 0 [] (by rfl) (own_nilv _ _ _ _) (some ⟨bR, oR, none⟩) kl.length kc (kl.flatMap Iv) (by rfl) (hkr7.ext (by repeat (first | with_reducible exact hxc | with_reducible refine Below.drew ?_ | with_reducible refine Ext.allocs ?_ _))) (Iv.ones kl) (by unfold maxLen; omega) (by omega) (Below.size (B := wc.heap.size) (w := wc) (by repeat (first | with_reducible exact hxc | with_reducible refine Below.drew ?_ | with_reducible refine Ext.allocs ?_ _))) ?_; intro vC wC hownC hgC; have hEC := Ext.of_grown rfl hgC; rw [Nat.zero_add, List.nil_append] at hownC; obtain ⟨BC, cC, rfl, _, _, _⟩ := own_slice hownC; have hxC : Ext wc wC := Ext.trans (by repeat (first | with_reducible exact hxc | with_reducible refine Below.drew ?_ | with_reducible refine Ext.allocs ?_ _)) hEC; (first | (have hS1 : Seg wC 1 (some ⟨wc.heap.size, 0, none⟩) 1 [.int .i64 (elX Ls q)] := Seg.ext (Seg.ofBlk (Blk.new wc.drew 3 #[.int .i64 (elX Ls q)]) rfl) hEC) | skip))
          | (refine step_append_seg (by rfl) _ _ _ (by rfl) wc.heap.size 3 1 8 (by omega) Try.underlying28 (by kernel_rfl) (.slice BC kl.length cC) kl.length (kl.flatMap Iv) (by rfl) (hownC.alloc _) (some ⟨wC.heap.size, 0, none⟩) 1 1 [.int .i64 (elX Ls q)] (by rfl) (Seg.ofBlk (Blk.new wC 3 #[.int .i64 (elX Ls q)]) rfl) (Iv.one (elX Ls q)) (by unfold maxLen; omega) (by omega) (Nat.le_trans hxC.size ((Ext.refl wC).allocs _).size) ?_; intro v9 w9 hown9 hg9; have hx9 : Ext wc w9 := Ext.own (hxC.allocs _) (hownC.alloc _) (Nat.le_refl _) hg9; obtain ⟨B9, c9, rfl, _, hc91, hc92⟩ := own_slice hown9; have hK9 := own_ext hK hx9; have fK := hK9.frozenAt q; have cK9 := own_kr hK9 hqK)
          | (refine step_append_seg (by rfl) _ _ _ (by rfl) wc.heap.size 3 1 8 (by omega) Try.underlying28 (by kernel_rfl) (.slice BC kl.length cC) kl.length (kl.flatMap Iv) (by rfl) hownC (some ⟨wc.heap.size, 0, none⟩) 1 1 [.int .i64 (elX Ls q)] (by rfl) hS1 (Iv.one (elX Ls q)) (by unfold maxLen; omega) (by omega) hxC.size ?_; intro v9 w9 hown9 hg9; have hx9 : Ext wc w9 := Ext.own hxC hownC (Nat.le_refl _) hg9; obtain ⟨B9, c9, rfl, _, hc91, hc92⟩ := own_slice hown9; have hK9 := own_ext hK hx9; have fK := hK9.frozenAt q; have cK9 := own_kr hK9 hqK))
      all_goals
        have hown9' : w9.ownsRow wc.heap.size 3 1 (.slice B9 (kl.length + 1) c9) (kl ++ [elX Ls q]).length ((kl ++ [elX Ls q]).flatMap Iv) := by
          rw [List.length_append, List.flatMap_append]
          simpa [Iv] using hown9
        have hKa := own_storeK hK9 hqK ⟨B9, c9, kl ++ [elX Ls q]⟩
        have hlen9 : (kl ++ [elX Ls q]).length = kl.length + 1 := by simp
        dsimp only at hKa
        rw [hlen9] at hKa
        have hgS := grown_set1 w9 gK q (.slice B9 (kl.length + 1) c9)
        have hCa := own_keptc hown9' hgS hzK
        have hB6a : Blk (w9.setCell ⟨gK, q, none⟩ (.slice B9 (kl.length + 1) c9)) g6 32 #[.slice (some ⟨bL, oL, none⟩) Ls.length c0, .slice (some ⟨gK, 0, none⟩) Ks.length cK, .slice A2 As.length c2] := (Below.heap_setCell w9 ⟨gK, q, none⟩ _ g6 (fun e => hngK e.symm)).trans (hB6.ext hx9)
        have hB8a : Blk (w9.setCell ⟨gK, q, none⟩ (.slice B9 (kl.length + 1) c9)) (w.heap.size + 1) 32 #[.slice none 0 0, .slice none 0 0, .slice none 0 0] := (Below.heap_setCell w9 ⟨gK, q, none⟩ _ (w.heap.size + 1) (by show w.heap.size + 1 ≠ gK; omega)).trans (hB87.ext hx9)
        have hXa : Ext w (w9.setCell ⟨gK, q, none⟩ (.slice B9 (kl.length + 1) c9)) := (hX7.trans hx9).set (by have := hX6.size; omega) _
        obtain ⟨wz, hwz⟩ : ∃ wz, w9.setCell ⟨gK, q, none⟩ (.slice B9 (kl.length + 1) c9) = wz := ⟨_, rfl⟩
        rw [hwz] at hKa hCa hB6a hB8a hXa ⊢
        clear hwz hgS hown9 hg9 hown9' hK9 fK cK9 q0 q1 q2 r0 r1 r2 pL
        obtain ⟨⟨x0, x1, x2⟩, _, _, _⟩ := blk3 hB6a
        obtain ⟨⟨z0, z1, z2⟩, y0, y1, y2⟩ := blk3 hB8a
        have HKa := Lib.hid hKa
        have HCa := Lib.hid hCa
        have HLN := Lib.hid hlen9
        clear hKa hCa hlen9
        go_wp2_with fail
        refine bodyPost_ret (v := .agg #[.slice (some ⟨bL, oL, none⟩) Ls.length c0, .slice (some ⟨gK, 0, none⟩) Ks.length cK, .slice A2 As.length c2]) (by simp [results, Try.results59, go_sem, *]) rfl ?_
        have hE8 : Ext w (((wz.setCell ⟨w.heap.size + 1, 0, none⟩ (.slice (some ⟨bL, oL, none⟩) Ls.length c0)).setCell ⟨w.heap.size + 1, 1, none⟩ (.slice (some ⟨gK, 0, none⟩) Ks.length cK)).setCell ⟨w.heap.size + 1, 2, none⟩ (.slice A2 As.length c2)) := ((hXa.set (by omega) _).set (by omega) _).set (by omega) _
        have hks : ∀ r ∈ Ks.set q ⟨B9, c9, kl ++ [elX Ls q]⟩, r ∈ Ks ∨ r = ⟨B9, c9, kl ++ [elX Ls q]⟩ := fun r hr => by
          rcases List.mem_or_eq_of_mem_set hr with h | h
          · exact .inl h
          · exact .inr h
        have hz6 := hX6.size
        have hCs : IntSeg wz B9 (kl ++ [elX Ls q]) := by
          have := HCa.out
          rw [← HLN.out] at this
          exact Seg.of_own this
        have hCf : ∀ ad, B9 = some ad → wc.heap.size ≤ ad.block := fun ad e => (HCa.out.lt ad.block (by rw [e]; rfl)).1
        have hMz : PtMem wz b ⟨some ⟨bL, oL, none⟩, c0, Ls, some ⟨gK, 0, none⟩, cK, Ks.set q ⟨B9, c9, kl ++ [elX Ls q]⟩, .slice A2 As.length c2, As⟩ := by
          refine ⟨HM.out.l.ext hXa, HM.out.lf, HM.out.lc, ?_, fun ad e => ?_, fun r hr => ?_, own_ext HM.out.a hXa, fun g hg => ?_⟩
          · show Seg wz 1 (some ⟨gK, 0, none⟩) (Ks.set q _).length _
            have := HKa.out
            rw [List.length_set] at this ⊢
            exact Seg.of_own this
          · injection e with e
            subst e
            show b ≤ gK
            omega
          · rcases hks r hr with h | rfl
            · exact ⟨(HM.out.ks r h).1.ext hXa, (HM.out.ks r h).2⟩
            · exact ⟨hCs, fun ad e => by have := hCf ad e; omega⟩
          · have hgl : g < w.heap.size := (HM.out.a.lt g hg).2
            have h0 := HM.out.sp g hg
            refine ⟨h0.1, fun _ ad e => ?_, fun r hr hn0 ad e => ?_⟩
            · injection e with e
              subst e
              show gK ≠ g
              omega
            · rcases hks r hr with h | rfl
              · exact h0.2.2 r h hn0 ad e
              · have := hCf ad e; omega
        have haz : ∀ g, g < w6.heap.size → PtAway g ⟨some ⟨bL, oL, none⟩, c0, Ls, some ⟨bK, oK, none⟩, c1, Ks, .slice A2 As.length c2, As⟩ → PtAway g ⟨some ⟨bL, oL, none⟩, c0, Ls, some ⟨gK, 0, none⟩, cK, Ks.set q ⟨B9, c9, kl ++ [elX Ls q]⟩, .slice A2 As.length c2, As⟩ := fun g hg h => by
          refine ⟨h.l, fun _ ad e => ?_, fun r hr hn ad e => ?_, h.a⟩
          · injection e with e
            subst e
            show gK ≠ g
            omega
          · rcases hks r hr with h' | rfl
            · exact h.ks r h' hn ad e
            · have := hCf ad e; omega
        refine ⟨⟨some ⟨bL, oL, none⟩, c0, Ls, some ⟨gK, 0, none⟩, cK, Ks.set q ⟨B9, c9, kl ++ [elX Ls q]⟩, .slice A2 As.length c2, As⟩, by rw [List.length_set], hMz.put (haz _ hg86 haw) (grown_sets3 wz (w.heap.size + 1) _ _ _), ?_, hE8, fun g hg h => haz g (by omega) h⟩
        have ho := HO.out
        refine ⟨ho.ll, by show (Ks.set q _).length = n; rw [List.length_set]; exact HKL.out, fun r hr => by have := ho.lb r hr; dsimp only at this ⊢; omega, fun r hr => ?_, by have := ho.al; dsimp only at this ⊢; omega, ho.ab, ho.gd⟩
        rcases hks r hr with h | rfl
        · have := ho.kb r h; omega
        · show 0 < (kl ++ [elX Ls q]).length ∧ (kl ++ [elX Ls q]).length ≤ N + 1 + 1
          rw [HLN.out]; omega
end Go.Proofs.Ytcljdkjlfciacaa
