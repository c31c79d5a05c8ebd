/- with of the maker, Mark of the reference of chapter 16. No statement of the seat is proved here. -/
import Derived.Test.YtcljdkjlfciacaaMk2
namespace Go.Proofs.Ytcljdkjlfciacaa
open Go.RowKit
set_option linter.unusedVariables false

def WithPost (p0 : Pt) (n N b : Nat) (w : World) (e : Ending) (w' : World) : Prop := ∃ p : Pt, e = .returned (.agg #[.slice p.A0 p.Ls.length p.c0, .slice p.A1 p.Ks.length p.c1, p.v2]) ∧ PtMem w' b p ∧ PtOk n N p ∧ Ext w w' ∧ ∀ g, g < w.heap.size → PtAway g p0 → PtAway g p
set_option maxRecDepth 100000 in
set_option maxHeartbeats 1600000 in
theorem with_pt (n N b : Nat) (p : Pt) (q : Nat) (fr sn : Int) (w : World) (hM : PtMem w b p) (hO : PtOk n N p) (hb : b ≤ w.heap.size) (hq : q < n) (hn : n ≤ 4) (hN : N < 60)
    (hcs : fr = -1 ∨ (0 ≤ fr ∧ fr < n ∧ fr ≠ q ∧ 0 ≤ sn ∧ sn ≤ elX p.Ls fr.toNat)) :
    Calls Try.prog 60 #[.agg #[.slice p.A0 p.Ls.length p.c0, .slice p.A1 p.Ks.length p.c1, p.v2], .int .i64 q, .int .i64 fr, .int .i64 sn] w (WithPost p n (N + 1) b w) := by
  obtain ⟨A2, c2, hv2, _, _, _⟩ := own_slice hM.a
  obtain ⟨A0, c0, Ls, A1, c1, Ks, v2, As⟩ := p
  dsimp only at hv2 hcs ⊢
  subst hv2
  have HB4 := Blk.new w 32 #[.slice A0 Ls.length c0, .slice A1 Ks.length c1, .slice A2 As.length c2]
  have hX4 := (Ext.refl w).allocs (.cells #[.slice A0 Ls.length c0, .slice A1 Ks.length c1, .slice A2 As.length c2] 32)
  obtain ⟨w1, hw1⟩ : ∃ w1, w.alloc (.cells #[.slice A0 Ls.length c0, .slice A1 Ks.length c1, .slice A2 As.length c2] 32) = w1 := ⟨_, rfl⟩
  have hz1 : w1.heap.size = w.heap.size + 1 := by rw [← hw1]; simp
  rw [hw1] at hX4
  have hB8 := Blk.new w1 32 #[.slice none 0 0, .slice none 0 0, .slice none 0 0]
  have hX8 := (Ext.refl w1).allocs (.cells #[.slice none 0 0, .slice none 0 0, .slice none 0 0] 32)
  obtain ⟨w2, hw2⟩ : ∃ w2, w1.alloc (.cells #[.slice none 0 0, .slice none 0 0, .slice none 0 0] 32) = w2 := ⟨_, rfl⟩
  rw [hw2] at hB8 hX8
  rw [hz1] at hB8
  have HW : Hid ((w.alloc (.cells #[.slice A0 Ls.length c0, .slice A1 Ks.length c1, .slice A2 As.length c2] 32)).alloc (.cells #[.slice none 0 0, .slice none 0 0, .slice none 0 0] 32) = w2) := by show _ = _; rw [hw1, hw2]
  have hX2 := hX4.trans hX8
  have haw := hM.away (Nat.le_succ w.heap.size)
  have hzz : w.heap.size + 1 < w2.heap.size := hB8.lt
  have HA := Lib.hid (append_pt n N b ⟨A0, c0, Ls, A1, c1, Ks, .slice A2 As.length c2, As⟩ q fr sn w2 (hM.ext hX2) hO (Nat.le_trans hb hX2.size) hq hn hN hcs)
  clear hw1 hw2 hz1 HB4 hX4 hX8 hM hO hcs
  go_enter Try.func60, Try.ntmps60
  go_wp2_with fail
  rw [HW.out]
  refine HA.out.mono ?_
  rintro e w5 ⟨p', rfl, hM5, hO5, hE5, hW5⟩
  obtain ⟨A2', c2', hv2', _, _, _⟩ := own_slice hM5.a
  obtain ⟨A0', c0', Ls', A1', c1', Ks', v2', As'⟩ := p'
  dsimp only at hv2' ⊢
  subst hv2'
  have hX5 := hX2.trans hE5
  have hB85 := hB8.ext hE5
  have hX9 := (Ext.refl w5).allocs (.cells #[.slice A0' Ls'.length c0', .slice A1' Ks'.length c1', .slice A2' As'.length c2'] 32)
  have hB89 := hB85.ext hX9
  have HM9 := Lib.hid (hM5.ext hX9)
  have HAW := Lib.hid (hW5 (w.heap.size + 1) hzz haw)
  have HWW : Hid (∀ g, g < w.heap.size → PtAway g ⟨A0, c0, Ls, A1, c1, Ks, .slice A2 As.length c2, As⟩ → PtAway g ⟨A0', c0', Ls', A1', c1', Ks', .slice A2' As'.length c2', As'⟩) := fun g hg h => hW5 g (by omega) h
  clear hW5 haw
  have HO9 := Lib.hid hO5
  have hX10 := hX5.trans hX9
  have hb5 : w.heap.size + 1 < w5.heap.size := hB85.lt
  have hB9 := Blk.new w5 32 #[.slice A0' Ls'.length c0', .slice A1' Ks'.length c1', .slice A2' As'.length c2']
  clear hM5 hO5 hX2 hE5 hB8 hX9 HA HW hB85
  go_upto_region 2 with fail
  obtain ⟨g9, hg9⟩ : ∃ g9, w5.heap.size = g9 := ⟨_, rfl⟩
  obtain ⟨w9, hw9⟩ : ∃ w9, w5.alloc (.cells #[.slice A0' Ls'.length c0', .slice A1' Ks'.length c1', .slice A2' As'.length c2'] 32) = w9 := ⟨_, rfl⟩
  rw [hw9] at hB89 HM9 hX10 hB9 ⊢
  rw [hg9] at hB9 hb5 ⊢
  clear hw9 hg9
  obtain ⟨⟨z0, z1, z2⟩, y0, y1, y2⟩ := blk3 hB89
  obtain ⟨⟨x0, x1, x2⟩, _, _, _⟩ := blk3 hB9
  go_wp2_with fail
  refine bodyPost_ret (v := .agg #[.slice A0' Ls'.length c0', .slice A1' Ks'.length c1', .slice A2' As'.length c2']) (by simp [results, Try.results60, go_sem, *]) rfl ?_
  have hE8 : Ext w (((w9.setCell ⟨w.heap.size + 1, 0, none⟩ (.slice A0' Ls'.length c0')).setCell ⟨w.heap.size + 1, 1, none⟩ (.slice A1' Ks'.length c1')).setCell ⟨w.heap.size + 1, 2, none⟩ (.slice A2' As'.length c2')) := ((hX10.set (by omega) _).set (by omega) _).set (by omega) _
  exact ⟨⟨A0', c0', Ls', A1', c1', Ks', .slice A2' As'.length c2', As'⟩, rfl, HM9.out.put HAW.out (grown_sets3 w9 (w.heap.size + 1) _ _ _), HO9.out, hE8, HWW.out⟩
end Go.Proofs.Ytcljdkjlfciacaa
