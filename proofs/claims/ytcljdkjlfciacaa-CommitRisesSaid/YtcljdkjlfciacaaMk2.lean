/- Append of the reference of chapter 16. No statement of the seat is proved here. -/
import Derived.Test.YtcljdkjlfciacaaMk1
import Derived.Deep.DeepCutAuto
import Derived.Deep.RegionLaw
namespace Go.Proofs.Ytcljdkjlfciacaa
open Go.RowKit
set_option linter.unusedVariables false

/-- what the copies read -/
structure AB (W5 : World) (g4 b : Nat) (A0 : Option Addr) (c0 : Nat) (Ls : List Int) (v1 : Value) (A2 : Option Addr) (c2 : Nat) (As : List Ar) (W : World) : Prop where
  x : Ext W5 W
  p5 : Blk W5 g4 32 #[.slice A0 Ls.length c0, v1, .slice A2 As.length c2]
  l5 : IntSeg W5 A0 Ls
  a5 : Seg W5 4 A2 As.length (As.flatMap Ar.cells)
  z5 : b ≤ W5.heap.size
section
variable {W5 W W' : World} {g4 b : Nat} {A0 : Option Addr} {c0 : Nat} {Ls : List Int} {v1 : Value} {A2 : Option Addr} {c2 : Nat} {As : List Ar}
theorem AB.l (h : AB W5 g4 b A0 c0 Ls v1 A2 c2 As W) : IntSeg W A0 Ls := h.l5.ext h.x
theorem AB.a (h : AB W5 g4 b A0 c0 Ls v1 A2 c2 As W) : Seg W 4 A2 As.length (As.flatMap Ar.cells) := h.a5.ext h.x
theorem AB.z (h : AB W5 g4 b A0 c0 Ls v1 A2 c2 As W) : b ≤ W.heap.size := Nat.le_trans h.z5 h.x.size
theorem AB.zz (h : AB W5 g4 b A0 c0 Ls v1 A2 c2 As W) : W5.heap.size ≤ W.heap.size := h.x.size
theorem AB.ext (h : AB W5 g4 b A0 c0 Ls v1 A2 c2 As W) (hE : Ext W W') : AB W5 g4 b A0 c0 Ls v1 A2 c2 As W' := ⟨h.x.trans hE, h.p5, h.l5, h.a5, h.z5⟩
theorem AB.alloc (h : AB W5 g4 b A0 c0 Ls v1 A2 c2 As W) (o : Obj) : AB W5 g4 b A0 c0 Ls v1 A2 c2 As (W.alloc o) := h.ext ((Ext.refl W).allocs o)
theorem AB.drew (h : AB W5 g4 b A0 c0 Ls v1 A2 c2 As W) : AB W5 g4 b A0 c0 Ls v1 A2 c2 As W.drew := h.ext (Below.drew (Ext.refl W))
theorem AB.set (h : AB W5 g4 b A0 c0 Ls v1 A2 c2 As W) {g o : Nat} (hg : W5.heap.size ≤ g) (v : Value) : AB W5 g4 b A0 c0 Ls v1 A2 c2 As (W.setCell ⟨g, o, none⟩ v) := ⟨h.x.set hg v, h.p5, h.l5, h.a5, h.z5⟩
theorem AB.keep (h : AB W5 g4 b A0 c0 Ls v1 A2 c2 As W) : W.cell? ⟨g4, 0, none⟩ = some (.slice A0 Ls.length c0) ∧ W.cell? ⟨g4, 1, none⟩ = some v1 ∧ W.cell? ⟨g4, 2, none⟩ = some (.slice A2 As.length c2) := (blk3 (h.p5.ext h.x)).1
theorem Blk.sets3 {w : World} {g : Nat} {t : TypeId} {a b c : Value} (h : Blk w g t #[a, b, c]) (x y z : Value) : Blk (((w.setCell ⟨g, 0, none⟩ x).setCell ⟨g, 1, none⟩ y).setCell ⟨g, 2, none⟩ z) g t #[x, y, z] := by
  unfold Blk at *
  simp [World.setCell, Array.getElem?_modify, h]
end
theorem Blk.set2of3 {w : World} {g : Nat} {t : TypeId} {a b c : Value} (h : Blk w g t #[a, b, c]) (z : Value) : Blk (w.setCell ⟨g, 2, none⟩ z) g t #[a, b, z] := by
  unfold Blk at *
  simp [World.setCell, Array.getElem?_modify, h]
theorem grown_set1 (w : World) (g o : Nat) (v : Value) : w.grownBy (w.setCell ⟨g, o, none⟩ v) (some g) :=
  ⟨rfl, rfl, rfl, by simp [World.setCell], fun k hk hne => Below.heap_setCell _ _ _ _ (fun e => hne (by rw [e]))⟩
theorem grown_sets3 (w : World) (g : Nat) (x y z : Value) : w.grownBy (((w.setCell ⟨g, 0, none⟩ x).setCell ⟨g, 1, none⟩ y).setCell ⟨g, 2, none⟩ z) (some g) :=
  grownBy_trans (grownBy_trans (grown_set1 _ _ _ _) (grown_set1 _ _ _ _)) (grown_set1 _ _ _ _)
theorem own_not {w : World} {base g : Nat} {e t : TypeId} {s n : Nat} {v : Value} {xs : List Value} {cs : Array Value} (h : w.ownsRow base e s v n xs) (hB : Blk w g t cs) (ht : t ≠ e) : v.ownBlock = none ∨ v.ownBlock ≠ some g := by
  rcases h.2 with ⟨rfl, _⟩ | ⟨g', cap, cur, rfl, _, hh, _⟩
  · exact .inl rfl
  · right
    intro e'
    simp only [Value.ownBlock, Option.some.injEq] at e'
    subst e'
    unfold Blk at hB
    rw [hh] at hB
    injection hB with hB
    injection hB with _ hB
    exact ht hB.symm
theorem own_below {w w' : World} {base g : Nat} {e : TypeId} {s n : Nat} {v : Value} {xs : List Value} (h : w.ownsRow base e s v n xs) (hg : w.grownBy w' (some g)) (hlt : g < base) : w'.ownsRow base e s v n xs := own_keptc h hg hlt
theorem own_int {w : World} {base : Nat} {v : Value} {l : List Int} (h : w.ownsRow base 3 1 v l.length (l.flatMap Iv)) {j : Nat} (hj : j < l.length) :
    ∃ g cap, v = .slice (some ⟨g, 0, none⟩) l.length cap ∧ base ≤ g ∧ g < w.heap.size ∧ w.cell? ⟨g, j, none⟩ = some (.int .i64 (elX l j)) ∧ w.frozen? ⟨g, j, none⟩ = false ∧ l.length ≤ cap ∧ cap ≤ maxLen := by
  have h' := h
  rcases h.2 with ⟨_, h0⟩ | ⟨g, cap, cur, rfl, hb, hh, hc, hm, _⟩
  · omega
  · refine ⟨g, cap, rfl, hb, (Array.getElem?_eq_some_iff.1 hh).1, ?_, h'.frozenAt j, hc, hm⟩
    have := flat_get Iv 1 Iv.len l j 0 l[j] (List.getElem?_eq_getElem hj) (by omega)
    rw [Nat.mul_one, Nat.add_zero] at this
    rw [h'.cellAt j (by omega), this, elX_at hj]
    rfl
theorem own_store1 {w : World} {base g cap : Nat} {l : List Int} (h : w.ownsRow base 3 1 (.slice (some ⟨g, 0, none⟩) l.length cap) l.length (l.flatMap Iv)) {j : Nat} (hj : j < l.length) (x : Int) :
    (w.setCell ⟨g, j, none⟩ (.int .i64 x)).ownsRow base 3 1 (.slice (some ⟨g, 0, none⟩) l.length cap) (l.set j x).length ((l.set j x).flatMap Iv) := by
  have h1 := (h.stored j (.int .i64 x)).1
  have e := setAll_flat Iv 1 (by omega) Iv.len l j x hj
  rw [Nat.mul_one] at e
  rw [List.length_set, ← e]
  exact h1
theorem own_nilv (w : World) (base : Nat) (e : TypeId) (s : Nat) : w.ownsRow base e s (.slice none 0 0) 0 [] := ⟨by simp, .inl ⟨rfl, rfl⟩⟩
/-- the copies that Append has made -/
def ApRel (W5 : World) (b : Nat) (Ls : List Int) (v1 : Value) (As : List Ar) (s10 : Value) (wx : World) : Prop :=
  ∃ g10 vL vA, s10 = .pointer (some ⟨g10, 0, none⟩) ∧ Ext W5 wx ∧ W5.heap.size ≤ g10 ∧ Blk wx g10 32 #[vL, v1, vA] ∧ wx.ownsRow W5.heap.size 3 1 vL Ls.length (Ls.flatMap Iv) ∧ wx.ownsRow W5.heap.size 86 4 vA As.length (As.flatMap Ar.cells)
def AppPost (p0 : Pt) (n N b : Nat) (w : World) (e : Ending) (w' : World) : Prop := ∃ p : Pt, e = .returned (.tuple #[.agg #[.slice p.A0 p.Ls.length p.c0, .slice p.A1 p.Ks.length p.c1, p.v2], .bool true]) ∧ PtMem w' b p ∧ PtOk n (N + 1) p ∧ Ext w w' ∧ ∀ g, g < w.heap.size → PtAway g p0 → PtAway g p

set_option maxRecDepth 100000 in
set_option maxHeartbeats 6400000 in
theorem append_pt (n N b : Nat) (p : Pt) (q : Nat) (fr sn : Int) (w : World) (hM : PtMem w b p) (hO : PtOk n N p) (hb : b ≤ w.heap.size) (hq : q < n) (hn : n ≤ 4) (hN : N < 60)
    (hcs : fr = -1 ∨ (0 ≤ fr ∧ fr < n ∧ fr ≠ q ∧ 0 ≤ sn ∧ sn ≤ elX p.Ls fr.toNat)) :
    Calls Try.prog 69 #[.agg #[.slice p.A0 p.Ls.length p.c0, .slice p.A1 p.Ks.length p.c1, p.v2], .int .i64 q, .int .i64 fr, .int .i64 sn] w (AppPost p n N b w) := by
  obtain ⟨A0, c0, Ls, A1, c1, Ks, v2, As⟩ := p
  dsimp only at hcs ⊢
  have HM := Lib.hid hM
  have HO := Lib.hid hO
  have hMa : w.ownsRow b 86 4 v2 As.length (As.flatMap Ar.cells) := hM.a
  obtain ⟨A2, c2, hv2, hs2, hc2, hm2⟩ := own_slice hMa
  have hll : Ls.length = n := hO.ll
  have hlb := hO.lb q hq
  have hal : As.length ≤ N := hO.al
  dsimp only at hlb
  subst hv2
  have hs0 : IntSeg w A0 Ls := hM.l
  clear hM hO
  -- the box of the pattern, and the result's
  have hB4 := Blk.new w 32 #[.slice A0 Ls.length c0, .slice A1 Ks.length c1, .slice A2 As.length c2]
  have hX4 := (Ext.refl w).allocs (.cells #[.slice A0 Ls.length c0, .slice A1 Ks.length c1, .slice A2 As.length c2] 32)
  obtain ⟨w1, hw1⟩ : ∃ w1, w.alloc (.cells #[.slice A0 Ls.length c0, .slice A1 Ks.length c1, .slice A2 As.length c2] 32) = w1 := ⟨_, rfl⟩
  have hz1 : w1.heap.size = w.heap.size + 1 := by rw [← hw1]; simp
  rw [hw1] at hB4 hX4
  have hB8 := Blk.new w1 32 #[.slice none 0 0, .slice none 0 0, .slice none 0 0]
  have hX8 := (Ext.refl w1).allocs (.cells #[.slice none 0 0, .slice none 0 0, .slice none 0 0] 32)
  obtain ⟨w2, hw2⟩ : ∃ w2, w1.alloc (.cells #[.slice none 0 0, .slice none 0 0, .slice none 0 0] 32) = w2 := ⟨_, rfl⟩
  rw [hw2] at hB8 hX8
  rw [hz1] at hB8
  have HW : Hid ((w.alloc (.cells #[.slice A0 Ls.length c0, .slice A1 Ks.length c1, .slice A2 As.length c2] 32)).alloc (.cells #[.slice none 0 0, .slice none 0 0, .slice none 0 0] 32) = w2) := by show _ = _; rw [hw1, hw2]
  have hX2 := hX4.trans hX8
  have hB4' := hB4.ext hX8
  clear hw1 hw2 hz1 hB4 hX4 hX8
  have hqI0 : (0 : Int) ≤ (q : Int) := by omega
  have hqI1 : (q : Int) < (Ls.length : Int) := by omega
  have HLL := Lib.hid hll
  have hLn : Ls.length ≤ 4 := by omega
  clear hll
  have d64 : decide ((64 : Int) ≤ elX Ls q) = false := decide_eq_false (by omega)
  have d64' : decide (elX Ls q < (64 : Int)) = true := decide_eq_true (by omega)
  go_enter Try.func69, Try.ntmps69
  go_wp2_with fail
  rw [HW.out]
  refine (proc_any A0 Ls.length c0 (.slice A1 Ks.length c1) (.slice A2 As.length c2) q w2 hqI0 hqI1).mono ?_
  rintro e w5 ⟨rfl, hE5⟩
  have hX5 := hX2.trans hE5
  have hB45 := hB4'.ext hE5
  have hB85 := hB8.ext hE5
  clear HW hX2 hB4' hB8 hE5
  obtain ⟨⟨p0, p1, p2⟩, _, _, _⟩ := blk3 hB45
  have hs05 := hs0.ext hX5
  obtain ⟨bL, oL, rfl, pq⟩ := Iv.at_ hs05 (show q < Ls.length by omega)
  rw [← elX_at (show q < Ls.length by omega)] at pq
  have hab : AB w5 w.heap.size b (some ⟨bL, oL, none⟩) c0 Ls (.slice A1 Ks.length c1) A2 c2 As w5 := ⟨Ext.refl _, hB45, hs05, hs2.ext hX5, Nat.le_trans hb hX5.size⟩
  go_upto_region 3 with fail
  go_cut [10] (fun s10 wx => ApRel w5 b Ls (.slice A1 Ks.length c1) As s10 wx)
  case first =>
    have hLb : Ls.length * 8 ≤ 140737488355328 := by omega
    have hAb : As.length * 32 ≤ 140737488355328 := by omega
    go_region_held3 (fun w' => w'.cell? ⟨w.heap.size, 0, none⟩ = some (.slice (some ⟨bL, oL, none⟩) Ls.length c0) ∧ w'.cell? ⟨w.heap.size, 1, none⟩ = some (.slice A1 Ks.length c1) ∧ w'.cell? ⟨w.heap.size, 2, none⟩ = some (.slice A2 As.length c2))
      (first | (refine AB.keep (b := b) (W5 := w5) (Ls := Ls) (As := As) ?_; (repeat (first | with_reducible refine AB.drew ?_ | with_reducible refine AB.alloc ?_ _ | with_reducible refine AB.set ?_ (by omega) _)); (first | with_reducible exact hab | with_reducible exact habL | with_reducible exact habA)))
      (first
        | (refine step_append_seg (by rfl) _ _ _ (by rfl) w5.heap.size 3 1 8 (by omega) Try.underlying28 (by kernel_rfl) (.slice none 0 0) 0 [] (by rfl) (own_nilv _ _ _ _) (some ⟨bL, oL, none⟩) Ls.length c0 (Ls.flatMap Iv) (by rfl) (AB.l (W5 := w5) (g4 := w.heap.size) (b := b) (v1 := .slice A1 Ks.length c1) (c0 := c0) (A2 := A2) (c2 := c2) (As := As) (by repeat (first | with_reducible exact hab | with_reducible exact habA | with_reducible refine AB.drew ?_ | with_reducible refine AB.alloc ?_ _))) (Iv.ones Ls) (by unfold maxLen; omega) (by omega) (AB.zz (W5 := w5) (b := b) (g4 := w.heap.size) (A0 := some ⟨bL, oL, none⟩) (Ls := Ls) (v1 := .slice A1 Ks.length c1) (c0 := c0) (A2 := A2) (c2 := c2) (As := As) (by repeat (first | with_reducible exact hab | with_reducible exact habA | with_reducible refine AB.drew ?_ | with_reducible refine AB.alloc ?_ _))) ?_; intro vL wL hownL hgL; have hEL := Ext.of_grown rfl hgL; rw [Nat.zero_add, List.nil_append] at hownL; obtain ⟨BL, cL, rfl, _, _, _⟩ := own_slice hownL;  (first | (have hB10 := Blk.ext hB10 hEL) | (have hB10 : Blk wL w5.heap.size 32 #[.slice none 0 0, .slice none 0 0, .slice none 0 0] := Blk.ext (Blk.new w5.drew 32 #[.slice none 0 0, .slice none 0 0, .slice none 0 0]) hEL) | (have hB10 := Blk.ext (Blk.new _ 32 #[.slice none 0 0, .slice none 0 0, .slice none 0 0]) hEL) | skip); (first | (have hx10 := blk3 hB10; obtain ⟨⟨x0, x1, x2⟩, y0, y1, y2⟩ := hx10) | skip); have habL : AB w5 w.heap.size b (some ⟨bL, oL, none⟩) c0 Ls (.slice A1 Ks.length c1) A2 c2 As wL := AB.ext (by repeat (first | with_reducible exact hab | with_reducible exact habA | with_reducible refine AB.drew ?_ | with_reducible refine AB.alloc ?_ _)) hEL; have hzL : w5.heap.size ≤ wL.heap.size := habL.x.size)
        | (refine step_append_seg (by rfl) _ _ _ (by rfl) w5.heap.size 86 4 32 (by omega) Try.underlying30 (by kernel_rfl) (.slice none 0 0) 0 [] (by rfl) (own_nilv _ _ _ _) A2 As.length c2 (As.flatMap Ar.cells) (by rfl) (AB.a (W5 := w5) (g4 := w.heap.size) (b := b) (v1 := .slice A1 Ks.length c1) (c0 := c0) (A0 := some ⟨bL, oL, none⟩) (Ls := Ls) (c2 := c2) (by repeat (first | with_reducible exact hab | with_reducible exact habL | with_reducible refine AB.drew ?_ | with_reducible refine AB.alloc ?_ _))) (Ar.ones As) (by unfold maxLen; omega) (by omega) (AB.zz (W5 := w5) (b := b) (g4 := w.heap.size) (A0 := some ⟨bL, oL, none⟩) (Ls := Ls) (v1 := .slice A1 Ks.length c1) (c0 := c0) (A2 := A2) (c2 := c2) (As := As) (by repeat (first | with_reducible exact hab | with_reducible exact habL | with_reducible refine AB.drew ?_ | with_reducible refine AB.alloc ?_ _))) ?_; intro vA wA hownA hgA; have hEA := Ext.of_grown rfl hgA; rw [Nat.zero_add, List.nil_append] at hownA; obtain ⟨BA, cA, rfl, _, _, _⟩ := own_slice hownA; (first | (have hownL2 := own_ext hownL hEA) | (have hownL2 := own_ext (hownL.alloc _) hEA) | skip); (first | (have hB10 := Blk.ext hB10 hEA) | (have hB10 : Blk wA w5.heap.size 32 #[.slice none 0 0, .slice none 0 0, .slice none 0 0] := Blk.ext (Blk.new w5.drew 32 #[.slice none 0 0, .slice none 0 0, .slice none 0 0]) hEA) | (have hB10 := Blk.ext (Blk.new _ 32 #[.slice none 0 0, .slice none 0 0, .slice none 0 0]) hEA) | skip); (first | (have hx10 := blk3 hB10; obtain ⟨⟨x0, x1, x2⟩, y0, y1, y2⟩ := hx10) | skip); have habA : AB w5 w.heap.size b (some ⟨bL, oL, none⟩) c0 Ls (.slice A1 Ks.length c1) A2 c2 As wA := AB.ext (by repeat (first | with_reducible exact hab | with_reducible exact habL | with_reducible refine AB.drew ?_ | with_reducible refine AB.alloc ?_ _)) hEA; have hzA : w5.heap.size ≤ wA.heap.size := habA.x.size))
    · go_wp2_with fail
      go_meet
      exact ⟨wA.heap.size, _, _, rfl, (habA.alloc _).x, hzA, Blk.new wA _ _, hownL2.alloc _, hownA.alloc _⟩
    · go_wp2_with fail
      go_meet
      exact ⟨wL.heap.size, _, _, rfl, (((habA.set hzL _).set hzL _).set hzL _).x, hzL, hB10.sets3 _ _ _, hownL2.kept (grown_sets3 _ _ _ _ _) (own_not hownL2 hB10 (by decide)), hownA.kept (grown_sets3 _ _ _ _ _) (own_not hownA hB10 (by decide))⟩
    · go_wp2_with fail
      go_meet
      exact ⟨w5.heap.size, _, _, rfl, (((habA.set (Nat.le_refl _) _).set (Nat.le_refl _) _).set (Nat.le_refl _) _).x, Nat.le_refl _, hB10.sets3 _ _ _, hownL2.kept (grown_sets3 _ _ _ _ _) (own_not hownL2 hB10 (by decide)), hownA.kept (grown_sets3 _ _ _ _ _) (own_not hownA hB10 (by decide))⟩
  case rest =>
    obtain ⟨g10, vL, vA, rfl, hE6, hg10, hB10, hL, hA⟩ := hcut
    obtain ⟨gL, cL, hvL, hbL, hzL, hcL, hfL, hcL1, hcL2⟩ := own_int hL (show q < Ls.length by omega)
    subst hvL
    obtain ⟨BA, cA, hvA, hsA, _, _⟩ := own_slice hA
    subst hvA
    have hngL : gL ≠ g10 := fun e => by
      rcases own_not hL hB10 (by decide) with h | h
      · cases h
      · exact h (by rw [e]; rfl)
    obtain ⟨⟨x0, x1, x2⟩, y0, y1, y2⟩ := blk3 hB10
    have hL7 := own_store1 hL (show q < Ls.length by omega) (elX Ls q + 1)
    have hA7 := hA.kept (grown_set1 wc gL q (.int .i64 (elX Ls q + 1))) (own_ne hA hL (by decide))
    have hB107 : Blk (wc.setCell ⟨gL, q, none⟩ (.int .i64 (elX Ls q + 1))) g10 32 #[.slice (some ⟨gL, 0, none⟩) Ls.length cL, .slice A1 Ks.length c1, .slice BA As.length cA] := (Below.heap_setCell wc ⟨gL, q, none⟩ _ g10 (fun e => hngL e.symm)).trans hB10
    have hE7 : Ext w5 (wc.setCell ⟨gL, q, none⟩ (.int .i64 (elX Ls q + 1))) := hE6.set hbL _
    have hup1 : (0 : Int) ≤ elX Ls q := hlb.1
    have hup2 : elX Ls q ≤ 60 := by omega
    go_upto_region 5 with fail
    obtain ⟨w7, hw7⟩ : ∃ w7, wc.setCell ⟨gL, q, none⟩ (.int .i64 (elX Ls q + 1)) = w7 := ⟨_, rfl⟩
    rw [hw7] at hL7 hA7 hB107 hE7 ⊢
    clear hw7
    have hX7 := hX5.trans hE7
    have hB87 := hB85.ext hE7
    have hB47 := hB45.ext hE7
    have hgL8 : w.heap.size + 1 < w5.heap.size := hB85.lt
    have hs07 := hs05.ext hE7
    have HUL : Hid ((Ls.set q (elX Ls q + 1)).length = Ls.length) := List.length_set
    have HEND : Hid (∀ W8 vA' As', W8.ownsRow w5.heap.size 3 1 (.slice (some ⟨gL, 0, none⟩) Ls.length cL) (upL Ls q).length ((upL Ls q).flatMap Iv) → W8.ownsRow w5.heap.size 86 4 vA' As'.length (As'.flatMap Ar.cells) → Ext w W8 → As'.length ≤ N + 1 → (∀ a ∈ As', okA (upL Ls q) n a) → PtGood (upL Ls q) As' →
        PtMem W8 b ⟨some ⟨gL, 0, none⟩, cL, upL Ls q, A1, c1, Ks, vA', As'⟩ ∧ PtOk n (N + 1) ⟨some ⟨gL, 0, none⟩, cL, upL Ls q, A1, c1, Ks, vA', As'⟩ ∧ ∀ g, g < w.heap.size → PtAway g ⟨some ⟨bL, oL, none⟩, c0, Ls, A1, c1, Ks, .slice A2 As.length c2, As⟩ → PtAway g ⟨some ⟨gL, 0, none⟩, cL, upL Ls q, A1, c1, Ks, vA', As'⟩) := fun W8 vA' As' h1 h2 h3 h4 h5 h6 => by
      have hul : (upL Ls q).length = Ls.length := List.length_set
      have hz5 : b ≤ w5.heap.size := Nat.le_trans hb hX5.size
      have hw := HM.out
      have ho := HO.out
      refine ⟨⟨?_, fun ad e => ?_, ⟨by show (upL Ls q).length ≤ cL; omega, hcL2⟩, hw.k.ext h3, hw.kf, fun r hr => ⟨(hw.ks r hr).1.ext h3, (hw.ks r hr).2⟩, own_base h2 hz5, ?_⟩, ⟨?_, ho.kl, fun r hr => ?_, fun r hr => ?_, h4, h5, h6⟩, fun g hg hw => ⟨fun _ ad e => ?_, hw.k, hw.ks, fun e => ?_⟩⟩
      · show Seg W8 1 (some ⟨gL, 0, none⟩) (upL Ls q).length _
        rw [hul] at h1 ⊢
        exact Seg.of_own h1
      · injection e with e
        subst e
        show b ≤ gL
        omega
      · have hne := own_ne h1 h2 (by decide)
        have hz0 := hX5.size
        intro g hg
        have hgl : w5.heap.size ≤ g := (h2.lt g hg).1
        refine ⟨fun _ ad e => ?_, fun hn0 ad e => ?_, fun r hr hn0 ad e => ?_⟩
        · injection e with e
          subst e
          show gL ≠ g
          rcases hne with h | h
          · cases h
          · intro e2; exact h (by rw [hg, ← e2]; rfl)
        · have := hw.k.under hn0 ad e; omega
        · have := (hw.ks r hr).1.under hn0 ad e; omega
      · show (upL Ls q).length = n
        rw [hul]; exact HLL.out
      · show 0 ≤ elX (upL Ls q) r ∧ elX (upL Ls q) r ≤ ((N + 1 : Nat) : Int)
        have := ho.lb r hr
        dsimp only at this
        rw [upL_at (by omega)]
        split
        · omega
        · omega
      · have := ho.kb r hr
        omega
      · injection e with e
        subst e
        have := hX5.size
        show gL ≠ g
        omega
      · have := (h2.lt g e).1
        have := hX5.size
        omega
    have HOKS : Hid (∀ a ∈ As, okA (upL Ls q) n a) := fun a ha => okA_up (HO.out.ab a ha) (show q < Ls.length by omega)
    clear hE6 hB10 hL hA hsA x0 x1 x2 y0 y1 y2 hcL hfL hs2
    rcases hcs with rfl | ⟨hf0, hf1, hfq, hs0', hs1'⟩
    · obtain ⟨⟨x0, x1, x2⟩, _, _, _⟩ := blk3 hB107
      obtain ⟨⟨z0, z1, z2⟩, y0, y1, y2⟩ := blk3 hB87
      go_wp2_with fail
      refine bodyPost_ret (v := .tuple #[.agg #[.slice (some ⟨gL, 0, none⟩) Ls.length cL, .slice A1 Ks.length c1, .slice BA As.length cA], .bool true]) (by simp [results, Try.results69, go_sem, *]) rfl ?_
      have hg8 := grown_sets3 w7 (w.heap.size + 1) (.slice (some ⟨gL, 0, none⟩) Ls.length cL) (.slice A1 Ks.length c1) (.slice BA As.length cA)
      have hE8 : Ext w (((w7.setCell ⟨w.heap.size + 1, 0, none⟩ (.slice (some ⟨gL, 0, none⟩) Ls.length cL)).setCell ⟨w.heap.size + 1, 1, none⟩ (.slice A1 Ks.length c1)).setCell ⟨w.heap.size + 1, 2, none⟩ (.slice BA As.length cA)) := ((hX7.set (by omega) _).set (by omega) _).set (by omega) _
      obtain ⟨m, o, aw⟩ := HEND.out _ (.slice BA As.length cA) As (own_below hL7 hg8 hgL8) (own_below hA7 hg8 hgL8) hE8 (by omega) HOKS.out (HO.out.gd.tick HO.out.ab HLL.out (show q < Ls.length by omega) hup1)
      exact ⟨⟨some ⟨gL, 0, none⟩, cL, upL Ls q, A1, c1, Ks, .slice BA As.length cA, As⟩, by rw [show (upL Ls q).length = Ls.length from List.length_set], m, o, hE8, aw⟩
    · have dm1 : (fr == -1) = false := by simp; omega
      have dfq : (fr == (q : Int)) = false := by simp [hfq]
      have HFQ := Lib.hid hfq
      have ds0 : decide (sn < 0) = false := decide_eq_false (by omega)
      have ds1 : decide (elX Ls fr.toNat < sn) = false := decide_eq_false (by omega)
      have d256 : decide ((256 : Int) ≤ (As.length : Int)) = false := decide_eq_false (by omega)
      have hfL : fr.toNat < Ls.length := by rw [HLL.out]; omega
      have hfI : fr < (Ls.length : Int) := by rw [HLL.out]; exact hf1
      obtain ⟨⟨x0, x1, x2⟩, _, _, _⟩ := blk3 hB47
      clear hfq
      go_wp2_with fail
      refine (proc_any (some ⟨bL, oL, none⟩) Ls.length c0 (.slice A1 Ks.length c1) (.slice A2 As.length c2) fr w7 hf0 hfI).mono ?_
      rintro e w8 ⟨rfl, hE8⟩
      clear x0 x1 x2
      have hB48 := hB47.ext hE8
      have hB108 := hB107.ext hE8
      have hB88 := hB87.ext hE8
      have hL8 := own_ext hL7 hE8
      have hA8 := own_ext hA7 hE8
      have hX8 := hX7.trans hE8
      have hF8 := hE7.trans hE8
      obtain ⟨⟨x0, x1, x2⟩, _, _, _⟩ := blk3 hB48
      obtain ⟨bL', oL', hbo, pf⟩ := Iv.at_ (hs07.ext hE8) hfL
      injection hbo with hbo
      injection hbo with hbo1 hbo2
      subst hbo1 hbo2
      rw [← elX_at hfL] at pf
      clear hE8 hB47 hB107 hB87 hL7 hA7 hX7 hE7 hs07
      go_upto_region 9 with fail
      clear x0 x1 x2 pf
      have hqs : q < (Ls.set q (elX Ls q + 1)).length := by rw [HUL.out]; omega
      have pq2 : w8.cell? ⟨gL, q, none⟩ = some (.int .i64 (elX Ls q + 1)) := by
        obtain ⟨g', cap', hv', _, _, hc', _⟩ := own_int hL8 hqs
        injection hv' with hv' _ _
        injection hv' with hv'
        injection hv' with hv' _
        subst hv'
        rw [hc', elX_set _ _ _ _ (show q < Ls.length by omega), if_pos rfl]
      obtain ⟨⟨x0, x1, x2⟩, y0, y1, y2⟩ := blk3 hB108
      have hN : Ext w8 (w8.alloc (.cells (Ar.cells ⟨fr, sn, (q : Int), elX Ls q + 1⟩).toArray 86)).drew := Below.drew ((Ext.refl w8).allocs _)
      have hAp := own_ext hA8 hN
      have hSp : Seg (w8.alloc (.cells (Ar.cells ⟨fr, sn, (q : Int), elX Ls q + 1⟩).toArray 86)).drew 4 (some ⟨w8.heap.size, 0, none⟩) 1 (Ar.cells ⟨fr, sn, (q : Int), elX Ls q + 1⟩) := (Seg.ofBlk (Blk.new w8 86 (Ar.cells ⟨fr, sn, (q : Int), elX Ls q + 1⟩).toArray) rfl).drew
      have hZp : w5.heap.size ≤ (w8.alloc (.cells (Ar.cells ⟨fr, sn, (q : Int), elX Ls q + 1⟩).toArray 86)).drew.heap.size := Nat.le_trans hF8.size hN.size
      have hBp := hB108.ext hN
      have hLp := own_ext hL8 hN
      have hnA : some g10 ≠ (Value.slice BA As.length cA).ownBlock := by
        rcases own_not hAp hBp (by decide) with h | h
        · rw [h]; simp
        · exact fun e => h e.symm
      have hnL := own_ne hLp hAp (by decide)
      have kk := (blk3 hBp).1
      unfold Ar.cells at kk
      obtain ⟨k0, k1, k2⟩ := kk
      go_region_law (first | (refine step_append_seg (by rfl) _ _ _ (by rfl) w5.heap.size 86 4 32 (by omega) Try.underlying30 (by kernel_rfl) (.slice BA As.length cA) As.length (As.flatMap Ar.cells) (by rfl) hAp (some ⟨w8.heap.size, 0, none⟩) 1 1 (Ar.cells ⟨fr, sn, (q : Int), elX Ls q + 1⟩) (by rfl) hSp (Ar.one _) (by unfold maxLen; omega) (by omega) hZp ?_; intro v9 w9 hown9 hg9; obtain ⟨B9, c9, rfl, _, _, _⟩ := own_slice hown9; have hB109 : Blk w9 g10 32 #[.slice (some ⟨gL, 0, none⟩) Ls.length cL, .slice A1 Ks.length c1, .slice BA As.length cA] := (hg9.block g10 hBp.lt hnA).trans hBp; obtain ⟨⟨m0, m1, m2⟩, y0, y1, y2⟩ := blk3 hB109))
      all_goals
        have hown9' : w9.ownsRow w5.heap.size 86 4 (.slice B9 (As.length + 1) c9) (As ++ [(⟨fr, sn, (q : Int), elX Ls q + 1⟩ : Ar)]).length ((As ++ [(⟨fr, sn, (q : Int), elX Ls q + 1⟩ : Ar)]).flatMap Ar.cells) := by
          rw [List.length_append, List.flatMap_append]
          simpa using hown9
        have hgS := grown_set1 w9 g10 2 (.slice B9 (As.length + 1) c9)
        have hA10 := hown9'.kept hgS (own_not hown9' hB109 (by decide))
        have hL9 := hLp.kept hg9 hnL
        have hL10 := hL9.kept hgS (own_not hL9 hB109 (by decide))
        have hB10f := hB109.set2of3 (.slice B9 (As.length + 1) c9)
        have hBA5 : ∀ r, (Value.slice BA As.length cA).ownBlock = some r → w5.heap.size ≤ r := fun r hr => (hAp.lt r hr).1
        have hB89 : Blk w9 (w.heap.size + 1) 32 #[.slice none 0 0, .slice none 0 0, .slice none 0 0] := (hg9.block (w.heap.size + 1) (hB88.ext hN).lt (fun e => absurd (hBA5 _ e.symm) (by omega))).trans (hB88.ext hN)
        have hB810 : Blk (w9.setCell ⟨g10, 2, none⟩ (.slice B9 (As.length + 1) c9)) (w.heap.size + 1) 32 #[.slice none 0 0, .slice none 0 0, .slice none 0 0] := (Below.heap_setCell w9 ⟨g10, 2, none⟩ _ (w.heap.size + 1) (by show w.heap.size + 1 ≠ g10; omega)).trans hB89
        have hX10 : Ext w (w9.setCell ⟨g10, 2, none⟩ (.slice B9 (As.length + 1) c9)) := (Ext.own (hX8.trans hN) hAp hX5.size hg9).set (by omega) _
        obtain ⟨wz, hwz⟩ : ∃ wz, w9.setCell ⟨g10, 2, none⟩ (.slice B9 (As.length + 1) c9) = wz := ⟨_, rfl⟩
        rw [hwz] at hA10 hL10 hB10f hB810 hX10 ⊢
        clear hwz hgS hown9 hg9 hB109 hB89 hL9 hown9' m0 m1 m2 y0 y1 y2 x0 x1 x2 k0 k1 k2 pq2
        obtain ⟨⟨x0, x1, x2⟩, _, _, _⟩ := blk3 hB10f
        obtain ⟨⟨z0, z1, z2⟩, y0, y1, y2⟩ := blk3 hB810
        go_wp2_with fail
        refine bodyPost_ret (v := .tuple #[.agg #[.slice (some ⟨gL, 0, none⟩) Ls.length cL, .slice A1 Ks.length c1, .slice B9 (As.length + 1) c9], .bool true]) (by simp [results, Try.results69, go_sem, *]) rfl ?_
        have hg8 := grown_sets3 wz (w.heap.size + 1) (.slice (some ⟨gL, 0, none⟩) Ls.length cL) (.slice A1 Ks.length c1) (.slice B9 (As.length + 1) c9)
        have hE8 : Ext w (((wz.setCell ⟨w.heap.size + 1, 0, none⟩ (.slice (some ⟨gL, 0, none⟩) Ls.length cL)).setCell ⟨w.heap.size + 1, 1, none⟩ (.slice A1 Ks.length c1)).setCell ⟨w.heap.size + 1, 2, none⟩ (.slice B9 (As.length + 1) c9)) := ((hX10.set (by omega) _).set (by omega) _).set (by omega) _
        obtain ⟨m, o, aw⟩ := HEND.out _ (.slice B9 (As.length + 1) c9) (As ++ [(⟨fr, sn, (q : Int), elX Ls q + 1⟩ : Ar)]) (own_below hL10 hg8 hgL8) (own_below hA10 hg8 hgL8) hE8 (by rw [List.length_append]; show As.length + 1 ≤ N + 1; omega) (fun a ha => by
          rcases List.mem_append.1 ha with h | h
          · exact HOKS.out a h
          · rw [List.mem_singleton] at h
            subst h
            have h1 := upL_le (Ls := Ls) (q := q) (r := fr.toNat) (by omega)
            have h2 := upL_at (Ls := Ls) (q := q) (r := q) (by omega)
            rw [if_pos rfl] at h2
            refine ⟨⟨hf0, hf1⟩, ⟨hqI0, by show (q : Int) < n; omega⟩, HFQ.out, ⟨hs0', by show sn ≤ elX (upL Ls q) fr.toNat; omega⟩, ⟨by show 0 ≤ elX Ls q + 1; omega, ?_⟩⟩
            show elX Ls q + 1 ≤ elX (upL Ls q) ((q : Int)).toNat
            rw [show ((q : Int)).toNat = q by omega, h2]
            exact Int.le_refl _) (HO.out.gd.arc HO.out.ab HLL.out (show q < Ls.length by omega) hf0 hf1 HFQ.out hs0' hs1' hup1)
        exact ⟨⟨some ⟨gL, 0, none⟩, cL, upL Ls q, A1, c1, Ks, .slice B9 (As.length + 1) c9, As ++ [(⟨fr, sn, (q : Int), elX Ls q + 1⟩ : Ar)]⟩, by rw [show (upL Ls q).length = Ls.length from List.length_set], m, o, hE8, aw⟩
end Go.Proofs.Ytcljdkjlfciacaa
