/- Pattern of the maker. No statement of the seat is proved here. -/
import Derived.Test.YtcljdkjlfciacaaMk4
import Derived.Test.YtcljdkjlfciacaaSched
namespace Go.Proofs.Ytcljdkjlfciacaa
open Go.RowKit
set_option linter.unusedVariables false

def PatPost (c : Nat) (bs : List Int) (k most : Nat) (w : World) (e : Ending) (w' : World) : Prop :=
  ∃ (n : Nat) (p : Pt), 2 ≤ n ∧ n ≤ 4 ∧ e = .returned (.agg #[.slice p.A0 p.Ls.length p.c0, .slice p.A1 p.Ks.length p.c1, p.v2]) ∧ PtMem w' w.heap.size p ∧ PtOk n most p ∧ Drew c bs k w w'
/-- rows of checkpoints, each in a block of its own -/
def RowsB (W : World) (g6 : Nat) (Ks : List Kr) : Prop := ∀ r ∈ Ks, ∃ g, r.A = some ⟨g, 0, none⟩ ∧ g6 < g ∧ VecB W g r.l ∧ r.l.length = 1
/-- the pattern at its start: a checkpoint at 0 for each process -/
def P1 (n c : Nat) (bs : List Int) (k : Nat) (w : World) (g4 g6 gL : Nat) (g : Nat) (iv : Value) (wr : World) : Prop :=
  ∃ (q : Nat) (Ks : List Kr) (vK : Value), q ≤ n ∧ iv = .int .i64 q ∧ g = n - q ∧ Drew c bs k w wr ∧ g4 < wr.heap.size ∧ VecB wr gL (List.replicate n 0) ∧ Blk wr g4 32 #[.slice none 0 0, .slice none 0 0, .slice none 0 0] ∧ Blk wr g6 32 #[.slice (some ⟨gL, 0, none⟩) n n, vK, .slice none 0 0] ∧
    wr.ownsRow (g6 + 1) 28 1 vK Ks.length (Ks.flatMap Kr.cells) ∧ g6 + 1 ≤ wr.heap.size ∧ Hid (Ks.length = q ∧ RowsB wr g6 Ks)
/-- the pattern behind some rounds -/
structure PS (c : Nat) (bs : List Int) (k : Nat) (w : World) (n i g4 g6 : Nat) (p : Pt) (W : World) : Prop where
  d : Drew c bs k w W
  m : PtMem W w.heap.size p
  o : PtOk n i p
  a4 : PtAway g4 p
  a6 : PtAway g6 p
  b4 : Blk W g4 32 #[.slice none 0 0, .slice none 0 0, .slice none 0 0]
  b6 : Blk W g6 32 #[.slice p.A0 p.Ls.length p.c0, .slice p.A1 p.Ks.length p.c1, p.v2]
def P2 (c : Nat) (bs : List Int) (k : Nat) (w : World) (n most g4 g6 : Nat) (g : Nat) (iv : Value) (wr : World) : Prop := ∃ (i : Nat) (p : Pt), i ≤ most ∧ iv = .int .i64 i ∧ g = most - i ∧ PS c bs k w n i g4 g6 p wr
section
variable {c : Nat} {bs : List Int} {k : Nat} {w : World} {n i g4 g6 : Nat} {p : Pt} {W W' : World}
theorem PS.ext (h : PS c bs k w n i g4 g6 p W) (hE : Ext W W') : PS c bs k w n i g4 g6 p W' := ⟨h.d.post hE, h.m.ext hE, h.o, h.a4, h.a6, h.b4.ext hE, h.b6.ext hE⟩
theorem PS.drawn (h : PS c bs k w n i g4 g6 p W) (hg : W.grownBy W' (some c)) (hD : Drew c bs k w W') (hcl : c < w.heap.size) (h4 : c < g4) (h6 : c < g6) : PS c bs k w n i g4 g6 p W' :=
  ⟨hD, h.m.grown hg hcl, h.o, h.a4, h.a6, h.b4.grown hg h4, h.b6.grown hg h6⟩
theorem PS.mono (h : PS c bs k w n i g4 g6 p W) {j : Nat} (hj : i ≤ j) : PS c bs k w n j g4 g6 p W := ⟨h.d, h.m, h.o.mono hj, h.a4, h.a6, h.b4, h.b6⟩
/-- a new pattern is stored in its box -/
theorem PS.put {p' : Pt} {j : Nat} {cs : Value} {v0 v1 v2 : Value} (hd : Drew c bs k w W) (hm : PtMem W w.heap.size p') (ho : PtOk n j p') (h4 : PtAway g4 p') (h6 : PtAway g6 p') (b4 : Blk W g4 32 #[.slice none 0 0, .slice none 0 0, .slice none 0 0]) (b6 : Blk W g6 32 #[v0, v1, v2])
    (hcl : c < w.heap.size) (hw6 : w.heap.size ≤ g6) (h46 : g4 ≠ g6) :
    PS c bs k w n j g4 g6 p' (((W.setCell ⟨g6, 0, none⟩ (.slice p'.A0 p'.Ls.length p'.c0)).setCell ⟨g6, 1, none⟩ (.slice p'.A1 p'.Ks.length p'.c1)).setCell ⟨g6, 2, none⟩ p'.v2) :=
  ⟨((hd.set hw6 hcl _).set hw6 hcl _).set hw6 hcl _, hm.put h6 (grown_sets3 W g6 _ _ _), ho, h4, h6, ((grown_sets3 W g6 _ _ _).block g4 b4.lt (fun e => h46 (by injection e))).trans b4, b6.sets3 _ _ _⟩
end
/-- 'append(v, x)' in a region that draws its order; where the row lies behind it -/
theorem step_push_lies {P : Program} {α : Type} (f : α → List Value) (s bytes : Nat) (hf : ∀ a, (f a).length = s) (h1 : ∀ a, ∀ u ∈ f a, u.oneCell' = true) (hs0 : 0 < s)
    {w : World} {ops : Array Oper} {o : Oper} {a : Act} {K : Act → World → Prop} {Q : Exit → Act → World → Prop} {E : Prop} (hgd : o.guard = none) (so xo : Operand) (t : TypeId)
    (ho : o.op = .call { callee := .builtin .append, args := #[so, xo], argTypes := #[t, t] })
    (base : Nat) (e : TypeId) (ht : P.underlying t = some (.slice e)) (hinfo : elemOf P e = some (s, s, bytes))
    (v : Value) (l : List α) (x : α) (gx : Nat) (hso : a.eval so = v) (hown : w.ownsRow base e s v l.length (l.flatMap f)) (hxo : a.eval xo = .slice (some ⟨gx, 0, none⟩) 1 1) (hseg : Seg w s (some ⟨gx, 0, none⟩) 1 (f x))
    (h63 : l.length + 1 ≤ maxLen) (hbytes : (l.length + 1) * bytes ≤ 140737488355328) (hbase : base ≤ w.heap.size)
    (h : ∀ g cap w', w'.ownsRow base e s (.slice (some ⟨g, 0, none⟩) (l.length + 1) cap) (l ++ [x]).length ((l ++ [x]).flatMap f) → w.grownBy w' v.ownBlock → (v.ownBlock = some g ∨ g = w.heap.size) → K (a.put o.dst (.slice (some ⟨g, 0, none⟩) (l.length + 1) cap)) w') :
    if Region.wanted o (yielded ops a.tmps) = true then Oper.wp P o a w K Q else E := by
  obtain ⟨i, z, hi, hz, hsz, hby, hzs⟩ := elemOf_some hinfo
  refine step_append_lies w hgd so xo t ho base e i z s bytes ht hi hz hsz hby hzs hs0 v l.length (l.flatMap f) hso hown ⟨gx, 0, none⟩ 1 1 (f x) hxo (by rw [hf]; omega) ?_ (h1 x) (by omega) h63 hbytes hbase w.heap.size rfl ?_
  · intro j u hu
    obtain ⟨b, off, hA, _, hc⟩ := hseg.2 (by omega)
    injection hA with hA
    injection hA with hA1 hA2
    subst hA1 hA2
    have ha : (⟨gx, 0, none⟩ : Addr).add j = ⟨gx, 0 + j, none⟩ := by unfold Addr.add; split <;> simp_all
    rw [ha]
    exact hc j u hu
  · intro g cap w' h2 h3 h4 _
    refine h g cap w' ?_ h3 h4
    rw [List.flatMap_append, List.length_append]
    simpa using h2
theorem RowsB.grown {W W' : World} {g6 : Nat} {Ks : List Kr} {base : Nat} {v : Value} {s m : Nat} {xs : List Value} (h : RowsB W g6 Ks) (ho : W.ownsRow base 28 s v m xs) (hg : W.grownBy W' v.ownBlock) : RowsB W' g6 Ks := fun r hr => by
  obtain ⟨g, hA, hlt, hB, hl⟩ := h r hr
  refine ⟨g, hA, hlt, (hg.block g hB.lt (fun e => ?_)).trans hB, hl⟩
  rcases own_not ho hB (by decide) with h | h
  · rw [h] at e; cases e
  · exact h e.symm
theorem RowsB.set {W : World} {g6 o : Nat} {Ks : List Kr} (h : RowsB W g6 Ks) (v : Value) : RowsB (W.setCell ⟨g6, o, none⟩ v) g6 Ks := fun r hr => by
  obtain ⟨g, hA, hlt, hB, hl⟩ := h r hr
  exact ⟨g, hA, hlt, (Below.heap_setCell W ⟨g6, o, none⟩ v g (by show g ≠ g6; omega)).trans hB, hl⟩
theorem RowsB.ext {W W' : World} {g6 : Nat} {Ks : List Kr} (h : RowsB W g6 Ks) (hE : Ext W W') : RowsB W' g6 Ks := fun r hr => by
  obtain ⟨g, hA, hlt, hB, hl⟩ := h r hr
  exact ⟨g, hA, hlt, hB.ext hE, hl⟩
theorem Blk.trans' {w w' : World} {g g' : Nat} {t : TypeId} {cs : Array Value} (h : Blk w g t cs) (hg : w.grownBy w' (some g')) (hne : g ≠ g') : Blk w' g t cs := (hg.block g h.lt (fun e => hne (by injection e))).trans h
theorem Blk.set1of3 {w : World} {g : Nat} {t : TypeId} {a b c : Value} (h : Blk w g t #[a, b, c]) (z : Value) : Blk (w.setCell ⟨g, 1, none⟩ z) g t #[a, z, c] := by
  unfold Blk at *
  simp [World.setCell, Array.getElem?_modify, h]
/-- the pattern's start -/
theorem ps_start {c : Nat} {bs : List Int} {k : Nat} {w W : World} {n g4 g6 gL : Nat} {Ks : List Kr} {BK : Option Addr} {cK : Nat} (hd : Drew c bs k w W) (hV : VecB W gL (List.replicate n 0)) (b4 : Blk W g4 32 #[.slice none 0 0, .slice none 0 0, .slice none 0 0])
    (b6 : Blk W g6 32 #[.slice (some ⟨gL, 0, none⟩) n n, .slice BK Ks.length cK, .slice none 0 0]) (hK : W.ownsRow (g6 + 1) 28 1 (.slice BK Ks.length cK) Ks.length (Ks.flatMap Kr.cells)) (hl : Ks.length = n) (hR : RowsB W g6 Ks) (hn : n ≤ 4)
    (h4 : w.heap.size ≤ g4) (h4L : g4 < gL) (hL6 : gL < g6) : PS c bs k w n 0 g4 g6 ⟨some ⟨gL, 0, none⟩, n, List.replicate n 0, BK, cK, Ks, .slice none 0 0, []⟩ W := by
  have hBK : ∀ ad, BK = some ad → g6 + 1 ≤ ad.block := fun ad e => (hK.lt ad.block (by rw [e]; rfl)).1
  have hrl : (List.replicate n (0 : Int)).length = n := List.length_replicate
  refine ⟨hd, ⟨hV.seg, fun ad e => ?_, ⟨Nat.le_of_eq hrl, (by show n ≤ maxLen; unfold maxLen; omega)⟩, Seg.of_own hK, fun ad e => ?_, fun r hr => ?_, own_nilv _ _ _ _, fun g hg => by cases hg⟩, ⟨hrl, hl, fun q hq => ?_, fun r hr => ?_, Nat.zero_le _, fun a ha => (by cases ha), fun q hq k' h0 h1 => ?_⟩, ⟨fun _ ad e => ?_, fun _ ad e => ?_, fun r hr _ ad e => ?_, fun e => by cases e⟩, ⟨fun _ ad e => ?_, fun _ ad e => ?_, fun r hr _ ad e => ?_, fun e => by cases e⟩, b4, ?_⟩
  · injection e with e; subst e; show w.heap.size ≤ gL; omega
  · have := hBK ad e; omega
  · obtain ⟨g, hA, hlt, hB, _⟩ := hR r hr
    rw [hA]
    refine ⟨hB.seg, fun ad e => ?_⟩
    injection e with e; subst e; show w.heap.size ≤ g; omega
  · show 0 ≤ elX (List.replicate n 0) q ∧ elX (List.replicate n 0) q ≤ ((0 : Nat) : Int)
    rw [elX_rep]; exact ⟨Int.le_refl _, Int.le_refl _⟩
  · obtain ⟨g, _, _, _, hl1⟩ := hR r hr
    omega
  · dsimp only at h1
    rw [elX_rep] at h1
    refine ⟨fun _ => 0, (by show (0 : Int) = k'; omega), fun r hr => ?_, fun a ha => by cases ha⟩
    dsimp only
    rw [elX_rep]; exact ⟨Int.le_refl _, Int.le_refl _⟩
  · injection e with e; subst e; show gL ≠ g4; omega
  · have := hBK ad e; omega
  · obtain ⟨g, hA, hlt, hB, _⟩ := hR r hr
    rw [hA] at e; injection e with e; subst e; show g ≠ g4; omega
  · injection e with e; subst e; show gL ≠ g6; omega
  · have := hBK ad e; omega
  · obtain ⟨g, hA, hlt, hB, _⟩ := hR r hr
    rw [hA] at e; injection e with e; subst e; show g ≠ g6; omega
  · rw [hrl]; exact b6

/-- an arc has been appended, and is stored in the box -/
theorem arc_pushed {c : Nat} {bs : List Int} {k : Nat} {w : World} {n i g4 g6 : Nat} {A0 A1 A2 : Option Addr} {c0 c1 c2 : Nat} {Ls : List Int} {Ks : List Kr} {As : List Ar} {W W9 : World} {a : Ar} {g9 c9 : Nat}
    (h : PS c bs k w n i g4 g6 ⟨A0, c0, Ls, A1, c1, Ks, .slice A2 As.length c2, As⟩ W) (hown : W9.ownsRow w.heap.size 86 4 (.slice (some ⟨g9, 0, none⟩) (As.length + 1) c9) (As ++ [a]).length ((As ++ [a]).flatMap Ar.cells))
    (hg : W.grownBy W9 (Value.slice A2 As.length c2).ownBlock) (hd : (Value.slice A2 As.length c2).ownBlock = some g9 ∨ g9 = W.heap.size) (hcl : c < w.heap.size) (hw6 : w.heap.size ≤ g6) (h46 : g4 ≠ g6) (hok : okA Ls n a) (hz : a.at_ = 0) :
    Blk W9 g6 32 #[.slice A0 Ls.length c0, .slice A1 Ks.length c1, .slice A2 As.length c2] ∧ PS c bs k w n (i + 1) g4 g6 ⟨A0, c0, Ls, A1, c1, Ks, .slice (some ⟨g9, 0, none⟩) (As ++ [a]).length c9, As ++ [a]⟩ (W9.setCell ⟨g6, 2, none⟩ (.slice (some ⟨g9, 0, none⟩) (As.length + 1) c9)) := by
  have ha := h.m.a
  dsimp only at ha
  have hb4 : Blk W9 g4 32 #[.slice none 0 0, .slice none 0 0, .slice none 0 0] := (hg.block g4 h.b4.lt (fun e => by
    rcases own_not ha h.b4 (by decide) with h | h
    · rw [h] at e; cases e
    · exact h e.symm)).trans h.b4
  have hb6 : Blk W9 g6 32 #[.slice A0 Ls.length c0, .slice A1 Ks.length c1, .slice A2 As.length c2] := (hg.block g6 h.b6.lt (fun e => by
    rcases own_not ha h.b6 (by decide) with h | h
    · rw [h] at e; cases e
    · exact h e.symm)).trans h.b6
  have hlen : (As ++ [a]).length = As.length + 1 := by simp
  have hg1 := grown_set1 W9 g6 2 (.slice (some ⟨g9, 0, none⟩) (As.length + 1) c9)
  have hn4 : g4 ≠ g9 := fun e => by
    rcases own_not hown hb4 (by decide) with h | h
    · cases h
    · exact h (by rw [e]; rfl)
  have hn6 : g6 ≠ g9 := fun e => by
    rcases own_not hown hb6 (by decide) with h | h
    · cases h
    · exact h (by rw [e]; rfl)
  have hsp : PtSep ⟨A0, c0, Ls, A1, c1, Ks, .slice (some ⟨g9, 0, none⟩) (As ++ [a]).length c9, As ++ [a]⟩ := fun g e => by
    have e : g9 = g := by injection e
    subst e
    rcases hd with hd | hd
    · exact h.m.sp g9 hd
    · exact ⟨fun hn ad e => by have := h.m.l.under hn ad e; omega, fun hn ad e => by have := h.m.k.under hn ad e; omega, fun r hr hn ad e => by have := (h.m.ks r hr).1.under hn ad e; omega⟩
  have hm9 : PtMem W9 w.heap.size ⟨A0, c0, Ls, A1, c1, Ks, .slice (some ⟨g9, 0, none⟩) (As ++ [a]).length c9, As ++ [a]⟩ :=
    ⟨h.m.l.grown hg (fun hn ad e e' => (h.m.sp _ e'.symm).1 hn ad e rfl), h.m.lf, h.m.lc, h.m.k.grown hg (fun hn ad e e' => (h.m.sp _ e'.symm).2.1 hn ad e rfl), h.m.kf, fun r hr => ⟨(h.m.ks r hr).1.grown hg (fun hn ad e e' => (h.m.sp _ e'.symm).2.2 r hr hn ad e rfl), (h.m.ks r hr).2⟩, (by rw [hlen] at hown ⊢; exact hown), hsp⟩
  have h4 : PtAway g4 ⟨A0, c0, Ls, A1, c1, Ks, .slice (some ⟨g9, 0, none⟩) (As ++ [a]).length c9, As ++ [a]⟩ := ⟨h.a4.l, h.a4.k, h.a4.ks, fun e => by injection e with e; exact hn4 e.symm⟩
  have h6 : PtAway g6 ⟨A0, c0, Ls, A1, c1, Ks, .slice (some ⟨g9, 0, none⟩) (As ++ [a]).length c9, As ++ [a]⟩ := ⟨h.a6.l, h.a6.k, h.a6.ks, fun e => by injection e with e; exact hn6 e.symm⟩
  refine ⟨hb6, ((h.d.grown hg (fun r hr => (ha.lt r hr).1) hcl).set hw6 hcl _), hm9.put h6 hg1, ?_, h4, h6, hb4.trans' hg1 h46, ?_⟩
  · have ho := h.o
    refine ⟨ho.ll, ho.kl, fun r hr => by have := ho.lb r hr; dsimp only at this ⊢; omega, fun r hr => by have := ho.kb r hr; omega, ?_, fun x hx => ?_, ho.gd.sub fun x hx hp => ?_⟩
    · show (As ++ [a]).length ≤ i + 1
      have := ho.al
      dsimp only at this
      omega
    · rcases List.mem_append.1 hx with h | h
      · exact ho.ab x h
      · rw [List.mem_singleton] at h
        subst h
        exact hok
    · rcases List.mem_append.1 hx with h | h
      · exact h
      · rw [List.mem_singleton] at h
        subst h
        omega
  · rw [hlen]
    exact hb6.set2of3 _

set_option maxRecDepth 100000 in
set_option maxHeartbeats 6400000 in
theorem pattern_any (c : Nat) (bs : List Int) (k : Nat) (w : World) (h : Codes w c bs k) (most : Nat) (hm : most ≤ 24) :
    Calls Try.prog 46 #[.pointer (some ⟨c, 0, none⟩), .int .i64 most] w (PatPost c bs k most w) := by
  have hcl := h.lt
  have hX4 := (Ext.refl w).allocs (.cells #[.slice none 0 0, .slice none 0 0, .slice none 0 0] 32)
  have hB4 := Blk.new w 32 #[.slice none 0 0, .slice none 0 0, .slice none 0 0]
  go_enter Try.func46, Try.ntmps46
  go_wp2_with fail
  refine (next_any' c bs k _ (h.ext hX4) 3 (by omega) (by omega)).mono ?_
  rintro e w1 ⟨r1, rfl, ⟨hr10, hr11⟩, hD0⟩
  have hB41 := hB4.grown hD0.1 hcl
  have hD1 := hD0.pre hX4
  clear hD0 hB4 hX4 h
  obtain ⟨g4, hg4⟩ : ∃ g4, w.heap.size = g4 := ⟨_, rfl⟩
  have hg4' : w.heap.size ≤ g4 := by omega
  rw [hg4] at hB41
  obtain ⟨n, hn⟩ : ∃ n : Nat, 2 + r1 = n := ⟨(2 + r1).toNat, by omega⟩
  have hn2 : 2 ≤ n := by omega
  have hn4 : n ≤ 4 := by omega
  have HN := Lib.hid hn
  have hw1 : IntKind.i64.wrap (2 + r1) = (n : Int) := by rw [hn]; exact IntWalk.i64_in _ (by omega)
  have hmk := mk_ints n (by omega) w1
  clear hn
  go_upto_region 2 with fail
  have hv2 : VecB (w1.alloc (.cells ((List.replicate n (0 : Int)).flatMap Iv).toArray 3)) w1.heap.size (List.replicate n 0) := Blk.new w1 _ _
  have hX2 := (Ext.refl w1).allocs (.cells ((List.replicate n (0 : Int)).flatMap Iv).toArray 3)
  obtain ⟨gL, hgL⟩ : ∃ gL, w1.heap.size = gL := ⟨_, rfl⟩
  have hgL0 : w.heap.size ≤ gL := by rw [← hgL]; exact hD1.1.size
  obtain ⟨w2, hw2⟩ : ∃ w2, w1.alloc (.cells ((List.replicate n (0 : Int)).flatMap Iv).toArray 3) = w2 := ⟨_, rfl⟩
  have hz2 : w2.heap.size = gL + 1 := by rw [← hw2, ← hgL]; simp
  rw [hw2] at hmk hv2 hX2
  rw [hgL] at hmk hv2
  clear hw2
  have hX3 := (Ext.refl w2).allocs (.cells #[.slice (some ⟨gL, 0, none⟩) n n, .slice none 0 0, .slice none 0 0] 32)
  have hB6 : Blk (w2.alloc (.cells #[.slice (some ⟨gL, 0, none⟩) n n, .slice none 0 0, .slice none 0 0] 32)) (gL + 1) 32 #[.slice (some ⟨gL, 0, none⟩) n n, .slice none 0 0, .slice none 0 0] := by rw [← hz2]; exact Blk.new w2 _ _
  go_upto_region 4 with fail
  try rw [hz2]
  obtain ⟨w3, hw3⟩ : ∃ w3, w2.alloc (.cells #[.slice (some ⟨gL, 0, none⟩) n n, .slice none 0 0, .slice none 0 0] 32) = w3 := ⟨_, rfl⟩
  rw [hw3] at hX3 hB6 ⊢
  have HD3 := Lib.hid (hD1.post (hX2.trans hX3))
  have HV3 : Hid (VecB w3 gL (List.replicate n 0)) := hv2.ext hX3
  have HB43 := Lib.hid ((hB41.ext hX2).ext hX3)
  have HB63 := Lib.hid hB6
  have hz3 : gL + 2 ≤ w3.heap.size := by rw [← hw3]; simp; omega
  have hg43 : g4 < w3.heap.size := HB43.out.lt
  have hg4L : g4 < gL := by have := hB41.lt; omega
  clear hw3 hX3 hB6 hX2 hv2 hmk hB41 hD1 hz2 hgL hw1 HN
  obtain ⟨g6, hg6⟩ : ∃ g6, gL + 1 = g6 := ⟨_, rfl⟩
  rw [hg6] at HB63 ⊢
  have hz3' : g6 + 1 ≤ w3.heap.size := by omega
  have hgL6 : gL < g6 := by omega
  have hc4 : c < g4 := by omega
  have hc6 : c < g6 := by omega
  have hw6 : w.heap.size ≤ g6 := by omega
  have h46 : g4 ≠ g6 := by omega
  clear hg6 hz3
  go_loopg [7] n (fun g iv wr => P1 n c bs k w g4 g6 gL g iv wr)
  case atStart => exact ⟨0, [], .slice none 0 0, Nat.zero_le _, rfl, rfl, HD3.out, hg43, HV3.out, HB43.out, HB63.out, own_nilv _ _ _ _, hz3', (⟨rfl, fun r hr => by cases hr⟩ : _ ∧ _)⟩
  case round =>
    clear HD3 HV3 HB43 HB63 hg43 hz3'
    obtain ⟨q, Ks, vK, hq, rfl, rfl, hD, hg4z, hV, hB4, hB6, hK, hzr, HK⟩ := hrel
    obtain ⟨BK, cK, hvK, _, _, _⟩ := own_slice hK
    subst hvK
    by_cases hlt : q < n
    · have hKl : Ks.length ≤ 4 := by rw [HK.out.1]; omega
      obtain ⟨⟨x0, x1, x2⟩, _, _, _⟩ := blk3 hB6
      have hXa := ((Ext.refl wr).allocs (.cells #[.int .i64 0] 3))
      have HVa : Hid (VecB (wr.alloc (.cells #[.int .i64 0] 3)) wr.heap.size [0]) := Blk.new wr _ _
      have HD := Lib.hid hD
      have HV := Lib.hid hV
      have HB4 := Lib.hid hB4
      have HB6 := Lib.hid hB6
      have HKa := Lib.hid hK
      clear hD hV hB4 hB6
      go_wp2_with (at_builtin; refine wpList_push_at Kr.cells 1 24 Kr.len Kr.one (by omega) rfl _ _ _ rfl (g6 + 1) 28 Try.underlying29 (by kernel_rfl) (.slice BK Ks.length cK) Ks ⟨some ⟨wr.heap.size, 0, none⟩, 1, [0]⟩ (wr.heap.size + 1) rfl (hK.alloc _) rfl (by simp) (by unfold maxLen; omega) (by omega) (by simp; omega) ?_; intro v6 w6 hown6 hgr6; obtain ⟨B6, c6, rfl, _, _, _⟩ := own_slice hown6; have hBl : ∀ r, (Value.slice BK Ks.length cK).ownBlock = some r → g6 < r := fun r hr => (hK.lt r hr).1; have hB66 : Blk w6 g6 32 #[.slice (some ⟨gL, 0, none⟩) n n, .slice BK Ks.length cK, .slice none 0 0] := (hgr6.block g6 (HB6.out.ext hXa).lt (fun e => absurd (hBl _ e.symm) (by omega))).trans (HB6.out.ext hXa); have HB66 := Lib.hid hB66; have hy6 := blk3 hB66; obtain ⟨⟨m0, m1, m2⟩, s0, s1, s2⟩ := hy6; clear hB66)
      have hDa := HD.out.post hXa
      have hD6 : Drew c bs k w w6 := hDa.grown hgr6 (fun r hr => by have := hBl r hr; omega) hcl
      have hz6 := hgr6.size
      have hlen : (Ks ++ [(⟨some ⟨wr.heap.size, 0, none⟩, 1, [0]⟩ : Kr)]).length = Ks.length + 1 := by simp
      have hneL : ∀ gx, gx ≤ g6 → some gx ≠ (Value.slice BK Ks.length cK).ownBlock := fun gx hx e => by have := hBl gx e.symm; omega
      have hg1 := grown_set1 w6 g6 1 (.slice B6 (Ks.length + 1) c6)
      have hown6' : w6.ownsRow (g6 + 1) 28 1 (.slice B6 (Ks.length + 1) c6) (Ks ++ [(⟨some ⟨wr.heap.size, 0, none⟩, 1, [0]⟩ : Kr)]).length ((Ks ++ [(⟨some ⟨wr.heap.size, 0, none⟩, 1, [0]⟩ : Kr)]).flatMap Kr.cells) := by rw [← hlen]; exact hown6
      have HOW := Lib.hid hown6'
      clear hown6 hown6'
      go_roundg (n - (q + 1))
      case measure => omega
      case rel =>
        have hown6' := HOW.out
        have hV6 : VecB w6 gL (List.replicate n 0) := (hgr6.block gL (HV.out.ext hXa).lt (hneL gL (by omega))).trans (HV.out.ext hXa)
        have hB46 : Blk w6 g4 32 #[.slice none 0 0, .slice none 0 0, .slice none 0 0] := (hgr6.block g4 (HB4.out.ext hXa).lt (hneL g4 (by omega))).trans (HB4.out.ext hXa)
        have hR6 : RowsB w6 g6 (Ks ++ [(⟨some ⟨wr.heap.size, 0, none⟩, 1, [0]⟩ : Kr)]) := fun r hr => by
          rcases List.mem_append.1 hr with h | h
          · exact (HK.out.2.ext hXa).grown (hK.alloc _) hgr6 r h
          · rw [List.mem_singleton] at h
            subst h
            refine ⟨wr.heap.size, rfl, by omega, (hgr6.block wr.heap.size (HVa.out).lt (fun e => ?_)).trans HVa.out, rfl⟩
            have := (hK.lt _ e.symm).2
            omega
        refine ⟨q + 1, _, _, by omega, by go_num, rfl, hD6.set hw6 hcl _, ?_, hV6.other _ (by omega), hB46.trans' hg1 h46, HB66.out.set1of3 _, own_keptc hown6' hg1 (by omega), ?_, (⟨by rw [hlen, HK.out.1], hR6.set _⟩ : _ ∧ _)⟩
        · simp at hz6 ⊢; omega
        · simp at hz6 ⊢; omega
    · obtain rfl : n = q := by omega
      have hPS := ps_start hD hV hB4 hB6 hK HK.out.1 HK.out.2 hn4 hg4' hg4L hgL6
      clear hD hV hB4 hB6 hK HK hg4z hzr
      go_upto_region 8 with fail
      go_loopg [8] most (fun g iv wr => P2 c bs k w n most g4 g6 g iv wr)
      case atStart => exact ⟨0, _, Nat.zero_le _, rfl, rfl, hPS⟩
      case round =>
        clear hPS hlt
        obtain ⟨i, p, hi, rfl, rfl, hP⟩ := hrel
        by_cases hlt : i < most
        · obtain ⟨hgD, k1, hC1, hk1, hl1⟩ := hP.d
          go_wp2_with fail
          refine (left_any c bs k1 _ hC1).mono ?_
          rintro e w2 ⟨rfl, a, rfl⟩
          have hP2 := hP.ext (Ext.drewn wr a)
          clear hP hgD hl1 hC1
          by_cases hkl : k1 < bs.length
          · have hdl : decide (k1 < bs.length) = true := decide_eq_true hkl
            rw [hdl]
            clear hdl hkl
            obtain ⟨w2, hw2⟩ : ∃ w2, wr.drewN a = w2 := ⟨_, rfl⟩
            rw [hw2] at hP2 ⊢
            clear hw2
            go_wp2_with fail
            refine (next_on hP2.d (Ext.refl _) n (by omega) (by omega)).mono ?_
            rintro e w3 ⟨r2, rfl, ⟨hr20, hr21⟩, hD3, hg3⟩
            have hP3 := hP2.drawn hg3 hD3 hcl hc4 hc6
            clear hP2 hD3 hg3
            obtain ⟨q, rfl⟩ : ∃ q : Nat, r2 = (q : Int) := ⟨r2.toNat, by omega⟩
            have hqn : q < n := by omega
            go_wp2_with fail
            refine (next_on hP3.d (Ext.refl _) 8 (by omega) (by omega)).mono ?_
            rintro e w3 ⟨r3, rfl, ⟨hr30, hr31⟩, hD3, hg3⟩
            have hP := hP3.drawn hg3 hD3 hcl hc4 hc6
            clear hP3 hD3 hg3
            have hi24 : i < 60 := by omega
            by_cases h2 : r3 < 2
            · have d2 : decide (r3 < 2) = true := decide_eq_true h2
              clear h2
              obtain ⟨A0, c0, Ls, A1, c1, Ks, v2, As⟩ := p
              obtain ⟨A2, c2, hv2, _, _, _⟩ := own_slice hP.m.a
              dsimp only at hv2
              subst hv2
              obtain ⟨⟨x0, x1, x2⟩, _, _, _⟩ := blk3 hP.b6
              have hb : w.heap.size ≤ w3.heap.size := hP.d.1.size
              have HP := Lib.hid hP
              clear hP
              go_wp2_with fail
              refine (mark_pt n i w.heap.size ⟨A0, c0, Ls, A1, c1, Ks, .slice A2 As.length c2, As⟩ q w3 HP.out.m HP.out.o hb hqn hn4 hi24).mono ?_
              rintro e w5 ⟨p', rfl, hM5, hO5, hE5, hW5⟩
              obtain ⟨A0', c0', Ls', A1', c1', Ks', v2', As'⟩ := p'
              obtain ⟨A2', c2', hv2', _, _, _⟩ := own_slice hM5.a
              dsimp only at hv2'
              subst hv2'
              have hD5 := HP.out.d.post hE5
              have hB45 := HP.out.b4.ext hE5
              have hB65 := HP.out.b6.ext hE5
              have h45 := hW5 g4 HP.out.b4.lt HP.out.a4
              have h65 := hW5 g6 HP.out.b6.lt HP.out.a6
              clear x0 x1 x2
              have y6 := blk3 hB65
              obtain ⟨⟨x0, x1, x2⟩, y0, y1, y2⟩ := y6
              have HM5 := Lib.hid hM5
              have HO5 := Lib.hid hO5
              have HB45 := Lib.hid hB45
              have HB65 := Lib.hid hB65
              have HD5 := Lib.hid hD5
              have H45 := Lib.hid h45
              have H65 := Lib.hid h65
              clear hM5 hO5 hB45 hB65 hD5 h45 h65 hW5 hE5
              go_wp2_with fail
              go_roundg (most - (i + 1))
              case measure => omega
              case rel => exact ⟨i + 1, _, by omega, by go_num, rfl, PS.put (p' := ⟨A0', c0', Ls', A1', c1', Ks', .slice A2' As'.length c2', As'⟩) (cs := undef) HD5.out HM5.out HO5.out H45.out H65.out HB45.out HB65.out hcl hw6 h46⟩
            · have d2 : decide (r3 < 2) = false := decide_eq_false h2
              clear h2
              by_cases h2 : r3 = 2
              · have d2' : (r3 == 2) = true := by simp [h2]
                clear h2
                obtain ⟨A0, c0, Ls, A1, c1, Ks, v2, As⟩ := p
                obtain ⟨A2, c2, hv2, _, _, _⟩ := own_slice hP.m.a
                dsimp only at hv2
                subst hv2
                obtain ⟨⟨x0, x1, x2⟩, _, _, _⟩ := blk3 hP.b6
                have hb : w.heap.size ≤ w3.heap.size := hP.d.1.size
                have HP := Lib.hid hP
                clear hP
                go_wp2_with fail
                refine (with_pt n i w.heap.size ⟨A0, c0, Ls, A1, c1, Ks, .slice A2 As.length c2, As⟩ q (-1) 0 w3 HP.out.m HP.out.o hb hqn hn4 hi24 (.inl rfl)).mono ?_
                rintro e w5 ⟨p', rfl, hM5, hO5, hE5, hW5⟩
                obtain ⟨A0', c0', Ls', A1', c1', Ks', v2', As'⟩ := p'
                obtain ⟨A2', c2', hv2', _, _, _⟩ := own_slice hM5.a
                dsimp only at hv2'
                subst hv2'
                have hD5 := HP.out.d.post hE5
                have hB45 := HP.out.b4.ext hE5
                have hB65 := HP.out.b6.ext hE5
                have h45 := hW5 g4 HP.out.b4.lt HP.out.a4
                have h65 := hW5 g6 HP.out.b6.lt HP.out.a6
                clear x0 x1 x2
                have y6 := blk3 hB65
                obtain ⟨⟨x0, x1, x2⟩, y0, y1, y2⟩ := y6
                have HM5 := Lib.hid hM5
                have HO5 := Lib.hid hO5
                have HB45 := Lib.hid hB45
                have HB65 := Lib.hid hB65
                have HD5 := Lib.hid hD5
                have H45 := Lib.hid h45
                have H65 := Lib.hid h65
                clear hM5 hO5 hB45 hB65 hD5 h45 h65 hW5 hE5
                go_wp2_with fail
                go_roundg (most - (i + 1))
                case measure => omega
                case rel => exact ⟨i + 1, _, by omega, by go_num, rfl, PS.put (p' := ⟨A0', c0', Ls', A1', c1', Ks', .slice A2' As'.length c2', As'⟩) (cs := undef) HD5.out HM5.out HO5.out H45.out H65.out HB45.out HB65.out hcl hw6 h46⟩
              · have d2' : (r3 == 2) = false := by simp [h2]
                clear h2
                by_cases h3 : r3 = 3
                · have d3 : (r3 == 3) = true := by simp [h3]
                  clear h3
                  obtain ⟨A0, c0, Ls, A1, c1, Ks, v2, As⟩ := p
                  obtain ⟨A2, c2, hv2, _, _, _⟩ := own_slice hP.m.a
                  dsimp only at hv2
                  subst hv2
                  obtain ⟨⟨x0, x1, x2⟩, _, _, _⟩ := blk3 hP.b6
                  have hb : w.heap.size ≤ w3.heap.size := hP.d.1.size
                  have hn1w : IntKind.i64.wrap ((n : Int) - 1) = (n : Int) - 1 := IntWalk.i64_in _ (by omega)
                  go_wp2_with fail
                  refine (next_on hP.d (Ext.refl _) ((n : Int) - 1) (by omega) (by omega)).mono ?_
                  rintro e w4 ⟨r4, rfl, ⟨hr40, hr41⟩, hD4, hg4z⟩
                  have hP4 := hP.drawn hg4z hD4 hcl hc4 hc6
                  clear hP hD4 hg4z hn1w
                  have hsw1 : IntKind.i64.wrap ((q : Int) + 1) = (q : Int) + 1 := IntWalk.i64_in _ (by omega)
                  have hsw2 : IntKind.i64.wrap ((q : Int) + 1 + r4) = (q : Int) + 1 + r4 := IntWalk.i64_in _ (by omega)
                  obtain ⟨s, hsE, hsn, hsq⟩ : ∃ s : Nat, ((q : Int) + 1 + r4).tmod (n : Int) = (s : Int) ∧ s < n ∧ s ≠ q := by
                    rw [Int.tmod_eq_emod_of_nonneg (by omega)]
                    by_cases hle : (q : Int) + 1 + r4 < n
                    · rw [Int.emod_eq_of_lt (by omega) hle]
                      exact ⟨((q : Int) + 1 + r4).toNat, by omega, by omega, by omega⟩
                    · have e1 : ((q : Int) + 1 + r4) % (n : Int) = (q : Int) + 1 + r4 - n := by
                        rw [← Int.sub_emod_right, Int.emod_eq_of_lt (by omega) (by omega)]
                      rw [e1]
                      exact ⟨((q : Int) + 1 + r4 - n).toNat, by omega, by omega, by omega⟩
                  have hsE2 : ((q : Int) + 1 + r4) % (n : Int) = (s : Int) := by rw [← hsE, Int.tmod_eq_emod_of_nonneg (by omega)]
                  go_upto_region 20 with fail
                  have hll : Ls.length = n := hP4.o.ll
                  have hsL : s < Ls.length := by omega
                  have hlb := hP4.o.lb s hsn
                  dsimp only at hlb
                  have hsI0 : (0 : Int) ≤ (s : Int) := by omega
                  have hsI1 : (s : Int) < (Ls.length : Int) := by omega
                  have HLL := Lib.hid hll
                  clear hll
                  obtain ⟨bL, oL, rfl, pq⟩ := Iv.at_ hP4.m.l hsL
                  rw [← elX_at hsL] at pq
                  obtain ⟨⟨x0, x1, x2⟩, f0, f1, f2⟩ := blk3 hP4.b6
                  have hle1 : IntKind.i64.wrap (elX Ls s + 1) = elX Ls s + 1 := IntWalk.i64_in _ (by omega)
                  have HLB := Lib.hid hlb
                  have HP := Lib.hid hP4
                  clear hlb hP4
                  refine wp_region_sched (by kernel_rfl) 14 [(0, true), (1, true), (2, true), (3, true), (4, true), (5, true), (6, true), (7, true), (8, true), (9, true), (11, true), (10, false), (12, true), (13, false), (14, false), (15, false), (16, false)] (fun w' => w'.cell? ⟨g6, 0, none⟩ = some (.slice (some ⟨bL, oL, none⟩) Ls.length c0) ∧ w'.cell? ⟨g6, 1, none⟩ = some (.slice A1 Ks.length c1) ∧ w'.cell? ⟨g6, 2, none⟩ = some (.slice A2 As.length c2) ∧ w'.cell? ⟨bL, oL + s, none⟩ = some (.int .i64 (elX Ls s))) (by kernel_rfl) (fun _ _ d _ _ h => by cases d <;> exact h) ⟨x0, x1, x2, pq⟩ (fun hHeld => ?_)
                  clear x0 x1 x2 pq f0 f1 f2
                  iterate 11 ((refine sched_read (v := ?_) rfl (Or.inl ⟨by rfl, ?_⟩) hHeld ?_; rotate_left 1; · (intro w' hSw; obtain ⟨t0, t1, t2, t3⟩ := hSw; go_simp; (first | done | with_reducible rfl))); (try simp only [Act.put, List.setIfInBounds_toArray, List.set_cons_zero, List.set_cons_succ]))
                  refine sched_eff rfl (fun K hK => ?_)
                  go_simp
                  refine (next_on HP.out.d (Below.drew (Ext.refl _)) (elX Ls s + 1) (by have := HLB.out; omega) (by have := HLB.out; omega)).mono ?_
                  rintro e w5 ⟨r5, rfl, ⟨hr50, hr51⟩, hD5, hg5⟩
                  have hP5 := (HP.out.ext (Below.drew (Ext.refl w4))).drawn hg5 hD5 hcl hc4 hc6
                  obtain ⟨bL', oL', hbo, pq⟩ := Iv.at_ hP5.m.l hsL
                  injection hbo with hbo
                  injection hbo with hbo1 hbo2
                  subst hbo1 hbo2
                  rw [← elX_at hsL] at pq
                  obtain ⟨⟨x0, x1, x2⟩, _, _, _⟩ := blk3 hP5.b6
                  have HP := Lib.hid hP5
                  have HPQ := Lib.hid pq
                  clear hP5 hD5 hg5 pq
                  go_wp2_with fail
                  refine hK.out _ _ ⟨x0, x1, x2, HPQ.out⟩ (fun hHeld => ?_)
                  clear hK K
                  try simp only [Act.put, List.setIfInBounds_toArray, List.set_cons_zero, List.set_cons_succ]
                  clear x0 x1 x2
                  iterate 1 ((refine sched_read (v := ?_) rfl (Or.inl ⟨by rfl, ?_⟩) hHeld ?_; rotate_left 1; · (intro w' hSw; obtain ⟨t0, t1, t2, t3⟩ := hSw; go_simp; (first | done | with_reducible rfl))); (try simp only [Act.put, List.setIfInBounds_toArray, List.set_cons_zero, List.set_cons_succ]))
                  have hEa : Ext w5 (w5.alloc (.cells (Ar.cells ⟨(s : Int), r5, (q : Int), 0⟩).toArray 86)) := (Ext.refl w5).allocs _
                  have hBa : Blk (w5.alloc (.cells (Ar.cells ⟨(s : Int), r5, (q : Int), 0⟩).toArray 86)) w5.heap.size 86 (Ar.cells ⟨(s : Int), r5, (q : Int), 0⟩).toArray := Blk.new w5 _ _
                  have HPA := Lib.hid (HP.out.ext hEa)
                  have HPQA := Lib.hid (hEa.keepCellM HPQ.out)
                  obtain ⟨⟨x0, x1, x2⟩, _, _, _⟩ := blk3 HPA.out.b6
                  have HBa := Lib.hid hBa
                  clear hBa
                  refine sched_eff rfl (fun K hK => ?_)
                  go_simp
                  refine hK.out _ _ ⟨x0, x1, x2, HPQA.out⟩ (fun hHeld => ?_)
                  clear hK K
                  try simp only [Act.put, List.setIfInBounds_toArray, List.set_cons_zero, List.set_cons_succ]
                  have hal : As.length ≤ i := HP.out.o.al
                  have hza : w.heap.size ≤ (w5.alloc (.cells (Ar.cells ⟨(s : Int), r5, (q : Int), 0⟩).toArray 86)).heap.size := HPA.out.d.1.size
                  refine sched_tail rfl (by decide) (fun K hK => ?_)
                  refine step_push_lies Ar.cells 4 32 Ar.len Ar.one (by omega) (by rfl) _ _ _ (by rfl) w.heap.size 86 Try.underlying30 (by kernel_rfl) (.slice A2 As.length c2) As ⟨(s : Int), r5, (q : Int), 0⟩ w5.heap.size (by rfl) HPA.out.m.a (by rfl) (Seg.ofBlk HBa.out rfl) (by unfold maxLen; omega) (by omega) hza ?_
                  intro g9 c9 w9 hown9 hg9 hd9
                  have hpr := arc_pushed (a := ⟨(s : Int), r5, (q : Int), 0⟩) HPA.out hown9 hg9 (by unfold Ar.cells; exact hd9) hcl hw6 h46 (by
                    refine ⟨⟨hsI0, (by show (s : Int) < n; omega)⟩, ⟨(by show (0 : Int) ≤ q; omega), (by show (q : Int) < n; omega)⟩, (by show (s : Int) ≠ (q : Int); omega), ⟨hr50, ?_⟩, ⟨Int.le_refl _, ?_⟩⟩
                    · show r5 ≤ elX Ls ((s : Int)).toNat
                      rw [show ((s : Int)).toNat = s by omega]; omega
                    · show (0 : Int) ≤ elX Ls ((q : Int)).toNat
                      exact (HP.out.o.lb _ (by omega)).1) rfl
                  obtain ⟨hpr0, hpr1⟩ := hpr
                  obtain ⟨⟨x0, x1, x2⟩, y0, y1, y2⟩ := blk3 hpr0
                  refine hK.out _ _ ?_
                  clear hK K
                  try simp only [Act.put, List.setIfInBounds_toArray, List.set_cons_zero, List.set_cons_succ]
                  have HPR := Lib.hid hpr1
                  clear hpr1 hpr0 hown9 hg9 hd9
                  refine sched_tail rfl (by decide) (fun K hK => ?_)
                  go_simp
                  refine hK.out _ _ ?_
                  clear hK K
                  try simp only [Act.put, List.setIfInBounds_toArray, List.set_cons_zero, List.set_cons_succ]
                  refine sched_tail rfl (by decide) (fun K hK => ?_)
                  go_simp
                  refine hK.out _ _ ?_
                  clear hK K
                  refine sched_done ?_
                  clear x0 x1 x2 y0 y1 y2 HPQ HPQA
                  go_wp2_with fail
                  go_roundg (most - (i + 1))
                  case measure => omega
                  case rel => exact ⟨i + 1, _, by omega, by go_num, rfl, HPR.out⟩
                · have d3 : (r3 == 3) = false := by simp [h3]
                  clear h3
                  obtain ⟨A0, c0, Ls, A1, c1, Ks, v2, As⟩ := p
                  obtain ⟨A2, c2, hv2, _, _, _⟩ := own_slice hP.m.a
                  dsimp only at hv2
                  subst hv2
                  obtain ⟨⟨x0, x1, x2⟩, _, _, _⟩ := blk3 hP.b6
                  have hb : w.heap.size ≤ w3.heap.size := hP.d.1.size
                  have hn1w : IntKind.i64.wrap ((n : Int) - 1) = (n : Int) - 1 := IntWalk.i64_in _ (by omega)
                  go_wp2_with fail
                  refine (next_on hP.d (Ext.refl _) ((n : Int) - 1) (by omega) (by omega)).mono ?_
                  rintro e w4 ⟨r4, rfl, ⟨hr40, hr41⟩, hD4, hg4z⟩
                  have hP4 := hP.drawn hg4z hD4 hcl hc4 hc6
                  clear hP hD4 hg4z hn1w
                  have hsw1 : IntKind.i64.wrap ((q : Int) + 1) = (q : Int) + 1 := IntWalk.i64_in _ (by omega)
                  have hsw2 : IntKind.i64.wrap ((q : Int) + 1 + r4) = (q : Int) + 1 + r4 := IntWalk.i64_in _ (by omega)
                  obtain ⟨s, hsE, hsn, hsq⟩ : ∃ s : Nat, ((q : Int) + 1 + r4).tmod (n : Int) = (s : Int) ∧ s < n ∧ s ≠ q := by
                    rw [Int.tmod_eq_emod_of_nonneg (by omega)]
                    by_cases hle : (q : Int) + 1 + r4 < n
                    · rw [Int.emod_eq_of_lt (by omega) hle]
                      exact ⟨((q : Int) + 1 + r4).toNat, by omega, by omega, by omega⟩
                    · have e1 : ((q : Int) + 1 + r4) % (n : Int) = (q : Int) + 1 + r4 - n := by
                        rw [← Int.sub_emod_right, Int.emod_eq_of_lt (by omega) (by omega)]
                      rw [e1]
                      exact ⟨((q : Int) + 1 + r4 - n).toNat, by omega, by omega, by omega⟩
                  have hsE2 : ((q : Int) + 1 + r4) % (n : Int) = (s : Int) := by rw [← hsE, Int.tmod_eq_emod_of_nonneg (by omega)]
                  go_upto_region 13 with fail
                  have hll : Ls.length = n := hP4.o.ll
                  have hsL : s < Ls.length := by omega
                  have hlb := hP4.o.lb s hsn
                  dsimp only at hlb
                  have hsI0 : (0 : Int) ≤ (s : Int) := by omega
                  have hsI1 : (s : Int) < (Ls.length : Int) := by omega
                  have HLL := Lib.hid hll
                  clear hll
                  obtain ⟨bL, oL, rfl, pq⟩ := Iv.at_ hP4.m.l hsL
                  rw [← elX_at hsL] at pq
                  obtain ⟨⟨x0, x1, x2⟩, f0, f1, f2⟩ := blk3 hP4.b6
                  have hle1 : IntKind.i64.wrap (elX Ls s + 1) = elX Ls s + 1 := IntWalk.i64_in _ (by omega)
                  have HLB := Lib.hid hlb
                  have HP := Lib.hid hP4
                  clear hlb hP4
                  refine wp_region_sched (by kernel_rfl) 19 [(0, true), (1, true), (2, true), (3, true), (4, true), (5, true), (6, true), (7, true), (8, true), (9, true), (10, true), (11, true), (12, true), (13, true), (14, true), (15, true), (16, false), (17, true), (18, false), (19, false)] (fun w' => w'.cell? ⟨g6, 0, none⟩ = some (.slice (some ⟨bL, oL, none⟩) Ls.length c0) ∧ w'.cell? ⟨g6, 1, none⟩ = some (.slice A1 Ks.length c1) ∧ w'.cell? ⟨g6, 2, none⟩ = some (.slice A2 As.length c2) ∧ w'.cell? ⟨bL, oL + s, none⟩ = some (.int .i64 (elX Ls s))) (by kernel_rfl) (fun _ _ d _ _ h => by cases d <;> exact h) ⟨x0, x1, x2, pq⟩ (fun hHeld => ?_)
                  clear x0 x1 x2 pq f0 f1 f2
                  iterate 16 ((refine sched_read (v := ?_) rfl (Or.inl ⟨by rfl, ?_⟩) hHeld ?_; rotate_left 1; · (intro w' hSw; obtain ⟨t0, t1, t2, t3⟩ := hSw; go_simp; (first | done | with_reducible rfl))); (try simp only [Act.put, List.setIfInBounds_toArray, List.set_cons_zero, List.set_cons_succ]))
                  refine sched_eff rfl (fun K hK => ?_)
                  go_simp
                  obtain ⟨m3, hm3⟩ : ∃ m3, (if elX Ls s + 1 < 3 then elX Ls s + 1 else 3) = m3 := ⟨_, rfl⟩
                  rw [hm3]
                  have hm31 : 1 ≤ m3 ∧ m3 ≤ 3 ∧ m3 ≤ elX Ls s + 1 := by
                    have := HLB.out
                    rw [← hm3]
                    split <;> omega
                  clear hm3
                  refine (next_on HP.out.d (Below.drew (Ext.refl _)) m3 (by omega) (by omega)).mono ?_
                  rintro e w5 ⟨r5, rfl, ⟨hr50, hr51⟩, hD5, hg5⟩
                  have hP5 := (HP.out.ext (Below.drew (Ext.refl w4))).drawn hg5 hD5 hcl hc4 hc6
                  obtain ⟨bL', oL', hbo, pq⟩ := Iv.at_ hP5.m.l hsL
                  injection hbo with hbo
                  injection hbo with hbo1 hbo2
                  subst hbo1 hbo2
                  rw [← elX_at hsL] at pq
                  obtain ⟨⟨x0, x1, x2⟩, _, _, _⟩ := blk3 hP5.b6
                  have HP := Lib.hid hP5
                  have HPQ := Lib.hid pq
                  clear hP5 hD5 hg5 pq
                  go_wp2_with fail
                  refine hK.out _ _ ⟨x0, x1, x2, HPQ.out⟩ (fun hHeld => ?_)
                  clear hK K
                  try simp only [Act.put, List.setIfInBounds_toArray, List.set_cons_zero, List.set_cons_succ]
                  clear x0 x1 x2
                  have hsub : IntKind.i64.wrap (elX Ls s - r5) = elX Ls s - r5 := IntWalk.i64_in _ (by have := HLB.out; omega)
                  iterate 1 ((refine sched_read (v := ?_) rfl (Or.inl ⟨by rfl, ?_⟩) hHeld ?_; rotate_left 1; · (intro w' hSw; obtain ⟨t0, t1, t2, t3⟩ := hSw; go_simp; (first | done | with_reducible rfl))); (try simp only [Act.put, List.setIfInBounds_toArray, List.set_cons_zero, List.set_cons_succ]))
                  clear hsub
                  refine sched_eff rfl (fun K hK => ?_)
                  go_simp
                  refine (with_pt n i w.heap.size ⟨some ⟨bL, oL, none⟩, c0, Ls, A1, c1, Ks, .slice A2 As.length c2, As⟩ q (s : Int) (elX Ls s - r5) w5 HP.out.m HP.out.o HP.out.d.1.size hqn hn4 hi24 (.inr ⟨by omega, by omega, by omega, by omega, by rw [show ((s : Int)).toNat = s by omega]; show elX Ls s - r5 ≤ elX Ls s; omega⟩)).mono ?_
                  rintro e w6 ⟨p', rfl, hM5, hO5, hE5, hW5⟩
                  obtain ⟨⟨x0, x1, x2⟩, _, _, _⟩ := blk3 (HP.out.b6.ext hE5)
                  have pq := hE5.keepCellM HPQ.out
                  obtain ⟨A0', c0', Ls', A1', c1', Ks', v2', As'⟩ := p'
                  obtain ⟨A2', c2', hv2', _, _, _⟩ := own_slice hM5.a
                  dsimp only at hv2'
                  subst hv2'
                  have hD5 := HP.out.d.post hE5
                  have hB45 := HP.out.b4.ext hE5
                  have hB65 := HP.out.b6.ext hE5
                  have h45 := hW5 g4 HP.out.b4.lt HP.out.a4
                  have h65 := hW5 g6 HP.out.b6.lt HP.out.a6
                  have y6 := blk3 hB65
                  obtain ⟨_, y0, y1, y2⟩ := y6
                  have HPQ := Lib.hid pq
                  clear pq
                  have HM5 := Lib.hid hM5
                  have HO5 := Lib.hid hO5
                  have HB45 := Lib.hid hB45
                  have HB65 := Lib.hid hB65
                  have HD5 := Lib.hid hD5
                  have H45 := Lib.hid h45
                  have H65 := Lib.hid h65
                  clear hM5 hO5 hB45 hB65 hD5 h45 h65 hW5 hE5
                  go_wp2_with fail
                  refine hK.out _ _ ⟨x0, x1, x2, HPQ.out⟩ (fun hHeld => ?_)
                  clear hK K
                  try simp only [Act.put, List.setIfInBounds_toArray, List.set_cons_zero, List.set_cons_succ]
                  refine sched_tail rfl (by decide) (fun K hK => ?_)
                  go_simp
                  refine hK.out _ _ ?_
                  clear hK K
                  refine sched_done ?_
                  clear x0 x1 x2 y0 y1 y2 HPQ
                  go_wp2_with fail
                  go_roundg (most - (i + 1))
                  case measure => omega
                  case rel => exact ⟨i + 1, _, by omega, by go_num, rfl, PS.put (p' := ⟨A0', c0', Ls', A1', c1', Ks', .slice A2' As'.length c2', As'⟩) (cs := undef) HD5.out HM5.out HO5.out H45.out H65.out HB45.out HB65.out hcl hw6 h46⟩
          · have hdl : decide (k1 < bs.length) = false := decide_eq_false hkl
            rw [hdl]
            have hP := hP2
            clear hP2 hdl
            obtain ⟨A0, c0, Ls, A1, c1, Ks, v2, As⟩ := p
            obtain ⟨A2, c2, hv2, _, _, _⟩ := own_slice hP.m.a
            dsimp only at hv2
            subst hv2
            obtain ⟨⟨x0, x1, x2⟩, _, _, _⟩ := blk3 hP.b6
            obtain ⟨⟨z0, z1, z2⟩, y0, y1, y2⟩ := blk3 hP.b4
            have HP := Lib.hid hP
            clear hP
            go_wp2_with fail
            refine bodyPost_ret (v := .agg #[.slice A0 Ls.length c0, .slice A1 Ks.length c1, .slice A2 As.length c2]) (by simp [results, Try.results46, go_sem, *]) rfl ?_
            exact ⟨n, ⟨A0, c0, Ls, A1, c1, Ks, .slice A2 As.length c2, As⟩, hn2, hn4, rfl, HP.out.m.put HP.out.a4 (grown_sets3 _ g4 _ _ _), HP.out.o.mono hi, ((HP.out.d.set hg4' hcl _).set hg4' hcl _).set hg4' hcl _⟩
        · obtain rfl : most = i := by omega
          obtain ⟨A0, c0, Ls, A1, c1, Ks, v2, As⟩ := p
          obtain ⟨A2, c2, hv2, _, _, _⟩ := own_slice hP.m.a
          dsimp only at hv2
          subst hv2
          obtain ⟨⟨x0, x1, x2⟩, _, _, _⟩ := blk3 hP.b6
          obtain ⟨⟨z0, z1, z2⟩, y0, y1, y2⟩ := blk3 hP.b4
          have HP := Lib.hid hP
          clear hP
          go_wp2_with fail
          refine bodyPost_ret (v := .agg #[.slice A0 Ls.length c0, .slice A1 Ks.length c1, .slice A2 As.length c2]) (by simp [results, Try.results46, go_sem, *]) rfl ?_
          exact ⟨n, ⟨A0, c0, Ls, A1, c1, Ks, .slice A2 As.length c2, As⟩, hn2, hn4, rfl, HP.out.m.put HP.out.a4 (grown_sets3 _ g4 _ _ _), HP.out.o.mono hi, ((HP.out.d.set hg4' hcl _).set hg4' hcl _).set hg4' hcl _⟩
end Go.Proofs.Ytcljdkjlfciacaa
