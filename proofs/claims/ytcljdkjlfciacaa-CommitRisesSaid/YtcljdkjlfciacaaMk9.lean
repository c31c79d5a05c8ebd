/- Lineages of the maker. No statement of the seat is proved here. -/
import Derived.Test.YtcljdkjlfciacaaMk8
import Derived.Test.YtcljdkjlfciacaaSched2
namespace Go.Proofs.Ytcljdkjlfciacaa
open Go.RowKit
set_option linter.unusedVariables false

/-- the pattern and its boxes while the lineages are made -/
structure LS (c : Nat) (bs : List Int) (k : Nat) (w : World) (b g5 g6 : Nat) (p : Pt) (W : World) : Prop where
  d : Drew c bs k w W
  m : PtMem W b p
  b5 : Blk W g5 32 #[.slice none 0 0, .slice none 0 0, .slice none 0 0]
  b6 : Blk W g6 32 #[.slice p.A0 p.Ls.length p.c0, .slice p.A1 p.Ks.length p.c1, p.v2]
section
variable {c : Nat} {bs : List Int} {k : Nat} {w : World} {b g5 g6 : Nat} {p : Pt} {W W' : World}
theorem LS.ext (h : LS c bs k w b g5 g6 p W) (hE : Ext W W') : LS c bs k w b g5 g6 p W' := ⟨h.d.post hE, h.m.ext hE, h.b5.ext hE, h.b6.ext hE⟩
theorem LS.drawn (h : LS c bs k w b g5 g6 p W) (hg : W.grownBy W' (some c)) (hD : Drew c bs k w W') (hcb : c < b) (h5 : c < g5) (h6 : c < g6) : LS c bs k w b g5 g6 p W' := ⟨hD, h.m.grown hg hcb, h.b5.grown hg h5, h.b6.grown hg h6⟩
theorem LS.put {row : Option Nat} (h : LS c bs k w b g5 g6 p W) (hg : W.grownBy W' row) (hr : ∀ r, row = some r → g6 < r) (haw : ∀ g, g6 ≤ g → PtAway g p) (hcl : c < w.heap.size) (h56 : g5 < g6) (hw : w.heap.size ≤ g6) : LS c bs k w b g5 g6 p W' := by
  rcases row with _ | r
  · exact h.ext ⟨hg.os, hg.tape, hg.output, hg.size, fun k hk => hg.block k hk (by simp)⟩
  · have hr6 := hr r rfl
    exact ⟨h.d.grown hg (fun r' e => by have := hr r' e; omega) hcl, h.m.put (haw r (by omega)) hg, h.b5.trans' hg (by omega), h.b6.trans' hg (by omega)⟩
end
def LinPost (c : Nat) (bs : List Int) (k most : Nat) (w : World) (e : Ending) (w' : World) : Prop :=
  ∃ (base gl : Nat) (p : Pt) (R : List Rw), e = .returned (.tuple #[.slice (some ⟨gl, 0, none⟩) p.Ls.length p.Ls.length, .agg #[.slice p.A0 p.Ls.length p.c0, .slice p.A1 p.Ks.length p.c1, p.v2]]) ∧ 2 ≤ p.Ls.length ∧ p.Ls.length ≤ 4 ∧ w.heap.size ≤ base ∧ w.heap.size ≤ gl ∧
    LinOwn w' base gl R ∧ PtMem w' w.heap.size p ∧ PtOk p.Ls.length most p ∧ LinGood p R ∧ (∀ g, base ≤ g → PtAway g p) ∧ PtAway gl p ∧ Drew c bs k w w'
def L1 (c : Nat) (bs : List Int) (k : Nat) (w : World) (b g5 g6 gR : Nat) (p : Pt) (g : Nat) (iv : Value) (wr : World) : Prop :=
  ∃ (j : Nat) (X : List Int), j ≤ p.Ls.length ∧ iv = .int .i64 j ∧ g = p.Ls.length - j ∧ LS c bs k w b g5 g6 p wr ∧ VecB wr gR X ∧ Hid (X.length = p.Ls.length ∧ ∀ r, r < j → 1 ≤ elX X r ∧ elX X r ≤ 6)
/-- the state in the loops behind -/
structure LR (c : Nat) (bs : List Int) (k : Nat) (w : World) (b g5 g6 gR gl : Nat) (p : Pt) (X : List Int) (R : List Rw) (W : World) : Prop where
  s : LS c bs k w b g5 g6 p W
  x : VecB W gR X
  l : LinOwn W (g6 + 1) gl R
section
variable {c : Nat} {bs : List Int} {k : Nat} {w : World} {b g5 g6 gR gl : Nat} {p : Pt} {X : List Int} {R : List Rw} {W W' : World}
theorem LR.ext (h : LR c bs k w b g5 g6 gR gl p X R W) (hE : Ext W W') : LR c bs k w b g5 g6 gR gl p X R W' := ⟨h.s.ext hE, h.x.ext hE, h.l.ext hE⟩
theorem LR.drawn (h : LR c bs k w b g5 g6 gR gl p X R W) (hg : W.grownBy W' (some c)) (hD : Drew c bs k w W') (hcb : c < b) (h5 : c < g5) (h6 : c < g6) (hR : c < gR) (hl : c < gl) : LR c bs k w b g5 g6 gR gl p X R W' :=
  ⟨h.s.drawn hg hD hcb h5 h6, h.x.grown hg hR, h.l.low hg (by omega) (by omega)⟩
/-- an event was appended to a row -/
theorem LR.push {W9 : World} (h : LR c bs k w b g5 g6 gR gl p X R W) {q : Nat} {s : Rw} (hs : R[q]? = some s) {g9 c9 : Nat} {x : Ev} (hown : W9.ownsRow (g6 + 1) 61 7 (.slice (some ⟨g9, 0, none⟩) (s.es.length + 1) c9) (s.es ++ [x]).length ((s.es ++ [x]).flatMap Ev.cells))
    (hg : W.grownBy W9 (Rw.val s).ownBlock) (hd : (Rw.val s).ownBlock = some g9 ∨ g9 = W.heap.size) (haw : ∀ g, g6 ≤ g → PtAway g p) (hcl : c < w.heap.size) (h56 : g5 < g6) (hw : w.heap.size ≤ g6) (h6l : g6 < gl) (hRl : gR ≠ gl) :
    W9.cell? ⟨gl, q, none⟩ = some (Rw.val s) ∧ W9.frozen? ⟨gl, q, none⟩ = false ∧ LR c bs k w b g5 g6 gR gl p X (R.set q ⟨some ⟨g9, 0, none⟩, c9, s.es ++ [x]⟩) (W9.setCell ⟨gl, q, none⟩ (.slice (some ⟨g9, 0, none⟩) (s.es.length + 1) c9)) := by
  have hrow := h.l.r q s hs
  have hne : ∀ gg t cs, Blk W gg t cs → t ≠ 61 → some gg ≠ (Rw.val s).ownBlock := fun gg t cs hB ht e => by
    rcases own_not hrow hB ht with h | h
    · rw [h] at e; cases e
    · exact h e.symm
  have hb9 : Blk W9 gl 55 (R.flatMap Rw.cells).toArray := (hg.block gl h.l.b.lt (hne _ _ _ h.l.b (by decide))).trans h.l.b
  refine ⟨?_, hb9.frozen q, ?_, ?_, h.l.push hs hown hg hd⟩
  · have := Blk.tabAt hb9 Rw.len hs (j := 0) (by omega) (u := Rw.val s) rfl
    simpa using this
  · exact (h.s.put hg (fun r e => by have := (hrow.lt r e).1; omega) haw hcl h56 hw).put (grown_set1 W9 gl q _) (fun r e => by injection e; omega) haw hcl h56 hw
  · exact VecB.other ((hg.block gR h.x.lt (hne _ _ _ h.x (by decide))).trans h.x : VecB W9 gR X) _ hRl
/-- a number of an event was stored -/
theorem LR.store1 (h : LR c bs k w b g5 g6 gR gl p X R W) {q : Nat} {s : Rw} (hs : R[q]? = some s) {j : Nat} {e x : Ev} (he : s.es[j]? = some e) {g : Nat} (hA : s.A = some ⟨g, 0, none⟩) {o : Nat} (ho : o < 7) {v : Value} (hx : x.cells = e.cells.set o v)
    (haw : ∀ g, g6 ≤ g → PtAway g p) (hcl : c < w.heap.size) (h56 : g5 < g6) (hw : w.heap.size ≤ g6) : LR c bs k w b g5 g6 gR gl p X (R.set q ⟨s.A, s.c, s.es.set j x⟩) (W.setCell ⟨g, j * 7 + o, none⟩ v) := by
  have hn : 0 < s.es.length := by have := (List.getElem?_eq_some_iff.1 he).1; omega
  obtain ⟨g', hA', hb, _, _⟩ := h.l.row hs hn
  rw [hA] at hA'
  injection hA' with hA'
  injection hA' with hA'
  subst hA'
  have hne : gR ≠ g := fun e => by
    rcases own_not (h.l.r q s hs) h.x (by decide) with h | h
    · unfold Rw.val at h; rw [hA] at h; cases h
    · exact h (by unfold Rw.val; rw [hA, e]; rfl)
  exact ⟨h.s.put (grown_set1 _ _ _ _) (fun r e => by injection e; omega) haw hcl h56 hw, h.x.other _ hne, h.l.store1 hs he hA ho hx⟩
theorem grown_setCells (g : Nat) : ∀ (vs : List Value) (o : Nat) (W : World), W.grownBy (W.setCells g o vs) (some g)
  | [], _, W => World.grownBy.refl W _
  | v :: vs, o, W => grownBy_trans (grown_set1 W g o v) (grown_setCells g vs (o + 1) _)
theorem LR.store7 (h : LR c bs k w b g5 g6 gR gl p X R W) {q : Nat} {s : Rw} (hs : R[q]? = some s) {j : Nat} (hj : j < s.es.length) (x : Ev) {g : Nat} (hA : s.A = some ⟨g, 0, none⟩)
    (haw : ∀ g, g6 ≤ g → PtAway g p) (hcl : c < w.heap.size) (h56 : g5 < g6) (hw : w.heap.size ≤ g6) : LR c bs k w b g5 g6 gR gl p X (R.set q ⟨s.A, s.c, s.es.set j x⟩) (W.setCells g (j * 7) x.cells) := by
  obtain ⟨g', hA', hb, _, _⟩ := h.l.row hs (by omega)
  rw [hA] at hA'
  injection hA' with hA'
  injection hA' with hA'
  subst hA'
  have hne : gR ≠ g := fun e => by
    rcases own_not (h.l.r q s hs) h.x (by decide) with h | h
    · unfold Rw.val at h; rw [hA] at h; cases h
    · exact h (by unfold Rw.val; rw [hA, e]; rfl)
  exact ⟨h.s.put (grown_setCells g _ _ _) (fun r e => by injection e; omega) haw hcl h56 hw, ((grown_setCells g x.cells (j * 7) W).block gR h.x.lt (fun e => hne (by injection e))).trans h.x, h.l.store7 hs hj x hA⟩
end
def L2 (c : Nat) (bs : List Int) (k : Nat) (w : World) (b g5 g6 gR gl : Nat) (p : Pt) (X : List Int) (g : Nat) (iv : Value) (wr : World) : Prop :=
  ∃ (q : Nat) (R : List Rw), q ≤ p.Ls.length ∧ iv = .int .i64 q ∧ g = p.Ls.length - q ∧ LR c bs k w b g5 g6 gR gl p X R wr ∧ Hid (Ticks p.Ls.length (cntF p.Ls q 0) R)
def L3 (c : Nat) (bs : List Int) (k : Nat) (w : World) (b g5 g6 gR gl : Nat) (p : Pt) (X : List Int) (q : Nat) (g : Nat) (iv : Value) (wr : World) : Prop :=
  ∃ (j : Nat) (R : List Rw), (j : Int) ≤ elX p.Ls q ∧ iv = .int .i64 ((j : Int) + 1) ∧ g = (elX p.Ls q).toNat - j ∧ LR c bs k w b g5 g6 gR gl p X R wr ∧ Hid (Ticks p.Ls.length (cntF p.Ls q j) R)
def L4 (c : Nat) (bs : List Int) (k : Nat) (w : World) (b g5 g6 gR gl : Nat) (p : Pt) (X : List Int) (g : Nat) (iv : Value) (wr : World) : Prop :=
  ∃ (q : Nat) (R : List Rw), q ≤ p.Ls.length ∧ iv = .int .i64 q ∧ g = p.Ls.length - q ∧ LR c bs k w b g5 g6 gR gl p X R wr ∧ Hid (Ticks p.Ls.length (elX p.Ls) R)
def L5 (c : Nat) (bs : List Int) (k : Nat) (w : World) (b g5 g6 gR gl : Nat) (p : Pt) (X : List Int) (q : Nat) (g : Nat) (uv iv : Value) (wr : World) : Prop :=
  ∃ (j : Nat) (u : Int) (R : List Rw), (j : Int) ≤ elX p.Ls q ∧ iv = .int .i64 ((j : Int) + 1) ∧ uv = .int .i64 u ∧ 0 ≤ u ∧ u ≤ j ∧ g = (elX p.Ls q).toNat - j ∧ LR c bs k w b g5 g6 gR gl p X R wr ∧ Hid (Ticks p.Ls.length (elX p.Ls) R)
def L6 (c : Nat) (bs : List Int) (k : Nat) (w : World) (b g5 g6 gR gl : Nat) (p : Pt) (X : List Int) (g : Nat) (iv : Value) (wr : World) : Prop :=
  ∃ (i : Nat) (R : List Rw), i ≤ p.As.length ∧ iv = .int .i64 i ∧ g = p.As.length - i ∧ LR c bs k w b g5 g6 gR gl p X R wr ∧ Hid (LinGood p R)

/-- the state behind the copy of an arc -/
structure K30 (c : Nat) (bs : List Int) (k : Nat) (w : World) (b g5 g6 gR gl : Nat) (p : Pt) (X : List Int) (R : List Rw) (g17 : Nat) (a : Ar) (W : World) : Prop where
  r : LR c bs k w b g5 g6 gR gl p X R W
  b : Blk W g17 86 #[.int .i64 a.frm, .int .i64 a.idx, .int .i64 a.dst, .int .i64 a.at_]
  l : gl < g17
  x : gR < g17 ∧ g6 < g17
  f : ∀ (q : Nat) (s : Rw), R[q]? = some s → ∀ g, (Rw.val s).ownBlock = some g → g < g17
theorem labB_at {es : List Ev} {x : Nat} {e : Ev} (h : es[x]? = some e) : labB es e.inc ((x : Int) + 1) = true := by
  have hl := (List.getElem?_eq_some_iff.1 h).1
  unfold labB
  rw [if_neg (by omega), show ((x : Int) + 1 - 1).toNat = x by omega, List.getD_eq_getElem?_getD, h]
  simp only [Option.getD_some, beq_self_eq_true, Bool.and_true, Bool.and_eq_true, decide_eq_true_eq]
  omega
theorem labB_zero (es : List Ev) : labB es 0 0 = true := by unfold labB; rw [if_pos rfl]; rfl
theorem Blk.put7 {W : World} {g : Nat} {t : TypeId} {a0 a1 a2 a3 a4 a5 a6 : Value} (h : Blk W g t #[a0, a1, a2, a3, a4, a5, a6]) (v0 v1 v2 v3 v4 v5 v6 : Value) : Blk (((((((W.setCell ⟨g, 0, none⟩ v0).setCell ⟨g, 1, none⟩ v1).setCell ⟨g, 2, none⟩ v2).setCell ⟨g, 3, none⟩ v3).setCell ⟨g, 4, none⟩ v4).setCell ⟨g, 5, none⟩ v5).setCell ⟨g, 6, none⟩ v6) g t #[v0, v1, v2, v3, v4, v5, v6] := by
  unfold Blk at *
  simp [World.setCell, Array.getElem?_modify, h]
theorem blk4 {w : World} {g : Nat} {t : TypeId} {a b c d : Value} (h : Blk w g t #[a, b, c, d]) : w.cell? ⟨g, 0, none⟩ = some a ∧ w.cell? ⟨g, 1, none⟩ = some b ∧ w.cell? ⟨g, 2, none⟩ = some c ∧ w.cell? ⟨g, 3, none⟩ = some d := by simp [h.cell]
theorem ev7' {W : World} {g : Nat} {t : TypeId} {e : Ev} (h : Blk W g t e.cells.toArray) : W.cell? ⟨g, 0, none⟩ = some (.int .i64 e.kind) ∧ W.cell? ⟨g, 1, none⟩ = some (.int .i64 e.inc) ∧ W.cell? ⟨g, 2, none⟩ = some (.int .i64 e.frm) ∧ W.cell? ⟨g, 3, none⟩ = some (.int .i64 e.sinc) ∧ W.cell? ⟨g, 4, none⟩ = some (.int .i64 e.sidx) ∧ W.cell? ⟨g, 5, none⟩ = some (.int .i64 e.ord) ∧ W.cell? ⟨g, 6, none⟩ = some (.int .i64 e.val) := by simp [h.cell, Ev.cells]
section
variable {c : Nat} {bs : List Int} {k : Nat} {w : World} {b g5 g6 gR gl g17 : Nat} {p : Pt} {X : List Int} {R : List Rw} {a : Ar} {W W' : World}
theorem K30.ext (h : K30 c bs k w b g5 g6 gR gl p X R g17 a W) (hE : Ext W W') : K30 c bs k w b g5 g6 gR gl p X R g17 a W' := ⟨h.r.ext hE, h.b.ext hE, h.l, h.x, h.f⟩
theorem K30.drew (h : K30 c bs k w b g5 g6 gR gl p X R g17 a W) : K30 c bs k w b g5 g6 gR gl p X R g17 a W.drew := h.ext (Below.drew (Ext.refl W))
theorem K30.alloc (h : K30 c bs k w b g5 g6 gR gl p X R g17 a W) (o : Obj) : K30 c bs k w b g5 g6 gR gl p X R g17 a (W.alloc o) := h.ext ((Ext.refl W).allocs o)
theorem K30.drawn (h : K30 c bs k w b g5 g6 gR gl p X R g17 a W) (hg : W.grownBy W' (some c)) (hD : Drew c bs k w W') (hcb : c < b) (h5 : c < g5) (h6 : c < g6) (hR : c < gR) (hl : c < gl) : K30 c bs k w b g5 g6 gR gl p X R g17 a W' :=
  ⟨h.r.drawn hg hD hcb h5 h6 hR hl, h.b.grown hg (by have := h.l; omega), h.l, h.x, h.f⟩
theorem K30.put (h : K30 c bs k w b g5 g6 gR gl p X R g17 a W) {g : Nat} (hg : W.grownBy W' (some g)) (hlt : g17 < g) (hcl : c < w.heap.size) (h56 : g5 < g6) (hw : w.heap.size ≤ g6) (haw : ∀ g, g6 ≤ g → PtAway g p) : K30 c bs k w b g5 g6 gR gl p X R g17 a W' := by
  have hl := h.l
  have hx := h.x
  refine ⟨⟨h.r.s.put hg (fun r e => ?_) haw hcl h56 hw, ?_, h.r.l.far hg (by omega) fun q s hs e => by have := h.f q s hs g e; omega⟩, h.b.trans' hg (by omega), h.l, h.x, h.f⟩
  · injection e with e
    omega
  · exact Blk.trans' h.r.x hg (by omega)
theorem K30.set (h : K30 c bs k w b g5 g6 gR gl p X R g17 a W) {g o : Nat} (hlt : g17 < g) (hcl : c < w.heap.size) (h56 : g5 < g6) (hw : w.heap.size ≤ g6) (haw : ∀ g, g6 ≤ g → PtAway g p) (v : Value) : K30 c bs k w b g5 g6 gR gl p X R g17 a (W.setCell ⟨g, o, none⟩ v) := h.put (grown_set1 _ _ _ _) hlt hcl h56 hw haw
theorem K30.put7 (h : K30 c bs k w b g5 g6 gR gl p X R g17 a W) {g : Nat} (hlt : g17 < g) (hcl : c < w.heap.size) (h56 : g5 < g6) (hw : w.heap.size ≤ g6) (haw : ∀ g, g6 ≤ g → PtAway g p) (v0 v1 v2 v3 v4 v5 v6 : Value) : K30 c bs k w b g5 g6 gR gl p X R g17 a (((((((W.setCell ⟨g, 0, none⟩ v0).setCell ⟨g, 1, none⟩ v1).setCell ⟨g, 2, none⟩ v2).setCell ⟨g, 3, none⟩ v3).setCell ⟨g, 4, none⟩ v4).setCell ⟨g, 5, none⟩ v5).setCell ⟨g, 6, none⟩ v6) :=
  h.put (grown_setCells g [v0, v1, v2, v3, v4, v5, v6] 0 W) hlt hcl h56 hw haw
theorem LR.store7n (h : LR c bs k w b g5 g6 gR gl p X R W) {q : Nat} {s : Rw} (hs : R[q]? = some s) {j : Nat} (hj : j < s.es.length) (x : Ev) {g : Nat} (hA : s.A = some ⟨g, 0, none⟩)
    (haw : ∀ g, g6 ≤ g → PtAway g p) (hcl : c < w.heap.size) (h56 : g5 < g6) (hw : w.heap.size ≤ g6) : LR c bs k w b g5 g6 gR gl p X (R.set q ⟨s.A, s.c, s.es.set j x⟩) (((((((W.setCell ⟨g, j * 7, none⟩ (.int .i64 x.kind)).setCell ⟨g, j * 7 + 1, none⟩ (.int .i64 x.inc)).setCell ⟨g, j * 7 + 2, none⟩ (.int .i64 x.frm)).setCell ⟨g, j * 7 + 3, none⟩ (.int .i64 x.sinc)).setCell ⟨g, j * 7 + 4, none⟩ (.int .i64 x.sidx)).setCell ⟨g, j * 7 + 5, none⟩ (.int .i64 x.ord)).setCell ⟨g, j * 7 + 6, none⟩ (.int .i64 x.val)) := h.store7 hs hj x hA haw hcl h56 hw
theorem K30.keep (h : K30 c bs k w b g5 g6 gR gl p X R g17 a W) {d : Nat} {gD dc : Nat} {des : List Ev} (hs : R[d]? = some ⟨some ⟨gD, 0, none⟩, dc, des⟩) {t : Nat} {ev : Ev} (he : (⟨some ⟨gD, 0, none⟩, dc, des⟩ : Rw).es[t]? = some ev) :
    W.cell? ⟨g17, 0, none⟩ = some (.int .i64 a.frm) ∧ W.cell? ⟨g17, 2, none⟩ = some (.int .i64 a.dst) ∧ W.cell? ⟨g17, 3, none⟩ = some (.int .i64 a.at_) ∧ W.cell? ⟨gl, d, none⟩ = some (.slice (some ⟨gD, 0, none⟩) des.length dc) ∧ W.cell? ⟨gD, t * 7 + 1, none⟩ = some (.int .i64 ev.inc) := by
  obtain ⟨k0, _, k2, k3⟩ := blk4 h.b
  exact ⟨k0, k2, k3, h.r.l.cell hs, h.r.l.ev hs he (g := gD) rfl (o := 1) (by omega) rfl⟩
end
theorem Iv.cellX {w : World} {b o : Nat} {l : List Int} (h : IntSeg w (some ⟨b, o, none⟩) l) {j : Nat} (hj : j < l.length) : w.cell? ⟨b, o + j, none⟩ = some (.int .i64 (elX l j)) := by
  obtain ⟨b', o', hA, hc⟩ := Iv.at_ h hj
  injection hA with hA
  injection hA with h1 h2
  subst h1 h2
  rw [hc, elX_at hj]
set_option maxRecDepth 100000 in
set_option maxHeartbeats 6400000 in
theorem lineages_any (c : Nat) (bs : List Int) (k : Nat) (w : World) (h : Codes w c bs k) (most : Nat) (hm : most ≤ 24) :
    Calls Try.prog 24 #[.pointer (some ⟨c, 0, none⟩), .int .i64 most] w (LinPost c bs k most w) := by
  have hcl := h.lt
  have hX5 := (Ext.refl w).allocs (.cells #[.slice none 0 0, .slice none 0 0, .slice none 0 0] 32)
  have hB5 := Blk.new w 32 #[.slice none 0 0, .slice none 0 0, .slice none 0 0]
  go_enter Try.func24, Try.ntmps24
  go_wp2_with fail
  refine (pattern_any c bs k _ (h.ext hX5) most hm).mono ?_
  rintro e w1 ⟨n, p, hn2, hn4, rfl, hM1, hO1, hD1⟩
  have hB51 := hB5.grown hD1.1 hcl
  have hD1' := hD1.pre hX5
  have hbz := hD1.1.size
  obtain ⟨b, hbE⟩ : ∃ b, (w.alloc (.cells #[.slice none 0 0, .slice none 0 0, .slice none 0 0] 32)).heap.size = b := ⟨_, rfl⟩
  rw [hbE] at hM1 hbz
  have hb1 : b = w.heap.size + 1 := by rw [← hbE]; simp
  clear hbE hB5 hD1 hX5 h
  have HM1 := Lib.hid hM1
  have HO1 := Lib.hid hO1
  clear hM1 hO1
  go_wp2_with fail
  refine (reduce_pt n most b p w1 HM1.out HO1.out hbz (by omega)).mono ?_
  rintro e w2 ⟨p', rfl, hM2, hO2, hE2, hpos, -⟩
  obtain ⟨A0, c0, Ls, A1, c1, Ks, v2, As⟩ := p'
  obtain ⟨A2, c2, hv2, _, _, _⟩ := own_slice hM2.a
  dsimp only at hv2
  subst hv2
  have hll : Ls.length = n := hO2.ll
  subst hll
  obtain ⟨bL, oL, hAL, _⟩ := Iv.at_ hM2.l (show 0 < Ls.length by omega)
  dsimp only at hAL
  subst hAL
  have hD2 := hD1'.post hE2
  have hB52 := hB51.ext hE2
  have hz2 := hE2.size
  have hX6 := (Ext.refl w2).allocs (.cells #[.slice (some ⟨bL, oL, none⟩) Ls.length c0, .slice A1 Ks.length c1, .slice A2 As.length c2] 32)
  have hB6 : Blk (w2.alloc (.cells #[.slice (some ⟨bL, oL, none⟩) Ls.length c0, .slice A1 Ks.length c1, .slice A2 As.length c2] 32)) w2.heap.size 32 #[.slice (some ⟨bL, oL, none⟩) Ls.length c0, .slice A1 Ks.length c1, .slice A2 As.length c2] := Blk.new w2 _ _
  have HAW : Hid (∀ g, w2.heap.size ≤ g → PtAway g ⟨some ⟨bL, oL, none⟩, c0, Ls, A1, c1, Ks, .slice A2 As.length c2, As⟩) := fun g hg => hM2.away hg
  have hLS : LS c bs k w b w.heap.size w2.heap.size ⟨some ⟨bL, oL, none⟩, c0, Ls, A1, c1, Ks, .slice A2 As.length c2, As⟩ (w2.alloc (.cells #[.slice (some ⟨bL, oL, none⟩) Ls.length c0, .slice A1 Ks.length c1, .slice A2 As.length c2] 32)) := ⟨hD2.post hX6, hM2.ext hX6, hB52.ext hX6, hB6⟩
  have HLS := Lib.hid hLS
  have HO := Lib.hid hO2
  have HP := Lib.hid hpos
  obtain ⟨⟨x0, x1, x2⟩, _, _, _⟩ := blk3 hB6
  clear hLS hO2 hpos hM2 HM1 HO1 hB51 hB52 hD1' hD2
  go_upto_region 2 with fail
  obtain ⟨w3, hw3⟩ : ∃ w3, w2.alloc (.cells #[.slice (some ⟨bL, oL, none⟩) Ls.length c0, .slice A1 Ks.length c1, .slice A2 As.length c2] 32) = w3 := ⟨_, rfl⟩
  have hz3 : w3.heap.size = w2.heap.size + 1 := by rw [← hw3]; simp
  rw [hw3] at HLS x0 x1 x2 ⊢
  obtain ⟨g6, hg6⟩ : ∃ g6, w2.heap.size = g6 := ⟨_, rfl⟩
  rw [hg6] at HLS HAW hz3 hz2 x0 x1 x2
  try rw [hg6]
  obtain ⟨g5, hg5⟩ : ∃ g5, w.heap.size = g5 := ⟨_, rfl⟩
  rw [hg5] at HLS
  have hc5 : c < g5 := by omega
  have hcb : c < b := by omega
  have h56 : g5 < g6 := by omega
  have hc6 : c < g6 := by omega
  have hw6 : w.heap.size ≤ g6 := by omega
  have hgb : b ≤ g6 := by omega
  have HG5 := Lib.hid hg5
  have HB1 := Lib.hid hb1
  clear hw3 hB6 hX6 hE2 hg6 hb1 hbz hz2
  have hmk := mk_ints Ls.length (by omega) w3
  obtain ⟨gR, hgR⟩ : ∃ gR, w3.heap.size = gR := ⟨_, rfl⟩
  have hVR : VecB (w3.alloc (.cells ((List.replicate Ls.length (0 : Int)).flatMap Iv).toArray 3)) gR (List.replicate Ls.length 0) := by rw [← hgR]; exact Blk.new w3 _ _
  have hXR := (Ext.refl w3).allocs (.cells ((List.replicate Ls.length (0 : Int)).flatMap Iv).toArray 3)
  obtain ⟨w4, hw4⟩ : ∃ w4, w3.alloc (.cells ((List.replicate Ls.length (0 : Int)).flatMap Iv).toArray 3) = w4 := ⟨_, rfl⟩
  have hz4 : w4.heap.size = gR + 1 := by rw [← hw4, ← hgR]; simp
  rw [hw4] at hmk hVR hXR
  rw [hgR] at hmk hz3
  have h6R : g6 < gR := by omega
  clear hg5 hz3
  go_upto_region 5 with fail
  have hLS4 := HLS.out.ext hXR
  have HLS4 := Lib.hid hLS4
  have HVR := Lib.hid hVR
  clear hw4 hmk hXR hgR HLS hLS4 hVR x0 x1 x2
  go_loopg [9] Ls.length (fun g iv wr => L1 c bs k w b g5 g6 gR ⟨some ⟨bL, oL, none⟩, c0, Ls, A1, c1, Ks, .slice A2 As.length c2, As⟩ g iv wr)
  case atStart => exact ⟨0, _, Nat.zero_le _, rfl, rfl, HLS4.out, HVR.out, (⟨List.length_replicate, fun r hr => absurd hr (by omega)⟩ : _ ∧ _)⟩
  case round =>
    clear HLS4 HVR hz4
    obtain ⟨j, X, hj, rfl, rfl, hS, hV, HX⟩ := hrel
    dsimp only at hj HX
    have hcR : c < gR := by omega
    by_cases hlt : j < Ls.length
    · go_wp2_with fail
      refine (next_on hS.d (Ext.refl _) 6 (by omega) (by omega)).mono ?_
      rintro e w5 ⟨r1, rfl, ⟨hr10, hr11⟩, hD5, hg5z⟩
      have hS5 := hS.drawn hg5z hD5 hcb hc5 hc6
      have hV5 : VecB w5 gR X := hV.grown hg5z hcR
      clear hS hV hD5 hg5z
      have hjX : j < X.length := by rw [HX.out.1]; exact hlt
      have hj0 : (0 : Int) ≤ (j : Int) := by omega
      have hj1 : (j : Int) < (Ls.length : Int) := by omega
      have hcellX := hV5.at_ hjX
      have hfrX := hV5.frz j
      have hw1 : IntKind.i64.wrap (1 + r1) = 1 + r1 := IntWalk.i64_in _ (by omega)
      go_wp2_with fail
      go_roundg (Ls.length - (j + 1))
      case measure => omega
      case rel =>
        refine ⟨j + 1, _, by show j + 1 ≤ Ls.length; omega, by go_num, rfl, hS5.put (grown_set1 _ _ _ _) (fun r e => by injection e; omega) HAW.out hcl h56 hw6, hV5.set hjX _, (⟨by rw [List.length_set]; exact HX.out.1, fun r hr => ?_⟩ : _ ∧ _)⟩
        rw [elX_set _ _ _ _ hjX]
        split
        · omega
        · exact HX.out.2 r (by omega)
    · obtain rfl : j = Ls.length := by omega
      have hmk := mk_rows Ls.length (by omega) wr
      obtain ⟨gl, hgl⟩ : ∃ gl, wr.heap.size = gl := ⟨_, rfl⟩
      have hLw : LinOwn (wr.alloc (.cells ((List.replicate Ls.length (⟨none, 0, []⟩ : Rw)).flatMap Rw.cells).toArray 55)) (g6 + 1) gl (List.replicate Ls.length ⟨none, 0, []⟩) := LinOwn.start (by rw [← hgl]; exact Blk.new wr _ _)
      have hXl := (Ext.refl wr).allocs (.cells ((List.replicate Ls.length (⟨none, 0, []⟩ : Rw)).flatMap Rw.cells).toArray 55)
      have hRl : gR < gl := by rw [← hgl]; exact hV.lt
      have hLRw := hS.ext hXl
      have hVw := hV.ext hXl
      clear hS hV hlt
      obtain ⟨w5, hw5⟩ : ∃ w5, wr.alloc (.cells ((List.replicate Ls.length (⟨none, 0, []⟩ : Rw)).flatMap Rw.cells).toArray 55) = w5 := ⟨_, rfl⟩
      rw [hw5] at hmk hLw hLRw hVw
      rw [hgl] at hmk
      clear hXl hw5 hgl
      go_upto_region 10 with fail
      have h6l : g6 < gl := by omega
      have hclg : c < gl := by omega
      have hRln : gR ≠ gl := by omega
      have HLR : Hid (LR c bs k w b g5 g6 gR gl ⟨some ⟨bL, oL, none⟩, c0, Ls, A1, c1, Ks, .slice A2 As.length c2, As⟩ X (List.replicate Ls.length ⟨none, 0, []⟩) w5) := ⟨hLRw, hVw, hLw⟩
      clear hLw hLRw hVw hmk
      go_loopg [11] Ls.length (fun g iv wr => L2 c bs k w b g5 g6 gR gl ⟨some ⟨bL, oL, none⟩, c0, Ls, A1, c1, Ks, .slice A2 As.length c2, As⟩ X g iv wr)
      case atStart => exact ⟨0, _, Nat.zero_le _, rfl, rfl, HLR.out, Ticks.start _ _⟩
      case round =>
        clear HLR
        obtain ⟨q, R, hq, rfl, rfl, hR, HT⟩ := hrel
        dsimp only at hq HT
        by_cases hlt : q < Ls.length
        · have hlb := HO.out.lb q hlt
          dsimp only at hlb
          have hq0 : (0 : Int) ≤ (q : Int) := by omega
          have hq1 : (q : Int) < (Ls.length : Int) := by omega
          go_upto_region 13 with fail
          have HR := Lib.hid hR
          have HT0 := HT
          clear hR HT
          go_loopg [12] (elX Ls q).toNat (fun g iv wr => L3 c bs k w b g5 g6 gR gl ⟨some ⟨bL, oL, none⟩, c0, Ls, A1, c1, Ks, .slice A2 As.length c2, As⟩ X q g iv wr)
          case atStart => exact ⟨0, R, hlb.1, rfl, rfl, HR.out, HT0.out⟩
          case round =>
            clear HR HT0
            obtain ⟨j, R, hj, rfl, rfl, hR, HT⟩ := hrel
            dsimp only at hj HT
            have hj30 : j ≤ 60 := by omega
            obtain ⟨⟨x0, x1, x2⟩, _, _, _⟩ := blk3 hR.s.b6
            have pq := Iv.cellX hR.s.m.l hlt
            by_cases hk : (j : Int) + 1 ≤ elX Ls q
            · have dk : decide ((j : Int) + 1 ≤ elX Ls q) = true := decide_eq_true hk
              have HK1 := Lib.hid hk
              clear hk
              go_upto_region 15 with fail
              obtain ⟨s, hs⟩ : ∃ s, R[q]? = some s := ⟨_, List.getElem?_eq_getElem (by rw [HT.out.1]; exact hlt)⟩
              obtain ⟨sA, sc, es⟩ := s
              have hsl : es.length = j := by
                have h1 := (HT.out.2 q _ hs).1
                unfold cntF at h1
                rw [if_neg (by omega), if_pos rfl] at h1
                dsimp only at h1
                omega
              have hes : es.length ≤ 60 := by omega
              have HSL := Lib.hid hsl
              clear hsl
              have hc := hR.l.cell hs
              have hql0 : (0 : Int) ≤ (q : Int) := by omega
              have HR := Lib.hid hR
              clear hR x0 x1 x2 pq dk
              refine wp_region_sched (by kernel_rfl) 11 [(0, true), (1, true), (2, true), (3, true), (4, true), (5, true), (6, true), (7, false), (8, true), (9, false), (10, false), (11, false), (12, false)] (fun w' => w'.cell? ⟨gl, q, none⟩ = some (.slice sA es.length sc) ∧ True) (by kernel_rfl) (fun _ _ d _ _ h => by cases d <;> exact h) ⟨hc, trivial⟩ (fun hHeld => ?_)
              clear hc
              iterate 7 ((refine sched_read (v := ?_) rfl (Or.inl ⟨by rfl, ?_⟩) hHeld ?_; rotate_left 1; · (intro w' hSw; obtain ⟨t0, t1⟩ := hSw; go_simp; (first | done | with_reducible rfl))); (try simp only [Act.put, List.setIfInBounds_toArray, List.set_cons_zero, List.set_cons_succ]))
              refine sched_eff rfl (fun K hK => ?_)
              go_simp
              refine (next_on HR.out.s.d (Below.drew (Ext.refl _)) 4 (by omega) (by omega)).mono ?_
              rintro e w6 ⟨r6, rfl, ⟨hr60, hr61⟩, hD6, hg6z⟩
              have hR6 := (HR.out.ext (Below.drew (Ext.refl wr))).drawn hg6z hD6 hcb hc5 hc6 hcR hclg
              have hc := hR6.l.cell hs
              have HR := Lib.hid hR6
              clear hR6 hD6 hg6z
              go_wp2_with fail
              refine hK.out _ _ ⟨hc, trivial⟩ (fun hHeld => ?_)
              clear hK K
              try simp only [Act.put, List.setIfInBounds_toArray, List.set_cons_zero, List.set_cons_succ]
              iterate 1 ((refine sched_read (v := ?_) rfl (Or.inl ⟨by rfl, ?_⟩) hHeld ?_; rotate_left 1; · (intro w' hSw; obtain ⟨t0, t1⟩ := hSw; go_simp; (first | done | with_reducible rfl))); (try simp only [Act.put, List.setIfInBounds_toArray, List.set_cons_zero, List.set_cons_succ]))
              have hEa : Ext w6 (w6.alloc (.cells (Ev.cells ⟨2, 0, 0, 0, 0, 0, r6⟩).toArray 61)) := (Ext.refl w6).allocs _
              have HBa : Hid (Blk (w6.alloc (.cells (Ev.cells ⟨2, 0, 0, 0, 0, 0, r6⟩).toArray 61)) w6.heap.size 61 (Ev.cells ⟨2, 0, 0, 0, 0, 0, r6⟩).toArray) := Blk.new w6 _ _
              have HRa := Lib.hid (HR.out.ext hEa)
              refine sched_eff rfl (fun K hK => ?_)
              go_simp
              refine hK.out _ _ ⟨hEa.keepCellM hc, trivial⟩ (fun hHeld => ?_)
              clear hK K
              try simp only [Act.put, List.setIfInBounds_toArray, List.set_cons_zero, List.set_cons_succ]
              clear hc
              have hza : g6 + 1 ≤ (w6.alloc (.cells (Ev.cells ⟨2, 0, 0, 0, 0, 0, r6⟩).toArray 61)).heap.size := by have := HRa.out.s.b6.lt; omega
              refine sched_eff rfl (fun K hK => ?_)
              refine step_push_lies Ev.cells 7 56 Ev.len Ev.one (by omega) (by rfl) _ _ _ (by rfl) (g6 + 1) 61 Try.underlying55 (by kernel_rfl) (.slice sA es.length sc) es ⟨2, 0, 0, 0, 0, 0, r6⟩ w6.heap.size (by rfl) (HRa.out.l.r q _ hs) (by rfl) (Seg.ofBlk HBa.out rfl) (by unfold maxLen; omega) (by omega) hza ?_
              intro g9 c9 w9 hown9 hg9 hd9
              have hpu := HRa.out.push hs hown9 hg9 hd9 HAW.out hcl h56 hw6 h6l hRln
              obtain ⟨x9, y9, hR9⟩ := hpu
              refine hK.out _ _ ⟨x9, trivial⟩ (fun hHeld => ?_)
              clear hK K
              try simp only [Act.put, List.setIfInBounds_toArray, List.set_cons_zero, List.set_cons_succ]
              have HR9 := Lib.hid hR9
              clear hR9 hown9 hg9 hd9
              refine sched_tail rfl (by decide) (fun K hK => ?_)
              go_simp
              refine hK.out _ _ ?_
              clear hK K
              try simp only [Act.put, List.setIfInBounds_toArray, List.set_cons_zero, List.set_cons_succ]
              refine sched_tail rfl (by decide) (fun K hK => ?_)
              go_simp
              refine hK.out _ _ ?_
              clear hK K
              refine sched_done ?_
              clear x9 y9
              have hwj : IntKind.i64.wrap ((j : Int) + 1 + 1) = (j : Int) + 1 + 1 := IntWalk.i64_in _ (by omega)
              go_wp2_with fail
              go_roundg ((elX Ls q).toNat - (j + 1))
              case measure => have := HK1.out; omega
              case rel => exact ⟨j + 1, _, (by have := HK1.out; show ((j + 1 : Nat) : Int) ≤ elX Ls q; omega), by go_num, rfl, HR9.out, HT.out.push hs ⟨rfl, by unfold Ev.sm smI; dsimp only; omega⟩⟩
            · have dk : decide ((j : Int) + 1 ≤ elX Ls q) = false := decide_eq_false hk
              have hjq : (j : Int) = elX Ls q := by omega
              have HT2 : Hid (Ticks Ls.length (cntF Ls (q + 1) 0) R) := HT.out.congr fun r hr => by
                unfold cntF
                by_cases h1 : r < q
                · rw [if_pos h1, if_pos (by omega)]
                · rw [if_neg h1]
                  by_cases h2 : r = q
                  · subst h2; rw [if_pos rfl, if_pos (by omega)]; exact hjq
                  · rw [if_neg h2, if_neg (by omega)]; split <;> rfl
              clear hjq hk
              go_wp2_with fail
              go_roundg (Ls.length - (q + 1))
              case measure => omega
              case rel => exact ⟨q + 1, R, (by show q + 1 ≤ Ls.length; omega), by go_num, rfl, hR, HT2.out⟩
        · obtain rfl : q = Ls.length := by omega
          have HT2 : Hid (Ticks Ls.length (elX Ls) R) := HT.out.congr fun q hq => if_pos hq
          have HR := Lib.hid hR
          clear HT hR hlt
          go_upto_region 17 with fail
          go_loopg [13] Ls.length (fun g iv wr => L4 c bs k w b g5 g6 gR gl ⟨some ⟨bL, oL, none⟩, c0, Ls, A1, c1, Ks, .slice A2 As.length c2, As⟩ X g iv wr)
          case atStart => exact ⟨0, R, Nat.zero_le _, rfl, rfl, HR.out, HT2.out⟩
          case round =>
            clear HR HT2
            obtain ⟨q, R, hq, rfl, rfl, hR, HT⟩ := hrel
            dsimp only at hq HT
            by_cases hlt : q < Ls.length
            · have hlb := HO.out.lb q hlt
              dsimp only at hlb
              have hq0 : (0 : Int) ≤ (q : Int) := by omega
              have hq1 : (q : Int) < (Ls.length : Int) := by omega
              have hX1 := HX.out.2 q hlt
              have hqX : q < X.length := by rw [HX.out.1]; exact hlt
              go_upto_region 21 with fail
              have HR := Lib.hid hR
              have HT0 := HT
              clear hR HT
              go_loopg [14, 15] (elX Ls q).toNat (fun g uv iv wr => L5 c bs k w b g5 g6 gR gl ⟨some ⟨bL, oL, none⟩, c0, Ls, A1, c1, Ks, .slice A2 As.length c2, As⟩ X q g uv iv wr)
              case atStart => exact ⟨0, 0, R, hlb.1, rfl, rfl, Int.le_refl _, Int.le_refl _, rfl, HR.out, HT0.out⟩
              case round =>
                clear HR HT0
                obtain ⟨j, u, R, hj, rfl, rfl, hu0, hu1, rfl, hR, HT⟩ := hrel
                dsimp only at hj HT
                have hj30 : j ≤ 60 := by omega
                obtain ⟨⟨x0, x1, x2⟩, _, _, _⟩ := blk3 hR.s.b6
                have pq := Iv.cellX hR.s.m.l hlt
                by_cases hk : (j : Int) + 1 ≤ elX Ls q
                · have dk : decide ((j : Int) + 1 ≤ elX Ls q) = true := decide_eq_true hk
                  have HK1 := Lib.hid hk
                  clear hk
                  have pX := hR.x.at_ hqX
                  go_wp2_with fail
                  refine (next_on hR.s.d (Ext.refl _) (elX X q) (by omega) (by omega)).mono ?_
                  rintro e w6 ⟨r6, rfl, ⟨hr60, hr61⟩, hD6, hg6z⟩
                  have hR6 := hR.drawn hg6z hD6 hcb hc5 hc6 hcR hclg
                  clear hR hD6 hg6z x0 x1 x2 pq pX dk
                  obtain ⟨s, hs⟩ : ∃ s, R[q]? = some s := ⟨_, List.getElem?_eq_getElem (by rw [HT.out.1]; exact hlt)⟩
                  obtain ⟨sA, sc, es⟩ := s
                  have hsl : (es.length : Int) = elX Ls q := (HT.out.2 q _ hs).1
                  have hje : j < es.length := by have := HK1.out; omega
                  obtain ⟨ev, hev⟩ : ∃ ev, es[j]? = some ev := ⟨_, List.getElem?_eq_getElem hje⟩
                  have he : (⟨sA, sc, es⟩ : Rw).es[j]? = some ev := hev
                  have HE := Lib.hid ((HT.out.2 q _ hs).2 ev (List.mem_of_getElem? he))
                  obtain ⟨gE, hA, _, _, _⟩ := hR6.l.row hs (by show 0 < es.length; omega)
                  dsimp only at hA
                  subst hA
                  have hA : (⟨some ⟨gE, 0, none⟩, sc, es⟩ : Rw).A = some ⟨gE, 0, none⟩ := rfl
                  have hc := hR6.l.cell hs
                  unfold Rw.val at hc
                  dsimp only at hc
                  have hce := hR6.l.ev hs he hA (o := 1) (by omega) (v := .int .i64 ev.inc) rfl
                  have hcf := hR6.l.evf hs hA (j * 7 + 1)
                  have hj0 : (0 : Int) ≤ (j : Int) := by omega
                  have hj1 : (j : Int) < (es.length : Int) := by omega
                  have hwk : IntKind.i64.wrap ((j : Int) + 1 - 1) = (j : Int) := by rw [show (j : Int) + 1 - 1 = (j : Int) by omega]; exact IntWalk.i64_in _ (by omega)
                  have hwj : IntKind.i64.wrap ((j : Int) + 1 + 1) = (j : Int) + 1 + 1 := IntWalk.i64_in _ (by omega)
                  have hwu : IntKind.i64.wrap (u + 1) = u + 1 := IntWalk.i64_in _ (by omega)
                  have HR := Lib.hid hR6
                  have HSL := Lib.hid hsl
                  clear hR6 hsl hev
                  by_cases h1 : r6 = 1
                  · have d1 : (r6 == 1) = true := by simp [h1]
                    clear h1

                    go_wp2_with fail
                    go_roundg ((elX Ls q).toNat - (j + 1))
                    case measure => have := HK1.out; omega
                    case rel => exact ⟨j + 1, u + 1, _, (by have := HK1.out; show ((j + 1 : Nat) : Int) ≤ elX Ls q; omega), by go_num, rfl, by omega, by omega, rfl, HR.out.store1 hs he (g := gE) rfl (o := 1) (by omega) (x := ⟨ev.kind, u + 1, ev.frm, ev.sinc, ev.sidx, ev.ord, ev.val⟩) rfl HAW.out hcl h56 hw6, HT.out.set hs ⟨HE.out.1, by have := HE.out.2; unfold Ev.sm smI at *; dsimp only; omega⟩⟩
                  · have d1 : (r6 == 1) = false := by simp [h1]
                    clear h1

                    go_wp2_with fail
                    go_roundg ((elX Ls q).toNat - (j + 1))
                    case measure => have := HK1.out; omega
                    case rel => exact ⟨j + 1, u, _, (by have := HK1.out; show ((j + 1 : Nat) : Int) ≤ elX Ls q; omega), by go_num, rfl, by omega, by omega, rfl, HR.out.store1 hs he (g := gE) rfl (o := 1) (by omega) (x := ⟨ev.kind, u, ev.frm, ev.sinc, ev.sidx, ev.ord, ev.val⟩) rfl HAW.out hcl h56 hw6, HT.out.set hs ⟨HE.out.1, by have := HE.out.2; unfold Ev.sm smI at *; dsimp only; omega⟩⟩
                · have dk : decide ((j : Int) + 1 ≤ elX Ls q) = false := decide_eq_false hk
                  go_wp2_with fail
                  go_roundg (Ls.length - (q + 1))
                  case measure => omega
                  case rel => exact ⟨q + 1, R, (by show q + 1 ≤ Ls.length; omega), by go_num, rfl, hR, HT.out⟩
            · obtain rfl : q = Ls.length := by omega
              have HG : Hid (LinGood ⟨some ⟨bL, oL, none⟩, c0, Ls, A1, c1, Ks, .slice A2 As.length c2, As⟩ R) := LinGood.start HT.out
              have HR := Lib.hid hR
              clear HT hR hlt HX
              go_upto_region 27 with fail
              go_loopg [16] As.length (fun g iv wr => L6 c bs k w b g5 g6 gR gl ⟨some ⟨bL, oL, none⟩, c0, Ls, A1, c1, Ks, .slice A2 As.length c2, As⟩ X g iv wr)
              case atStart => exact ⟨0, R, Nat.zero_le _, rfl, rfl, HR.out, HG.out⟩
              case round =>
                clear HR HG
                obtain ⟨i, R, hi, rfl, rfl, hR, HG⟩ := hrel
                dsimp only at hi HG
                obtain ⟨⟨x0, x1, x2⟩, xf0, xf1, xf2⟩ := blk3 hR.s.b6
                by_cases hlt : i < As.length
                · obtain ⟨a, ha⟩ : ∃ a, As[i] = a := ⟨_, rfl⟩
                  have hin : a ∈ As := by rw [← ha]; exact List.getElem_mem hlt
                  have hok := HO.out.ab a hin
                  have hpos := HP.out a hin
                  obtain ⟨bA, oA, hAA, a0, a1, a2, a3⟩ := Ar.at__ (Seg.of_own hR.s.m.a) hlt
                  rw [ha] at a0 a1 a2 a3
                  clear ha
                  try dsimp only at hAA
                  subst hAA
                  have HOK := Lib.hid hok
                  have HIN := Lib.hid hin
                  clear hin
                  obtain ⟨fr, ix, ds, tt⟩ := a
                  (try dsimp only at hok); (try dsimp only at hpos); (try dsimp only at a0); (try dsimp only at a1); (try dsimp only at a2); (try dsimp only at a3)
                  obtain ⟨⟨hf0, hf1⟩, ⟨hd0, hd1⟩, hfd, ⟨hx0, hx1⟩, ⟨hat0, hat1⟩⟩ := hok
                  (try dsimp only at hf0); (try dsimp only at hf1); (try dsimp only at hd0); (try dsimp only at hd1); (try dsimp only at hfd); (try dsimp only at hx0); (try dsimp only at hx1); (try dsimp only at hat0); (try dsimp only at hat1)
                  obtain ⟨f, rfl⟩ : ∃ f : Nat, fr = (f : Int) := ⟨fr.toNat, by omega⟩
                  obtain ⟨d, rfl⟩ : ∃ d : Nat, ds = (d : Int) := ⟨ds.toNat, by omega⟩
                  obtain ⟨t, rfl⟩ : ∃ t : Nat, tt = (t : Int) + 1 := ⟨(tt - 1).toNat, by omega⟩
                  simp only [Int.toNat_natCast] at hx1 hat1
                  have hfL : f < Ls.length := by omega
                  have hdL : d < Ls.length := by omega
                  have hlbd := HO.out.lb d hdL
                  have hlbf := HO.out.lb f hfL
                  dsimp only at hlbd hlbf
                  have hi0 : (0 : Int) ≤ (i : Int) := by omega
                  have hi1 : (i : Int) < (As.length : Int) := by omega
                  have hal : As.length ≤ most := HO.out.al
                  obtain ⟨sd, hsd⟩ : ∃ s, R[d]? = some s := ⟨_, List.getElem?_eq_getElem (by rw [HG.out.len]; exact hdL)⟩
                  obtain ⟨dA, dc, des⟩ := sd
                  have hdl : (des.length : Int) = elX Ls d := HG.out.rl d _ hsd
                  have htl : t < des.length := by omega
                  obtain ⟨ev, hev⟩ : ∃ ev, des[t]? = some ev := ⟨_, List.getElem?_eq_getElem htl⟩
                  have HEV := Lib.hid (HG.out.ev d _ t ev hsd hev).1
                  obtain ⟨gD, hA, _, _, _⟩ := hR.l.row hsd (by show 0 < des.length; omega)
                  dsimp only at hA
                  subst hA
                  have het : (⟨some ⟨gD, 0, none⟩, dc, des⟩ : Rw).es[t]? = some ev := hev
                  have hX7 := (Ext.refl wr).allocs (.cells #[.int .i64 f, .int .i64 ix, .int .i64 d, .int .i64 ((t : Int) + 1)] 86)
                  obtain ⟨g17, hg17⟩ : ∃ g17, wr.heap.size = g17 := ⟨_, rfl⟩
                  have hK0 : K30 c bs k w b g5 g6 gR gl ⟨some ⟨bL, oL, none⟩, c0, Ls, A1, c1, Ks, .slice (some ⟨bA, oA, none⟩) As.length c2, As⟩ X R g17 ⟨(f : Int), ix, (d : Int), (t : Int) + 1⟩ (wr.alloc (.cells #[.int .i64 f, .int .i64 ix, .int .i64 d, .int .i64 ((t : Int) + 1)] 86)) := ⟨hR.ext hX7, by rw [← hg17]; exact Blk.new wr _ _, by rw [← hg17]; exact hR.l.b.lt, by rw [← hg17]; exact ⟨hR.x.lt, hR.s.b6.lt⟩, fun q s hs g e => by rw [← hg17]; exact ((hR.l.r q s hs).lt g e).2⟩
                  have HDL := Lib.hid hdl
                  have HTL := Lib.hid htl
                  clear hdl hev hR
                  go_upto_region 30 with fail
                  clear x0 x1 x2 xf0 xf1 xf2 a0 a1 a2 a3
                  try rw [hg17]
                  obtain ⟨w7, hw7⟩ : ∃ w7, wr.alloc (.cells #[.int .i64 f, .int .i64 ix, .int .i64 d, .int .i64 ((t : Int) + 1)] 86) = w7 := ⟨_, rfl⟩
                  have hz7 : w7.heap.size = g17 + 1 := by rw [← hw7, ← hg17]; simp
                  rw [hw7] at hK0 ⊢
                  have HZ7 := Lib.hid hz7
                  clear hw7 hg17 hX7 hz7
                  have hd0' : (0 : Int) ≤ (d : Int) := by omega
                  have hd1' : (d : Int) < (Ls.length : Int) := by omega
                  have ht0 : (0 : Int) ≤ (t : Int) := by omega
                  have ht1 : (t : Int) < (des.length : Int) := by omega
                  have hwt : IntKind.i64.wrap ((t : Int) + 1 - 1) = (t : Int) := by rw [show (t : Int) + 1 - 1 = (t : Int) by omega]; exact IntWalk.i64_in _ (by omega)
                  have hwt2 : IntKind.i64.wrap (t : Int) = (t : Int) := IntWalk.i64_in _ (by omega)
                  have hwt3 : ((t : Int)).toNat = t := Int.toNat_natCast t
                  have HK0 := Lib.hid hK0
                  go_cut [18] (fun s18 wx => ∃ (g18 : Nat) (r6 : Int), s18 = .pointer (some ⟨g18, 0, none⟩) ∧ 0 ≤ r6 ∧ r6 ≤ 1 ∧ g17 < g18 ∧ K30 c bs k w b g5 g6 gR gl ⟨some ⟨bL, oL, none⟩, c0, Ls, A1, c1, Ks, .slice (some ⟨bA, oA, none⟩) As.length c2, As⟩ X R g17 ⟨(f : Int), ix, (d : Int), (t : Int) + 1⟩ wx ∧ Blk wx g18 61 (Ev.cells ⟨1, ev.inc, (f : Int), 0, 0, r6, 1⟩).toArray)
                  case first =>
                    (repeat (first | (rename (∀ (a : Act) (w : World), Code.wp _ _ _ a w → _) => hclr; clear hclr) | (rename (∀ (a : Act) (w : World), Handed _ _ a w → _) => hclr; clear hclr) | (rename (∀ (n : Nat) (a : Act) (w : World), _ → (_ : Nat → Act → World → Prop) n a w) => hclr; clear hclr)))
                    have hc := hK0.r.l.cell hsd
                    unfold Rw.val at hc
                    dsimp only at hc
                    obtain ⟨k0, k1, k2, k3⟩ := blk4 hK0.b
                    dsimp only at k0 k1 k2 k3
                    have hce := hK0.r.l.ev hsd het (g := gD) rfl (o := 1) (by omega) (v := .int .i64 ev.inc) rfl
                    have hk7 := hK0
                    have hN8 : Blk (w7.alloc (.cells #[.int .i64 0, .int .i64 0, .int .i64 0, .int .i64 0, .int .i64 0, .int .i64 0, .int .i64 0] 61)).drew w7.heap.size 61 #[.int .i64 0, .int .i64 0, .int .i64 0, .int .i64 0, .int .i64 0, .int .i64 0, .int .i64 0] := Blk.new w7 _ _
                    have hc8 : c < w7.heap.size := by have := HZ7.out; have := hk7.l; omega
                    clear hK0
                    refine wp_region_sch (by kernel_rfl) 17 (.read 0 (.read 1 (.read 2 (.read 3 (.read 4 (.read 5 (.read 6 (.read 7 (.read 8 (.read 9 (.read 10 (.read 11 (.read 12 (.read 13 (.two 14 16 (.read 15 (.one 16 (.one 17 .done))) (.one 14 (.read 15 (.one 17 .done)))))))))))))))))) (fun w' => w'.cell? ⟨g17, 0, none⟩ = some (.int .i64 f) ∧ w'.cell? ⟨g17, 2, none⟩ = some (.int .i64 d) ∧ w'.cell? ⟨g17, 3, none⟩ = some (.int .i64 ((t : Int) + 1)) ∧ w'.cell? ⟨gl, d, none⟩ = some (.slice (some ⟨gD, 0, none⟩) des.length dc) ∧ w'.cell? ⟨gD, t * 7 + 1, none⟩ = some (.int .i64 ev.inc)) (by kernel_rfl) (fun _ _ dd _ _ h => by cases dd <;> exact h) ⟨k0, k2, k3, hc, hce⟩ (fun hHeld => ?_)
                    clear k0 k1 k2 k3 hc hce
                    have HK7 := Lib.hid hk7
                    clear hk7
                    iterate 14 ((refine sch_read (v := ?_) rfl (Or.inl ⟨by rfl, ?_⟩) hHeld ?_; rotate_left 1; · (intro w' hSw; obtain ⟨t0, t1, t2, t3, t4⟩ := hSw; go_simp; (first | done | with_reducible rfl))); (try simp only [Act.put, List.setIfInBounds_toArray, List.set_cons_zero, List.set_cons_succ]))
                    refine sch_two rfl rfl (fun K hK => ?_) (fun K hK => ?_)
                    · go_simp
                      refine (next_on HK7.out.r.s.d (Below.drew (Ext.refl w7)) 2 (by omega) (by omega)).mono ?_
                      rintro e w8 ⟨r6, rfl, ⟨hr60, hr61⟩, hD8, hg8⟩
                      have HK8 := Lib.hid ((K30.drew HK7.out).drawn hg8 hD8 hcb hc5 hc6 hcR hclg)
                      have hz8 := hg8.size
                      clear hD8 hg8
                      go_wp2_with fail
                      refine hK.out _ _ (K30.keep (a := ⟨(f : Int), ix, (d : Int), (t : Int) + 1⟩) HK8.out hsd het) (fun hHeld => ?_)
                      clear hK K
                      try simp only [Act.put, List.setIfInBounds_toArray, List.set_cons_zero, List.set_cons_succ]
                      iterate 1 ((refine sch_read (v := ?_) rfl (Or.inl ⟨by rfl, ?_⟩) hHeld ?_; rotate_left 1; · (intro w' hSw; obtain ⟨t0, t1, t2, t3, t4⟩ := hSw; go_simp; (first | done | with_reducible rfl))); (try simp only [Act.put, List.setIfInBounds_toArray, List.set_cons_zero, List.set_cons_succ]))
                      refine sch_one rfl (fun K hK => ?_)
                      go_simp
                      refine hK.out _ _ (K30.keep (a := ⟨(f : Int), ix, (d : Int), (t : Int) + 1⟩) (HK8.out.alloc _) hsd het) (fun hHeld => ?_)
                      clear hK K
                      try simp only [Act.put, List.setIfInBounds_toArray, List.set_cons_zero, List.set_cons_succ]
                      refine sch_tail rfl (by decide) (fun K hK => ?_)
                      go_simp
                      refine hK.out _ _ ?_
                      clear hK K
                      refine sch_done ?_
                      go_wp2_with fail
                      go_meet
                      exact ⟨w8.heap.size, r6, rfl, hr60, Int.le_of_lt_add_one hr61, Nat.lt_of_lt_of_le (by have := HZ7.out; show g17 < w7.heap.size; omega) hz8, HK8.out.alloc _, Blk.new w8 _ _⟩
                    · go_simp
                      refine hK.out _ _ (K30.keep (a := ⟨(f : Int), ix, (d : Int), (t : Int) + 1⟩) (K30.drew (HK7.out.alloc _)) hsd het) (fun hHeld => ?_)
                      clear hK K
                      try simp only [Act.put, List.setIfInBounds_toArray, List.set_cons_zero, List.set_cons_succ]
                      refine sch_one rfl (fun K hK => ?_)
                      go_simp
                      refine (next_on HK7.out.r.s.d (Below.drew ((Ext.refl w7).allocs _)) 2 (by omega) (by omega)).mono ?_
                      rintro e w8 ⟨r6, rfl, ⟨hr60, hr61⟩, hD8, hg8⟩
                      have HK8 := Lib.hid ((K30.drew (HK7.out.alloc _)).drawn hg8 hD8 hcb hc5 hc6 hcR hclg)
                      have hB8 : Blk w8 w7.heap.size 61 #[.int .i64 0, .int .i64 0, .int .i64 0, .int .i64 0, .int .i64 0, .int .i64 0, .int .i64 0] := hN8.grown hg8 hc8
                      have hy8 := blk7 hB8
                      obtain ⟨⟨z0, z1, z2, z3, z4, z5, z6⟩, y0, y1, y2, y3, y4, y5, y6⟩ := hy8
                      have HB8 := Lib.hid hB8
                      clear hD8 hg8 hB8
                      go_wp2_with fail
                      refine hK.out _ _ (K30.keep (a := ⟨(f : Int), ix, (d : Int), (t : Int) + 1⟩) HK8.out hsd het) (fun hHeld => ?_)
                      clear hK K
                      try simp only [Act.put, List.setIfInBounds_toArray, List.set_cons_zero, List.set_cons_succ]
                      iterate 1 ((refine sch_read (v := ?_) rfl (Or.inl ⟨by rfl, ?_⟩) hHeld ?_; rotate_left 1; · (intro w' hSw; obtain ⟨t0, t1, t2, t3, t4⟩ := hSw; go_simp; (first | done | with_reducible rfl))); (try simp only [Act.put, List.setIfInBounds_toArray, List.set_cons_zero, List.set_cons_succ]))
                      refine sch_tail rfl (by decide) (fun K hK => ?_)
                      go_simp
                      refine hK.out _ _ ?_
                      clear hK K
                      refine sch_done ?_
                      clear z0 z1 z2 z3 z4 z5 z6 y0 y1 y2 y3 y4 y5 y6
                      go_wp2_with fail
                      go_meet
                      have h178 : g17 < w7.heap.size := by have := HZ7.out; omega
                      refine ⟨w7.heap.size, r6, rfl, hr60, Int.le_of_lt_add_one hr61, h178, ?_, ?_⟩
                      · with_reducible exact HK8.out.put7 h178 hcl h56 hw6 HAW.out _ _ _ _ _ _ _
                      · unfold Ev.cells
                        (try dsimp only)
                        exact HB8.out.put7 (.int .i64 1) (.int .i64 ev.inc) (.int .i64 f) (.int .i64 0) (.int .i64 0) (.int .i64 r6) (.int .i64 1)
                  case rest =>
                    obtain ⟨g18, r6, rfl, hr60, hr61, h178, hK8, hB18⟩ := hcut
                    have HB18 := Lib.hid hB18
                    clear hK0 HK0 HZ7
                    obtain ⟨k0, k1, k2, k3⟩ := blk4 hK8.b
                    dsimp only at k0 k1 k2 k3
                    go_upto_if 129 with fail
                    clear k0 k1 k2 k3
                    go_cut [18] (fun s18 wx => ∃ sinc : Int, s18 = .pointer (some ⟨g18, 0, none⟩) ∧ K30 c bs k w b g5 g6 gR gl ⟨some ⟨bL, oL, none⟩, c0, Ls, A1, c1, Ks, .slice (some ⟨bA, oA, none⟩) As.length c2, As⟩ X R g17 ⟨(f : Int), ix, (d : Int), (t : Int) + 1⟩ wx ∧ Blk wx g18 61 (Ev.cells ⟨1, ev.inc, (f : Int), sinc, ix, r6, 1⟩).toArray ∧ smI sinc ∧ labB (rowL (evsL R) ((f : Int)).toNat) sinc ix = true)
                    case first =>
                      (repeat (first | (rename (∀ (a : Act) (w : World), Code.wp _ _ _ a w → _) => hclr; clear hclr) | (rename (∀ (a : Act) (w : World), Handed _ _ a w → _) => hclr; clear hclr) | (rename (∀ (n : Nat) (a : Act) (w : World), _ → (_ : Nat → Act → World → Prop) n a w) => hclr; clear hclr)))
                      by_cases hix : 0 < ix
                      · obtain ⟨x, rfl⟩ : ∃ x : Nat, ix = (x : Int) + 1 := ⟨(ix - 1).toNat, by omega⟩
                        have dx : decide (0 < (x : Int) + 1) = true := decide_eq_true hix
                        clear hix
                        obtain ⟨sf, hsf⟩ : ∃ s, R[f]? = some s := ⟨_, List.getElem?_eq_getElem (by rw [HG.out.len]; exact hfL)⟩
                        obtain ⟨fA, fc, fes⟩ := sf
                        have hfl : (fes.length : Int) = elX Ls f := HG.out.rl f _ hsf
                        have hxl : x < fes.length := by omega
                        obtain ⟨fev, hfev⟩ : ∃ fev, fes[x]? = some fev := ⟨_, List.getElem?_eq_getElem hxl⟩
                        have HFV := Lib.hid (HG.out.ev f _ x fev hsf hfev).1
                        have HFE := Lib.hid hfev
                        obtain ⟨gF, hA, _, _, _⟩ := hK8.r.l.row hsf (by show 0 < fes.length; omega)
                        dsimp only at hA
                        subst hA
                        have hef : (⟨some ⟨gF, 0, none⟩, fc, fes⟩ : Rw).es[x]? = some fev := hfev
                        obtain ⟨k0, k1, k2, k3⟩ := blk4 hK8.b
                        dsimp only at k0 k1 k2 k3
                        have hcf := hK8.r.l.cell hsf
                        unfold Rw.val at hcf
                        dsimp only at hcf
                        have hce := hK8.r.l.ev hsf hef (g := gF) rfl (o := 1) (by omega) (v := .int .i64 fev.inc) rfl
                        obtain ⟨e0, e1, e2, e3, e4, e5, e6⟩ := ev7' HB18.out
                        dsimp only at e0 e1 e2 e3 e4 e5 e6
                        have y3 := HB18.out.frozen 3
                        have y4 := HB18.out.frozen 4
                        have hf0' : (0 : Int) ≤ (f : Int) := by omega
                        have hf1' : (f : Int) < (Ls.length : Int) := by omega
                        have hxx0 : (0 : Int) ≤ (x : Int) := by omega
                        have hxx1 : (x : Int) < (fes.length : Int) := by omega
                        have hwx : IntKind.i64.wrap ((x : Int) + 1 - 1) = (x : Int) := by rw [show (x : Int) + 1 - 1 = (x : Int) by omega]; exact IntWalk.i64_in _ (by omega)
                        have hwx2 : IntKind.i64.wrap (x : Int) = (x : Int) := IntWalk.i64_in _ (by omega)
                        have HFL := Lib.hid hfl
                        have HK8 := Lib.hid hK8
                        clear hfl hK8 hfev hB18
                        go_upto_region 32 with fail
                        refine wp_region_sched (by kernel_rfl) 15 [(0, true), (1, true), (2, true), (3, true), (4, true), (5, true), (6, true), (7, true), (8, true), (9, true), (10, true), (11, true), (12, true), (13, true), (14, true), (15, false)] (fun w' => w'.cell? ⟨g17, 0, none⟩ = some (.int .i64 f) ∧ w'.cell? ⟨g17, 1, none⟩ = some (.int .i64 ((x : Int) + 1)) ∧ w'.cell? ⟨gl, f, none⟩ = some (.slice (some ⟨gF, 0, none⟩) fes.length fc) ∧ w'.cell? ⟨gF, x * 7 + 1, none⟩ = some (.int .i64 fev.inc)) (by kernel_rfl) (fun _ _ dd _ _ h => by cases dd <;> exact h) ⟨k0, k1, hcf, hce⟩ (fun hHeld => ?_)
                        clear k0 k1 k2 k3 hcf hce
                        iterate 15 ((refine sched_read (v := ?_) rfl (Or.inl ⟨by rfl, ?_⟩) hHeld ?_; rotate_left 1; · (intro w' hSw; obtain ⟨t0, t1, t2, t3⟩ := hSw; go_simp; (first | done | with_reducible rfl))); (try simp only [Act.put, List.setIfInBounds_toArray, List.set_cons_zero, List.set_cons_succ]))
                        refine sched_tail rfl (by decide) (fun K hK => ?_)
                        go_simp
                        refine hK.out _ _ ?_
                        clear hK K
                        refine sched_done ?_
                        clear e0 e1 e2 e3 e4 e5 e6 y3 y4
                        go_wp2_with fail
                        go_meet
                        exact ⟨fev.inc, rfl, K30.drew ((HK8.out.set (o := 3) h178 hcl h56 hw6 HAW.out (.int .i64 fev.inc)).set (o := 4) h178 hcl h56 hw6 HAW.out (.int .i64 ((x : Int) + 1))), (HB18.out.set1 (.int .i64 fev.inc)).set1 (.int .i64 ((x : Int) + 1)), HFV.out.2.1, by rw [show ((f : Int)).toNat = f from Int.toNat_natCast f, evsL_get hsf]; exact labB_at HFE.out⟩
                      · have dx : decide (0 < ix) = false := decide_eq_false hix
                        obtain rfl : ix = 0 := by omega
                        go_wp2_with fail
                        go_meet
                        exact ⟨0, rfl, hK8, HB18.out, ⟨by omega, by omega⟩, labB_zero _⟩
                    case rest =>
                      obtain ⟨sinc, rfl, hK9, hB19, hsinc, hlab⟩ := hcut
                      have HB18 := Lib.hid hB19
                      have HSI := Lib.hid hsinc
                      have HLB := Lib.hid hlab
                      clear hK8 hB18 hB19 hsinc hlab
                      go_upto_region 33 with fail
                      have hsmx : smI ix := ⟨by omega, by omega⟩
                      have hsmf : smI (f : Int) := ⟨by omega, by omega⟩
                      have hsmr : smI r6 := ⟨by omega, by omega⟩
                      have HLG : Hid (LinGood ⟨some ⟨bL, oL, none⟩, c0, Ls, A1, c1, Ks, .slice (some ⟨bA, oA, none⟩) As.length c2, As⟩ (R.set d ⟨some ⟨gD, 0, none⟩, dc, des.set t ⟨1, ev.inc, (f : Int), sinc, ix, r6, 1⟩⟩)) := HG.out.arc (a := ⟨(f : Int), ix, (d : Int), (t : Int) + 1⟩) HIN.out HOK.out rfl hsd rfl rfl het rfl rfl rfl rfl ⟨⟨by show (-200 : Int) ≤ 1; omega, by show (1 : Int) ≤ 200; omega⟩, HEV.out.2.1, hsmf, HSI.out, hsmx, hsmr, ⟨by show (-200 : Int) ≤ 1; omega, by show (1 : Int) ≤ 200; omega⟩⟩ HLB.out
                      clear hsmx hsmf hsmr
                      have hc := hK9.r.l.cell hsd
                      unfold Rw.val at hc
                      dsimp only at hc
                      obtain ⟨k0, k1, k2, k3⟩ := blk4 hK9.b
                      dsimp only at k0 k1 k2 k3
                      obtain ⟨e0, e1, e2, e3, e4, e5, e6⟩ := ev7' HB18.out
                      dsimp only at e0 e1 e2 e3 e4 e5 e6
                      have KV := Lib.hid hK9
                      clear hK9

                      refine wp_region_sched (by kernel_rfl) 10 [(0, true), (1, true), (2, true), (3, true), (4, true), (5, true), (6, true), (7, true), (8, true), (9, true), (10, false)] (fun w' => w'.cell? ⟨g17, 2, none⟩ = some (.int .i64 d) ∧ w'.cell? ⟨g17, 3, none⟩ = some (.int .i64 ((t : Int) + 1)) ∧ w'.cell? ⟨gl, d, none⟩ = some (.slice (some ⟨gD, 0, none⟩) des.length dc) ∧ w'.cell? ⟨g18, 0, none⟩ = some (.int .i64 1) ∧ w'.cell? ⟨g18, 1, none⟩ = some (.int .i64 ev.inc) ∧ w'.cell? ⟨g18, 2, none⟩ = some (.int .i64 f) ∧ w'.cell? ⟨g18, 3, none⟩ = some (.int .i64 sinc) ∧ w'.cell? ⟨g18, 4, none⟩ = some (.int .i64 ix) ∧ w'.cell? ⟨g18, 5, none⟩ = some (.int .i64 r6) ∧ w'.cell? ⟨g18, 6, none⟩ = some (.int .i64 1)) (by kernel_rfl) (fun _ _ dd _ _ h => by cases dd <;> exact h) ⟨k2, k3, hc, e0, e1, e2, e3, e4, e5, e6⟩ (fun hHeld => ?_)
                      clear k0 k1 k2 k3 hc e0 e1 e2 e3 e4 e5 e6
                      iterate 10 ((refine sched_read (v := ?_) rfl (Or.inl ⟨by rfl, ?_⟩) hHeld ?_; rotate_left 1; · (intro w' hSw; obtain ⟨t0, t1, t2, t3, t4, t5, t6, t7, t8, t9⟩ := hSw; go_simp; (first | done | with_reducible rfl))); (try simp only [Act.put, List.setIfInBounds_toArray, List.set_cons_zero, List.set_cons_succ]))
                      have cD := fun o (ho : o < 7) v hv => KV.out.r.l.ev hsd het (g := gD) rfl (o := o) ho (v := v) hv
                      have c0' := cD 0 (by omega) _ rfl
                      have c1' := cD 1 (by omega) _ rfl
                      have c2' := cD 2 (by omega) _ rfl
                      have c3' := cD 3 (by omega) _ rfl
                      have c4' := cD 4 (by omega) _ rfl
                      have c5' := cD 5 (by omega) _ rfl
                      have c6' := cD 6 (by omega) _ rfl
                      have f0' := KV.out.r.l.evf hsd (g := gD) rfl (t * 7)
                      have f1' := KV.out.r.l.evf hsd (g := gD) rfl (t * 7 + 1)
                      have f2' := KV.out.r.l.evf hsd (g := gD) rfl (t * 7 + 2)
                      have f3' := KV.out.r.l.evf hsd (g := gD) rfl (t * 7 + 3)
                      have f4' := KV.out.r.l.evf hsd (g := gD) rfl (t * 7 + 4)
                      have f5' := KV.out.r.l.evf hsd (g := gD) rfl (t * 7 + 5)
                      have f6' := KV.out.r.l.evf hsd (g := gD) rfl (t * 7 + 6)
                      rw [Nat.add_zero] at c0'
                      clear cD
                      refine sched_tail rfl (by decide) (fun K hK => ?_)
                      go_simp
                      refine hK.out _ _ ?_
                      clear hK K
                      refine sched_done ?_
                      clear c0' c1' c2' c3' c4' c5' c6' f0' f1' f2' f3' f4' f5' f6'
                      have hR9 := LR.ext (KV.out.r.store7n hsd HTL.out ⟨1, ev.inc, (f : Int), sinc, ix, r6, 1⟩ (g := gD) rfl HAW.out hcl h56 hw6) (Below.drew (Ext.refl _))
                      dsimp only at hR9
                      have HR9 := Lib.hid hR9
                      clear hR9
                      (repeat (first | (with_reducible (rename (Hid (∀ (a : Act) (w : World), Code.wp _ _ _ a w → _)) => Hclr); have hclr := Hclr.out; clear Hclr) | (with_reducible (rename (Hid (∀ (a : Act) (w : World), Handed _ _ a w → _)) => Hclr); have hclr := Hclr.out; clear Hclr) | (with_reducible (rename (Hid (∀ (n : Nat) (a : Act) (w : World), _ → (_ : Nat → Act → World → Prop) n a w)) => Hclr); have hclr := Hclr.out; clear Hclr)))
                      go_wp2_with fail
                      go_roundg (As.length - (i + 1))
                      case measure => omega
                      case rel =>
                        refine ⟨i + 1, R.set d ⟨some ⟨gD, 0, none⟩, dc, des.set t ⟨1, ev.inc, (f : Int), sinc, ix, r6, 1⟩⟩, ?_, ?_, rfl, ?_, HLG⟩
                        · exact hlt
                        · rw [Int.natCast_succ]
                        · with_reducible exact HR9.out
                · obtain rfl : i = As.length := by omega
                  have hb5 := hR.s.b5
                  obtain ⟨_, y0, y1, y2⟩ := blk3 hb5
                  obtain ⟨⟨z0, z1, z2⟩, _, _, _⟩ := blk3 hb5
                  have HR := Lib.hid hR
                  have HB5 := Lib.hid hb5
                  clear hR hb5
                  go_upto_region 34 with fail
                  refine wp_region_sched (by kernel_rfl) 3 [(0, true), (1, true), (2, true), (3, false)] (fun w' => w'.cell? ⟨g6, 0, none⟩ = some (.slice (some ⟨bL, oL, none⟩) Ls.length c0) ∧ w'.cell? ⟨g6, 1, none⟩ = some (.slice A1 Ks.length c1) ∧ w'.cell? ⟨g6, 2, none⟩ = some (.slice A2 As.length c2)) (by kernel_rfl) (fun _ _ dd _ _ h => by cases dd <;> exact h) ⟨x0, x1, x2⟩ (fun hHeld => ?_)
                  iterate 3 ((refine sched_read (v := ?_) rfl (Or.inl ⟨by rfl, ?_⟩) hHeld ?_; rotate_left 1; · (intro w' hSw; obtain ⟨t0, t1, t2⟩ := hSw; go_simp; (first | done | with_reducible rfl))); (try simp only [Act.put, List.setIfInBounds_toArray, List.set_cons_zero, List.set_cons_succ]))
                  rw [HG5.out]
                  refine sched_tail rfl (by decide) (fun K hK => ?_)
                  go_simp
                  refine hK.out _ _ ?_
                  clear hK K
                  refine sched_done ?_
                  clear x0 x1 x2
                  have hw5 : w.heap.size ≤ g5 := by rw [HG5.out]; exact Nat.le_refl _
                  have h5b : g5 < b := by have := HB1.out; have := HG5.out; omega
                  have hl5 : gl ≠ g5 := by omega
                  have hR9 := HR.out.ext (Below.drew (Ext.refl wr))
                  have hM9 := hR9.s.m
                  have HFIN : Hid (∀ v0 v1 v2 : Value, LinOwn (((wr.drew.setCell ⟨g5, 0, none⟩ v0).setCell ⟨g5, 1, none⟩ v1).setCell ⟨g5, 2, none⟩ v2) (g6 + 1) gl R ∧ PtMem (((wr.drew.setCell ⟨g5, 0, none⟩ v0).setCell ⟨g5, 1, none⟩ v1).setCell ⟨g5, 2, none⟩ v2) w.heap.size ⟨some ⟨bL, oL, none⟩, c0, Ls, A1, c1, Ks, .slice A2 As.length c2, As⟩ ∧ Drew c bs k w (((wr.drew.setCell ⟨g5, 0, none⟩ v0).setCell ⟨g5, 1, none⟩ v1).setCell ⟨g5, 2, none⟩ v2)) := fun v0 v1 v2 => ⟨hR9.l.low (grown_sets3 _ g5 _ _ _) hl5 (by omega), (hM9.put (hM9.farAway h5b) (grown_sets3 _ g5 _ _ _)).base (by omega), ((hR9.s.d.set hw5 hcl _).set hw5 hcl _).set hw5 hcl _⟩
                  clear hR9 hM9 HR HB5
                  go_wp2_with fail
                  refine bodyPost_ret (v := .tuple #[.slice (some ⟨gl, 0, none⟩) Ls.length Ls.length, .agg #[.slice (some ⟨bL, oL, none⟩) Ls.length c0, .slice A1 Ks.length c1, .slice A2 As.length c2]]) (by simp [results, Try.results24, go_sem, *]) rfl ?_
                  obtain ⟨hl9, hm9, hd9⟩ := HFIN.out (.slice (some ⟨bL, oL, none⟩) Ls.length c0) (.slice A1 Ks.length c1) (.slice A2 As.length c2)
                  exact ⟨g6 + 1, gl, ⟨some ⟨bL, oL, none⟩, c0, Ls, A1, c1, Ks, .slice A2 As.length c2, As⟩, R, rfl, hn2, hn4, by omega, by omega, hl9, hm9, HO.out, HG.out, fun g hg => HAW.out g (by omega), HAW.out gl (by omega), hd9⟩
end Go.Proofs.Ytcljdkjlfciacaa
