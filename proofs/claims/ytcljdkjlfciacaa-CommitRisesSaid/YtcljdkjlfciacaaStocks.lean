/- stocks of the law. No statement of the seat is proved here. -/
import Derived.Test.YtcljdkjlfciacaaGOwn
import Derived.Test.YtcljdkjlfciacaaSched2
import Derived.Test.YtcljdkjlfciacaaPasts
namespace Go.Proofs.Ytcljdkjlfciacaa
open Go.RowKit
set_option linter.unusedVariables false

theorem infoDets : (Try.prog.info? 44).map (fun i => (i.zero, i.size, i.bytes)) = some (some (.slice none 0 0), 1, 24) := by kernel_rfl
theorem infoKnowns : (Try.prog.info? 73).map (fun i => (i.zero, i.size, i.bytes)) = some (some (.slice none 0 0), 1, 24) := by kernel_rfl
theorem mk_detrows (n : Nat) (hn : n ≤ 1000) (w : World) : (Instr.makeSlice 43 (.int .i64 (n : Int)) (.int .i64 (n : Int))).run Try.prog w =
    .ok (.slice (some ⟨w.heap.size, 0, none⟩) n n) (w.alloc (.cells ((List.replicate n (⟨none, 0, []⟩ : Gr Dt)).flatMap Gr.cells).toArray 44)) := by
  obtain ⟨i0, hi, hz0, hz1, hz2⟩ := info_parts infoDets
  rw [run_make w 43 44 i0 _ Try.underlying43 hi hz0 .i64 .i64 _ _ (by omega) (Int.le_refl _) (by rw [hz2]; omega) (by omega)]
  rw [hz1, show ((n : Int)).toNat = n by omega, made_flat Gr.cells 1 (by omega) Gr.len (⟨none, 0, []⟩ : Gr Dt) (Value.slice none 0 0).cells rfl]
theorem mk_knownrows (n : Nat) (hn : n ≤ 1000) (w : World) : (Instr.makeSlice 45 (.int .i64 (n : Int)) (.int .i64 (n : Int))).run Try.prog w =
    .ok (.slice (some ⟨w.heap.size, 0, none⟩) n n) (w.alloc (.cells ((List.replicate n (⟨none, 0, []⟩ : Gr Kn)).flatMap Gr.cells).toArray 73)) := by
  obtain ⟨i0, hi, hz0, hz1, hz2⟩ := info_parts infoKnowns
  rw [run_make w 45 73 i0 _ Try.underlying45 hi hz0 .i64 .i64 _ _ (by omega) (Int.le_refl _) (by rw [hz2]; omega) (by omega)]
  rw [hz1, show ((n : Int)).toNat = n by omega, made_flat Gr.cells 1 (by omega) Gr.len (⟨none, 0, []⟩ : Gr Kn) (Value.slice none 0 0).cells rfl]
set_option maxHeartbeats 800000 in
theorem bit_small (p : Nat) (hp : p < 4) (w : World) : Calls Try.prog 41 #[.int .i64 p] w (fun e w' => (∃ z : Int, e = .returned (.int .u32 z)) ∧ w' = w) := by
  have h : p = 0 ∨ p = 1 ∨ p = 2 ∨ p = 3 := by omega
  rcases h with rfl | rfl | rfl | rfl
  all_goals
    go_enter Try.func41, Try.ntmps41
    go_wp2_with fail
    go_ret
    exact ⟨⟨_, rfl⟩, rfl⟩
abbrev GD (W : World) (base g1 : Nat) (Gs : List (Gr Dt)) : Prop := GOwn Dt.cells 9 72 44 W base g1 Gs
abbrev GK (W : World) (base g2 : Nat) (Ks : List (Gr Kn)) : Prop := GOwn Kn.cells 10 77 73 W base g2 Ks
/-- the tables so far -/
structure SkAt (c : Nat) (bs : List Int) (k : Nat) (w W0 : World) (g1 g2 n : Nat) (Gs : List (Gr Dt)) (Ks : List (Gr Kn)) (W : World) : Prop where
  d : Drew c bs k w W
  g : W0.grownBy W (some c)
  lg : GD W W0.heap.size g1 Gs
  kn : GK W W0.heap.size g2 Ks
  n1 : Gs.length = n
  n2 : Ks.length = n
  h : W0.heap.size ≤ g1 ∧ W0.heap.size ≤ g2
section
variable {c : Nat} {bs : List Int} {k : Nat} {w W0 : World} {g1 g2 n : Nat} {Gs : List (Gr Dt)} {Ks : List (Gr Kn)} {W W' : World}
theorem SkAt.ext (h : SkAt c bs k w W0 g1 g2 n Gs Ks W) (hE : Ext W W') : SkAt c bs k w W0 g1 g2 n Gs Ks W' := ⟨h.d.post hE, grownBy_trans h.g (grownBy_ext hE), h.lg.ext hE, h.kn.ext hE, h.n1, h.n2, h.h⟩
theorem SkAt.draw (h : SkAt c bs k w W0 g1 g2 n Gs Ks W) (hD : Drew c bs k w W') (hg : W.grownBy W' (some c)) (hc : c < W0.heap.size) : SkAt c bs k w W0 g1 g2 n Gs Ks W' :=
  ⟨hD, grownBy_trans h.g hg, h.lg.low hg (by have := h.h; omega) hc, h.kn.low hg (by have := h.h; omega) hc, h.n1, h.n2, h.h⟩
theorem grown_new2 {a b d : World} {c : Nat} {row : Option Nat} (h : a.grownBy b (some c)) (hg : b.grownBy d row) (hr : ∀ r, row = some r → a.heap.size ≤ r) : a.grownBy d (some c) :=
  ⟨hg.os.trans h.os, hg.tape.trans h.tape, hg.output.trans h.output, Nat.le_trans h.size hg.size, fun k hk hne => (hg.block k (Nat.lt_of_lt_of_le hk h.size) (fun e => by have := hr k e.symm; omega)).trans (h.block k hk hne)⟩
/-- a log got a determinant -/
theorem SkAt.pushG (h : SkAt c bs k w W0 g1 g2 n Gs Ks W) (hw0 : w.heap.size ≤ W0.heap.size) (hc : c < w.heap.size) {q : Nat} {s : Gr Dt} (hs : Gs[q]? = some s) {g9 c9 : Nat} {x : Dt} {W9 : World}
    (hown : W9.ownsRow W0.heap.size 72 9 (.slice (some ⟨g9, 0, none⟩) (s.l.length + 1) c9) (s.l ++ [x]).length ((s.l ++ [x]).flatMap Dt.cells)) (hg : W.grownBy W9 (Gr.val s).ownBlock) (hd : (Gr.val s).ownBlock = some g9 ∨ g9 = W.heap.size) :
    W9.cell? ⟨g1, q, none⟩ = some (Gr.val s) ∧ W9.frozen? ⟨g1, q, none⟩ = false ∧ SkAt c bs k w W0 g1 g2 n (Gs.set q ⟨some ⟨g9, 0, none⟩, c9, s.l ++ [x]⟩) Ks (W9.setCell ⟨g1, q, none⟩ (.slice (some ⟨g9, 0, none⟩) (s.l.length + 1) c9)) := by
  have hrow := h.lg.r q s hs
  have hb9 : Blk W9 g1 44 (Gs.flatMap Gr.cells).toArray := (hg.block g1 h.lg.b.lt (fun e => by
    obtain ⟨cs, hB⟩ := own_blk hrow e.symm
    exact absurd (blk_type hB h.lg.b) (by decide))).trans h.lg.b
  have hk9 : GK W9 W0.heap.size g2 Ks := h.kn.typed hg fun g e => by
    obtain ⟨cs, hB⟩ := own_blk hrow e
    exact ⟨_, cs, hB, by decide, by decide⟩
  have hs1 := grown_set1 W9 g1 q (.slice (some ⟨g9, 0, none⟩) (s.l.length + 1) c9)
  have hr1 : ∀ r, (Gr.val s).ownBlock = some r → W0.heap.size ≤ r := fun r e => (hrow.lt r e).1
  refine ⟨?_, hb9.frozen q, ?_, ?_, h.lg.push (by decide) hs hown hg hd, hk9.typed hs1 (fun g e => by injection e with e; subst e; exact ⟨_, _, hb9, by decide, by decide⟩), by rw [List.length_set]; exact h.n1, h.n2, h.h⟩
  · have := Blk.tabAt hb9 Gr.len hs (j := 0) (by omega) (u := Gr.val s) rfl
    simpa using this
  · exact (h.d.grown hg (fun r e => by have := hr1 r e; omega) hc).grown hs1 (fun r e => by injection e; have := h.h; omega) hc
  · exact grown_new2 (grown_new2 h.g hg hr1) hs1 (fun r e => by injection e; have := h.h; omega)
/-- a memory got a determinant -/
theorem SkAt.pushK (h : SkAt c bs k w W0 g1 g2 n Gs Ks W) (hw0 : w.heap.size ≤ W0.heap.size) (hc : c < w.heap.size) {q : Nat} {s : Gr Kn} (hs : Ks[q]? = some s) {g9 c9 : Nat} {x : Kn} {W9 : World}
    (hown : W9.ownsRow W0.heap.size 77 10 (.slice (some ⟨g9, 0, none⟩) (s.l.length + 1) c9) (s.l ++ [x]).length ((s.l ++ [x]).flatMap Kn.cells)) (hg : W.grownBy W9 (Gr.val s).ownBlock) (hd : (Gr.val s).ownBlock = some g9 ∨ g9 = W.heap.size) :
    W9.cell? ⟨g2, q, none⟩ = some (Gr.val s) ∧ W9.frozen? ⟨g2, q, none⟩ = false ∧ SkAt c bs k w W0 g1 g2 n Gs (Ks.set q ⟨some ⟨g9, 0, none⟩, c9, s.l ++ [x]⟩) (W9.setCell ⟨g2, q, none⟩ (.slice (some ⟨g9, 0, none⟩) (s.l.length + 1) c9)) := by
  have hrow := h.kn.r q s hs
  have hb9 : Blk W9 g2 73 (Ks.flatMap Gr.cells).toArray := (hg.block g2 h.kn.b.lt (fun e => by
    obtain ⟨cs, hB⟩ := own_blk hrow e.symm
    exact absurd (blk_type hB h.kn.b) (by decide))).trans h.kn.b
  have hk9 : GD W9 W0.heap.size g1 Gs := h.lg.typed hg fun g e => by
    obtain ⟨cs, hB⟩ := own_blk hrow e
    exact ⟨_, cs, hB, by decide, by decide⟩
  have hs1 := grown_set1 W9 g2 q (.slice (some ⟨g9, 0, none⟩) (s.l.length + 1) c9)
  have hr1 : ∀ r, (Gr.val s).ownBlock = some r → W0.heap.size ≤ r := fun r e => (hrow.lt r e).1
  refine ⟨?_, hb9.frozen q, ?_, ?_, hk9.typed hs1 (fun g e => by injection e with e; subst e; exact ⟨_, _, hb9, by decide, by decide⟩), h.kn.push (by decide) hs hown hg hd, h.n1, by rw [List.length_set]; exact h.n2, h.h⟩
  · have := Blk.tabAt hb9 Gr.len hs (j := 0) (by omega) (u := Gr.val s) rfl
    simpa using this
  · exact (h.d.grown hg (fun r e => by have := hr1 r e; omega) hc).grown hs1 (fun r e => by injection e; have := h.h; omega) hc
  · exact grown_new2 (grown_new2 h.g hg hr1) hs1 (fun r e => by injection e; have := h.h; omega)
end
/-- with the determinants of one lineage -/
structure SkD (c : Nat) (bs : List Int) (k : Nat) (w W0 : World) (g1 g2 n : Nat) (Gs : List (Gr Dt)) (Ks : List (Gr Kn)) (AD : Option Addr) (cD : Nat) (D : List Dt) (W : World) : Prop where
  s : SkAt c bs k w W0 g1 g2 n Gs Ks W
  o : W.ownsRow W0.heap.size 72 9 (.slice AD D.length cD) D.length (D.flatMap Dt.cells)
  ap : ∀ (q : Nat) (s : Gr Dt) (g : Nat), Gs[q]? = some s → (Gr.val s).ownBlock = some g → (Value.slice AD D.length cD).ownBlock ≠ some g
section
variable {c : Nat} {bs : List Int} {k : Nat} {w W0 : World} {g1 g2 n : Nat} {Gs : List (Gr Dt)} {Ks : List (Gr Kn)} {AD : Option Addr} {cD : Nat} {D : List Dt} {W W' : World}
theorem SkD.ext (h : SkD c bs k w W0 g1 g2 n Gs Ks AD cD D W) (hE : Ext W W') : SkD c bs k w W0 g1 g2 n Gs Ks AD cD D W' := ⟨h.s.ext hE, own_ext h.o hE, h.ap⟩
theorem SkD.draw (h : SkD c bs k w W0 g1 g2 n Gs Ks AD cD D W) (hD : Drew c bs k w W') (hg : W.grownBy W' (some c)) (hc : c < W0.heap.size) : SkD c bs k w W0 g1 g2 n Gs Ks AD cD D W' := ⟨h.s.draw hD hg hc, own_keptc h.o hg hc, h.ap⟩
theorem SkD.pushG (h : SkD c bs k w W0 g1 g2 n Gs Ks AD cD D W) (hw0 : w.heap.size ≤ W0.heap.size) (hc : c < w.heap.size) {q : Nat} {s : Gr Dt} (hs : Gs[q]? = some s) {g9 c9 : Nat} {x : Dt} {W9 : World}
    (hown : W9.ownsRow W0.heap.size 72 9 (.slice (some ⟨g9, 0, none⟩) (s.l.length + 1) c9) (s.l ++ [x]).length ((s.l ++ [x]).flatMap Dt.cells)) (hg : W.grownBy W9 (Gr.val s).ownBlock) (hd : (Gr.val s).ownBlock = some g9 ∨ g9 = W.heap.size) :
    W9.cell? ⟨g1, q, none⟩ = some (Gr.val s) ∧ W9.frozen? ⟨g1, q, none⟩ = false ∧ W9.ownsRow W0.heap.size 72 9 (.slice AD D.length cD) D.length (D.flatMap Dt.cells) ∧ SkD c bs k w W0 g1 g2 n (Gs.set q ⟨some ⟨g9, 0, none⟩, c9, s.l ++ [x]⟩) Ks AD cD D (W9.setCell ⟨g1, q, none⟩ (.slice (some ⟨g9, 0, none⟩) (s.l.length + 1) c9)) := by
  obtain ⟨h1, h2, h3⟩ := h.s.pushG hw0 hc hs hown hg hd
  have hq : q < Gs.length := (List.getElem?_eq_some_iff.1 hs).1
  have hb9 : Blk W9 g1 44 (Gs.flatMap Gr.cells).toArray := (hg.block g1 h.s.lg.b.lt (fun e => by
    obtain ⟨cs, hB⟩ := own_blk (h.s.lg.r q s hs) e.symm
    exact absurd (blk_type hB h.s.lg.b) (by decide))).trans h.s.lg.b
  have ho1 : W9.ownsRow W0.heap.size 72 9 (.slice AD D.length cD) D.length (D.flatMap Dt.cells) := h.o.kept hg (by
    rcases e : (Gr.val s).ownBlock with _ | g
    · rcases e2 : (Value.slice AD D.length cD).ownBlock with _ | g'
      · exact .inl rfl
      · exact .inr (by simp)
    · exact .inr (h.ap q s g hs e))
  refine ⟨h1, h2, ho1, h3, ho1.kept (grown_set1 _ _ _ _) ?_, fun p r g hr hv => ?_⟩
  · rcases e : (Value.slice AD D.length cD).ownBlock with _ | g
    · exact .inl rfl
    · right
      intro e2
      injection e2 with e2
      subst e2
      obtain ⟨cs, hB⟩ := own_blk ho1 e
      exact absurd (blk_type hB hb9) (by decide)
  · rw [List.getElem?_set] at hr
    split at hr
    · first | rw [if_pos hq] at hr | skip
      injection hr with hr
      subst hr
      simp only [Value.ownBlock, Option.some.injEq] at hv
      subst hv
      rcases hd with hd | hd
      · exact h.ap q s _ hs hd
      · intro e
        have := (h.o.lt _ e).2
        omega
    · exact h.ap p r g hr hv
theorem SkD.pushK (h : SkD c bs k w W0 g1 g2 n Gs Ks AD cD D W) (hw0 : w.heap.size ≤ W0.heap.size) (hc : c < w.heap.size) {q : Nat} {s : Gr Kn} (hs : Ks[q]? = some s) {g9 c9 : Nat} {x : Kn} {W9 : World}
    (hown : W9.ownsRow W0.heap.size 77 10 (.slice (some ⟨g9, 0, none⟩) (s.l.length + 1) c9) (s.l ++ [x]).length ((s.l ++ [x]).flatMap Kn.cells)) (hg : W.grownBy W9 (Gr.val s).ownBlock) (hd : (Gr.val s).ownBlock = some g9 ∨ g9 = W.heap.size) :
    W9.cell? ⟨g2, q, none⟩ = some (Gr.val s) ∧ W9.frozen? ⟨g2, q, none⟩ = false ∧ W9.ownsRow W0.heap.size 72 9 (.slice AD D.length cD) D.length (D.flatMap Dt.cells) ∧ SkD c bs k w W0 g1 g2 n Gs (Ks.set q ⟨some ⟨g9, 0, none⟩, c9, s.l ++ [x]⟩) AD cD D (W9.setCell ⟨g2, q, none⟩ (.slice (some ⟨g9, 0, none⟩) (s.l.length + 1) c9)) := by
  obtain ⟨h1, h2, h3⟩ := h.s.pushK hw0 hc hs hown hg hd
  have hb9 : Blk W9 g2 73 (Ks.flatMap Gr.cells).toArray := (hg.block g2 h.s.kn.b.lt (fun e => by
    obtain ⟨cs, hB⟩ := own_blk (h.s.kn.r q s hs) e.symm
    exact absurd (blk_type hB h.s.kn.b) (by decide))).trans h.s.kn.b
  have ho1 : W9.ownsRow W0.heap.size 72 9 (.slice AD D.length cD) D.length (D.flatMap Dt.cells) := h.o.kept hg (by
    rcases own_ne h.o (h.s.kn.r q s hs) (by decide) with e | e
    · exact .inl e
    · exact .inr e)
  refine ⟨h1, h2, ho1, h3, ho1.kept (grown_set1 _ _ _ _) ?_, h.ap⟩
  rcases e : (Value.slice AD D.length cD).ownBlock with _ | g
  · exact .inl rfl
  · right
    intro e2
    injection e2 with e2
    subst e2
    obtain ⟨cs, hB⟩ := own_blk ho1 e
    exact absurd (blk_type hB hb9) (by decide)
end
/-- bounds of the tables -/
structure SkOk (Gs : List (Gr Dt)) (Ks : List (Gr Kn)) (B : Nat) : Prop where
  g : ∀ s ∈ Gs, s.l.length ≤ B ∧ ∀ d ∈ s.l, d.ok
  k : ∀ s ∈ Ks, s.l.length ≤ B
theorem SkOk.mono {Gs : List (Gr Dt)} {Ks : List (Gr Kn)} {B C : Nat} (h : SkOk Gs Ks B) (hBC : B ≤ C) : SkOk Gs Ks C := ⟨fun s hs => ⟨by have := (h.g s hs).1; omega, (h.g s hs).2⟩, fun s hs => by have := h.k s hs; omega⟩
theorem SkOk.pushG {Gs : List (Gr Dt)} {Ks : List (Gr Kn)} {B : Nat} (h : SkOk Gs Ks B) {q : Nat} {s : Gr Dt} (hs : Gs[q]? = some s) {A : Option Addr} {c : Nat} {x : Dt} (hx : x.ok) : SkOk (Gs.set q ⟨A, c, s.l ++ [x]⟩) Ks (B + 1) :=
  ⟨fun t ht => by
    rcases List.mem_or_eq_of_mem_set ht with h' | h'
    · exact ⟨by have := (h.g t h').1; omega, (h.g t h').2⟩
    · subst h'
      have h1 := h.g s (List.mem_of_getElem? hs)
      refine ⟨by simp only [List.length_append, List.length_singleton]; omega, fun d hd => ?_⟩
      rcases List.mem_append.1 hd with hd | hd
      · exact h1.2 d hd
      · rw [List.mem_singleton] at hd; subst hd; exact hx, fun t ht => by have := h.k t ht; omega⟩
theorem SkOk.pushK {Gs : List (Gr Dt)} {Ks : List (Gr Kn)} {B : Nat} (h : SkOk Gs Ks B) {q : Nat} {s : Gr Kn} (hs : Ks[q]? = some s) {A : Option Addr} {c : Nat} {x : Kn} : SkOk Gs (Ks.set q ⟨A, c, s.l ++ [x]⟩) (B + 1) :=
  ⟨fun t ht => ⟨by have := (h.g t ht).1; omega, (h.g t ht).2⟩, fun t ht => by
    rcases List.mem_or_eq_of_mem_set ht with h' | h'
    · have := h.k t h'; omega
    · subst h'
      have h1 := h.k s (List.mem_of_getElem? hs)
      simp only [List.length_append, List.length_singleton]; omega⟩
def StocksPost6 (c : Nat) (bs : List Int) (k : Nat) (w W0 : World) (n : Nat) (e : Ending) (w' : World) : Prop :=
  ∃ (g1 g2 : Nat) (Gs : List (Gr Dt)) (Ks : List (Gr Kn)), e = .returned (.tuple #[.slice (some ⟨g1, 0, none⟩) n n, .slice (some ⟨g2, 0, none⟩) n n]) ∧ SkAt c bs k w W0 g1 g2 n Gs Ks w' ∧ SkOk Gs Ks 600
def Q1 (c : Nat) (bs : List Int) (k : Nat) (w W0 : World) (g1 g2 n : Nat) (g : Nat) (iv : Value) (wr : World) : Prop :=
  ∃ (q : Nat) (Gs : List (Gr Dt)) (Ks : List (Gr Kn)), q ≤ n ∧ iv = .int .i64 q ∧ g = n - q ∧ SkAt c bs k w W0 g1 g2 n Gs Ks wr ∧ Hid (SkOk Gs Ks (q * 150))
def Q2 (c : Nat) (bs : List Int) (k : Nat) (w W0 : World) (g1 g2 n : Nat) (AD : Option Addr) (cD : Nat) (D : List Dt) (q : Nat) (g : Nat) (iv : Value) (wr : World) : Prop :=
  ∃ (i : Nat) (Gs : List (Gr Dt)) (Ks : List (Gr Kn)), i ≤ D.length ∧ iv = .int .i64 i ∧ g = D.length - i ∧ SkD c bs k w W0 g1 g2 n Gs Ks AD cD D wr ∧ Hid (SkOk Gs Ks (q * 150 + i * 6))
def Q3 (c : Nat) (bs : List Int) (k : Nat) (w W0 : World) (g1 g2 n : Nat) (AD : Option Addr) (cD : Nat) (D : List Dt) (q i : Nat) (g : Nat) (iv : Value) (wr : World) : Prop :=
  ∃ (p : Nat) (Gs : List (Gr Dt)) (Ks : List (Gr Kn)), p ≤ n ∧ iv = .int .i64 p ∧ g = n - p ∧ SkD c bs k w W0 g1 g2 n Gs Ks AD cD D wr ∧ Hid (SkOk Gs Ks (q * 150 + i * 6 + 1 + p))
def Q0 (c : Nat) (bs : List Int) (k : Nat) (w W0 : World) (n : Nat) (s6 s7 : Value) (wx : World) : Prop :=
  ∃ (g1 g2 : Nat), s6 = .slice (some ⟨g1, 0, none⟩) n n ∧ s7 = .slice (some ⟨g2, 0, none⟩) n n ∧ SkAt c bs k w W0 g1 g2 n (List.replicate n ⟨none, 0, []⟩) (List.replicate n ⟨none, 0, []⟩) wx
set_option maxRecDepth 100000 in
set_option maxHeartbeats 3200000 in
theorem stocks_600 (c : Nat) (bs : List Int) (k : Nat) (w W0 : World) (n gl : Nat) (R : List Rw) (hD : Drew c bs k w W0) (hcl : c < w.heap.size) (hR : R.length = n) (hn1 : 1 ≤ n) (hn : n ≤ 4) (hl : ∀ W', W0.grownBy W' (some c) → LinSeg W' (some ⟨gl, 0, none⟩) R) (h60 : ∀ s ∈ R, s.es.length ≤ 24) (hok : ∀ s ∈ R, ∀ e ∈ s.es, e.ok) :
    Calls Try.prog 21 #[.pointer (some ⟨c, 0, none⟩), .slice (some ⟨gl, 0, none⟩) n n] W0 (StocksPost6 c bs k w W0 n) := by
  have hww : w.heap.size ≤ W0.heap.size := hD.1.size
  have hcW : c < W0.heap.size := by omega
  have HL := Lib.hid hl
  have H60 := Lib.hid h60
  have HOK := Lib.hid hok
  have HD0 := Lib.hid hD
  have HRn := Lib.hid hR
  clear hl h60 hok hD hR
  go_enter Try.func21, Try.ntmps21
  go_upto_region 1 with fail
  go_cut [6, 7] (fun s6 s7 wx => Q0 c bs k w W0 n s6 s7 wx)
  case first =>
    refine wp_region_sch (by kernel_rfl) 7 (.read 0 (.read 1 (.read 3 (.read 4 (.two 2 5 (.read 6 (.one 5 (.one 7 .done))) (.one 2 (.read 6 (.one 7 .done)))))))) (fun _ => True) (by kernel_rfl) (fun _ _ dd _ _ h => by cases dd <;> exact h) trivial (fun hHeld => ?_)
    iterate 4 ((refine sch_read (v := ?_) rfl (Or.inl ⟨by rfl, ?_⟩) hHeld ?_; rotate_left 1; · (intro w' hSw; go_simp; (first | done | with_reducible rfl))); (try simp only [Act.put, List.setIfInBounds_toArray, List.set_cons_zero, List.set_cons_succ]))
    have hE0 : Ext W0 W0.drew := Below.drew (Ext.refl W0)
    refine sch_two rfl rfl (fun K hK => ?_) (fun K hK => ?_)
    · have hm1 := mk_detrows n (by omega) W0.drew
      obtain ⟨g1, hg1⟩ : ∃ g1, W0.drew.heap.size = g1 := ⟨_, rfl⟩
      have b1 := Blk.new W0.drew 44 ((List.replicate n (⟨none, 0, []⟩ : Gr Dt)).flatMap Gr.cells).toArray
      have x1 := hE0.trans ((Ext.refl W0.drew).allocs (.cells ((List.replicate n (⟨none, 0, []⟩ : Gr Dt)).flatMap Gr.cells).toArray 44))
      have hz1 : (W0.drew.alloc (.cells ((List.replicate n (⟨none, 0, []⟩ : Gr Dt)).flatMap Gr.cells).toArray 44)).heap.size = g1 + 1 := by rw [← hg1]; simp
      obtain ⟨w1, hw1⟩ : ∃ w1, W0.drew.alloc (.cells ((List.replicate n (⟨none, 0, []⟩ : Gr Dt)).flatMap Gr.cells).toArray 44) = w1 := ⟨_, rfl⟩
      rw [hw1] at hm1 b1 x1 hz1
      rw [hg1] at hm1 b1
      have hgW : W0.heap.size ≤ g1 := by rw [← hg1]; exact hE0.size
      go_simp
      refine hK.out _ _ trivial (fun hHeld => ?_)
      clear hK K
      try simp only [Act.put, List.setIfInBounds_toArray, List.set_cons_zero, List.set_cons_succ]
      clear hm1 hw1 hg1
      iterate 1 ((refine sch_read (v := ?_) rfl (Or.inl ⟨by rfl, ?_⟩) hHeld ?_; rotate_left 1; · (intro w' hSw; go_simp; (first | done | with_reducible rfl))); (try simp only [Act.put, List.setIfInBounds_toArray, List.set_cons_zero, List.set_cons_succ]))
      have hm2 := mk_knownrows n (by omega) w1
      rw [hz1] at hm2
      have b2 := Blk.new w1 73 ((List.replicate n (⟨none, 0, []⟩ : Gr Kn)).flatMap Gr.cells).toArray
      rw [hz1] at b2
      have x2 := (Ext.refl w1).allocs (.cells ((List.replicate n (⟨none, 0, []⟩ : Gr Kn)).flatMap Gr.cells).toArray 73)
      refine sch_one rfl (fun K hK => ?_)
      go_simp
      refine hK.out _ _ trivial (fun hHeld => ?_)
      clear hK K
      try simp only [Act.put, List.setIfInBounds_toArray, List.set_cons_zero, List.set_cons_succ]
      clear hm2
      refine sch_tail rfl (by decide) (fun K hK => ?_)
      go_simp
      refine hK.out _ _ ?_
      clear hK K
      refine sch_done ?_
      go_wp2_with fail
      go_meet
      exact ⟨g1, g1 + 1, rfl, rfl, HD0.out.post (x1.trans x2), grownBy_ext (x1.trans x2), GOwn.start (Blk.ext b1 x2), GOwn.start b2, List.length_replicate, List.length_replicate, hgW, by omega⟩
    · have hm1 := mk_knownrows n (by omega) W0.drew
      obtain ⟨g1, hg1⟩ : ∃ g1, W0.drew.heap.size = g1 := ⟨_, rfl⟩
      have b1 := Blk.new W0.drew 73 ((List.replicate n (⟨none, 0, []⟩ : Gr Kn)).flatMap Gr.cells).toArray
      have x1 := hE0.trans ((Ext.refl W0.drew).allocs (.cells ((List.replicate n (⟨none, 0, []⟩ : Gr Kn)).flatMap Gr.cells).toArray 73))
      have hz1 : (W0.drew.alloc (.cells ((List.replicate n (⟨none, 0, []⟩ : Gr Kn)).flatMap Gr.cells).toArray 73)).heap.size = g1 + 1 := by rw [← hg1]; simp
      obtain ⟨w1, hw1⟩ : ∃ w1, W0.drew.alloc (.cells ((List.replicate n (⟨none, 0, []⟩ : Gr Kn)).flatMap Gr.cells).toArray 73) = w1 := ⟨_, rfl⟩
      rw [hw1] at hm1 b1 x1 hz1
      rw [hg1] at hm1 b1
      have hgW : W0.heap.size ≤ g1 := by rw [← hg1]; exact hE0.size
      go_simp
      refine hK.out _ _ trivial (fun hHeld => ?_)
      clear hK K
      try simp only [Act.put, List.setIfInBounds_toArray, List.set_cons_zero, List.set_cons_succ]
      clear hm1 hw1 hg1
      have hm2 := mk_detrows n (by omega) w1
      rw [hz1] at hm2
      have b2 := Blk.new w1 44 ((List.replicate n (⟨none, 0, []⟩ : Gr Dt)).flatMap Gr.cells).toArray
      rw [hz1] at b2
      have x2 := (Ext.refl w1).allocs (.cells ((List.replicate n (⟨none, 0, []⟩ : Gr Dt)).flatMap Gr.cells).toArray 44)
      refine sch_one rfl (fun K hK => ?_)
      go_simp
      refine hK.out _ _ trivial (fun hHeld => ?_)
      clear hK K
      try simp only [Act.put, List.setIfInBounds_toArray, List.set_cons_zero, List.set_cons_succ]
      clear hm2
      iterate 1 ((refine sch_read (v := ?_) rfl (Or.inl ⟨by rfl, ?_⟩) hHeld ?_; rotate_left 1; · (intro w' hSw; go_simp; (first | done | with_reducible rfl))); (try simp only [Act.put, List.setIfInBounds_toArray, List.set_cons_zero, List.set_cons_succ]))
      refine sch_tail rfl (by decide) (fun K hK => ?_)
      go_simp
      refine hK.out _ _ ?_
      clear hK K
      refine sch_done ?_
      go_wp2_with fail
      go_meet
      exact ⟨g1 + 1, g1, rfl, rfl, HD0.out.post (x1.trans x2), grownBy_ext (x1.trans x2), GOwn.start b2, GOwn.start (Blk.ext b1 x2), List.length_replicate, List.length_replicate, by omega, hgW⟩
  case rest =>
    obtain ⟨g1, g2, rfl, rfl, hS⟩ := hcut
    have HS0 := Lib.hid hS
    clear hS
    go_upto_region 3 with fail
    go_loopg [8] n (fun g iv wr => Q1 c bs k w W0 g1 g2 n g iv wr)
    case atStart => exact ⟨0, _, _, Nat.zero_le _, rfl, rfl, HS0.out, (⟨fun s hs => by rw [List.mem_replicate] at hs; rw [hs.2]; exact ⟨Nat.zero_le _, fun d hd => by cases hd⟩, fun s hs => by rw [List.mem_replicate] at hs; rw [hs.2]; exact Nat.zero_le _⟩ : SkOk _ _ _)⟩
    case round =>
      clear HS0
      obtain ⟨q, Gs, Ks, hq, rfl, rfl, hS, HB⟩ := hrel
      by_cases hlt : q < n
      · have hlr : q < R.length := by rw [HRn.out]; exact hlt
        obtain ⟨b, o, hA, p0⟩ := (HL.out _ hS.g).at_ hlr
        injection hA with hA
        injection hA with hA1 hA2
        subst hA1 hA2
        rw [Nat.zero_add] at p0
        obtain ⟨hr, hrc, hrm⟩ := (HL.out _ hS.g).row hlr
        have h6 := H60.out _ (List.getElem_mem hlr)
        have HOE := Lib.hid (HOK.out _ (List.getElem_mem hlr))
        generalize R[q] = r at *
        have hq0 : (0 : Int) ≤ (q : Int) := by omega
        have hq1 : (q : Int) < (n : Int) := by omega
        have HS := Lib.hid hS
        have hz0 := hS.g.size
        clear hS
        go_wp2_with fail
        refine (lineage_ref r.A r.c (q : Int) r.es _ hr (by omega)).mono ?_
        rintro e w5 ⟨v5, rfl, hown5, hE5⟩
        have HLD : Hid (∀ d ∈ linV (q : Int) r.es, d.ok) := fun d hd => by
          obtain ⟨i, hi⟩ := List.mem_iff_getElem?.1 hd
          have hil : i < r.es.length := by have := (List.getElem?_eq_some_iff.1 hi).1; unfold linV at this; rw [lin_len] at this; exact this
          have := linV_get (q : Int) r.es 0 i hil
          unfold linV at hi
          rw [this] at hi
          injection hi with hi
          subst hi
          exact ⟨⟨by show (-9223372036854775808 : Int) ≤ (q : Int); omega, by show (q : Int) ≤ 9223372036854775807; omega⟩, ⟨by show (-9223372036854775808 : Int) ≤ ((0 + i : Nat) : Int) + 1; omega, by show ((0 + i : Nat) : Int) + 1 ≤ 9223372036854775807; omega⟩, HOE.out _ (List.getElem_mem hil)⟩
        have hDl : (linV (q : Int) r.es).length ≤ 24 := by unfold linV; rw [lin_len]; exact h6
        obtain ⟨D, hD⟩ : ∃ D, linV (q : Int) r.es = D := ⟨_, rfl⟩
        rw [hD] at HLD hDl hown5
        obtain ⟨AD, cD, rfl, _, _, _⟩ := own_slice hown5
        have hSD : SkD c bs k w W0 g1 g2 n Gs Ks AD cD D w5 := ⟨HS.out.ext hE5, own_base hown5 hz0, fun p s g hs hv e => by
          have h1 := (hown5.lt g e).1
          have h2 := ((HS.out.lg.r p s hs).lt g hv).2
          omega⟩
        have HSD := Lib.hid hSD
        clear hown5 hE5 hr hrc hrm p0 hSD HS hD HOE h6 hz0
        go_upto_region 7 with fail
        go_loopg [10] D.length (fun g iv wr => Q2 c bs k w W0 g1 g2 n AD cD D q g iv wr)
        case atStart => exact ⟨0, Gs, Ks, Nat.zero_le _, rfl, rfl, HSD.out, HB⟩
        case round =>
          clear HSD HB
          rename World => w6
          obtain ⟨i, Gs, Ks, hi, rfl, rfl, hSD, HB⟩ := hrel
          by_cases hil : i < D.length
          · have hi0 : (0 : Int) ≤ (i : Int) := by omega
            have hi1 : (i : Int) < (D.length : Int) := by omega
            obtain ⟨b3, o3, hA3, _⟩ := Dt.at_ (Seg.of_own hSD.o) hil
            subst hA3
            have HXO := Lib.hid (HLD.out _ (List.getElem_mem hil))
            have HXC : Hid (∀ W : World, W.ownsRow W0.heap.size 72 9 (.slice (some ⟨b3, o3, none⟩) D.length cD) D.length (D.flatMap Dt.cells) → W.cell? ⟨b3, o3 + i * 9, none⟩ = some (.int .i64 D[i].proc) ∧ W.cell? ⟨b3, o3 + i * 9 + 1, none⟩ = some (.int .i64 D[i].index) ∧ W.cell? ⟨b3, o3 + i * 9 + 2, none⟩ = some (.int .i64 D[i].ev.kind) ∧ W.cell? ⟨b3, o3 + i * 9 + 3, none⟩ = some (.int .i64 D[i].ev.inc) ∧ W.cell? ⟨b3, o3 + i * 9 + 4, none⟩ = some (.int .i64 D[i].ev.frm) ∧ W.cell? ⟨b3, o3 + i * 9 + 5, none⟩ = some (.int .i64 D[i].ev.sinc) ∧ W.cell? ⟨b3, o3 + i * 9 + 6, none⟩ = some (.int .i64 D[i].ev.sidx) ∧ W.cell? ⟨b3, o3 + i * 9 + 7, none⟩ = some (.int .i64 D[i].ev.ord) ∧ W.cell? ⟨b3, o3 + i * 9 + 8, none⟩ = some (.int .i64 D[i].ev.val)) := fun W h => by
              obtain ⟨b', o', h1, h2⟩ := Dt.at_ (Seg.of_own h) hil
              injection h1 with h1
              injection h1 with h3 h4
              subst h3 h4
              exact h2
            obtain ⟨x, hx⟩ : ∃ x, D[i] = x := ⟨_, rfl⟩
            rw [hx] at HXO HXC
            clear hx
            have HSD := Lib.hid hSD
            clear hSD
            go_wp2_with fail
            refine (next_on HSD.out.s.d (Ext.refl _) 4 (by omega) (by omega)).mono ?_
            rintro e w7 ⟨r7, rfl, ⟨hr70, hr71⟩, hD7, hg7⟩
            have HS7 := Lib.hid (HSD.out.draw hD7 hg7 hcW)
            clear hD7 hg7 HSD
            have HB1 : Hid (SkOk Gs Ks (q * 150 + i * 6 + 1)) := HB.out.mono (by omega)
            go_upto_if 39 with fail
            go_cut [11] (fun s11 wx => ∃ Gs' : List (Gr Dt), SkD c bs k w W0 g1 g2 n Gs' Ks (some ⟨b3, o3, none⟩) cD D wx ∧ SkOk Gs' Ks (q * 150 + i * 6 + 1))
            case first =>
              by_cases hk1 : r7 = 1
              · have dk : (r7 == 1) = true := by simp [hk1]
                go_wp2_with fail
                refine (next_on HS7.out.s.d (Ext.refl _) (n : Int) (by omega) (by omega)).mono ?_
                rintro e w8 ⟨p, rfl, ⟨hp0, hp1⟩, hD8, hg8⟩
                have HS8 := Lib.hid (HS7.out.draw hD8 hg8 hcW)
                clear hD8 hg8
                obtain ⟨p, rfl⟩ : ∃ pn : Nat, p = (pn : Int) := ⟨p.toNat, by omega⟩
                obtain ⟨s, hs⟩ : ∃ s, Gs[p]? = some s := ⟨_, List.getElem?_eq_getElem (by rw [HS8.out.s.n1]; omega)⟩
                obtain ⟨sA, sc, sl⟩ := s
                have hsl : sl.length ≤ 1000 := by have := (HB.out.g _ (List.mem_of_getElem? hs)).1; dsimp only at this; omega
                have HPO := Lib.hid (fun (A : Option Addr) (c : Nat) => HB.out.pushG hs (A := A) (c := c) (x := x) HXO.out)
                go_upto_region 11 with fail
                have hc := HS8.out.s.lg.cell hs
                unfold Gr.val at hc
                dsimp only at hc
                refine wp_region_sched (by kernel_rfl) 13 [(0, true), (1, true), (2, true), (3, true), (4, true), (5, true), (6, true), (7, true), (8, true), (9, true), (10, false), (11, false), (12, true), (13, false)] (fun w' => w'.cell? ⟨g1, p, none⟩ = some (.slice sA sl.length sc) ∧ w'.cell? ⟨b3, o3 + i * 9, none⟩ = some (.int .i64 x.proc) ∧ w'.cell? ⟨b3, o3 + i * 9 + 1, none⟩ = some (.int .i64 x.index) ∧ w'.cell? ⟨b3, o3 + i * 9 + 2, none⟩ = some (.int .i64 x.ev.kind) ∧ w'.cell? ⟨b3, o3 + i * 9 + 3, none⟩ = some (.int .i64 x.ev.inc) ∧ w'.cell? ⟨b3, o3 + i * 9 + 4, none⟩ = some (.int .i64 x.ev.frm) ∧ w'.cell? ⟨b3, o3 + i * 9 + 5, none⟩ = some (.int .i64 x.ev.sinc) ∧ w'.cell? ⟨b3, o3 + i * 9 + 6, none⟩ = some (.int .i64 x.ev.sidx) ∧ w'.cell? ⟨b3, o3 + i * 9 + 7, none⟩ = some (.int .i64 x.ev.ord) ∧ w'.cell? ⟨b3, o3 + i * 9 + 8, none⟩ = some (.int .i64 x.ev.val)) (by kernel_rfl) (fun _ _ dd _ _ h => by cases dd <;> exact h) ⟨hc, HXC.out _ (HS8.out.ext (Below.drew (Ext.refl w8))).o⟩ (fun hHeld => ?_)
                clear hc
                have HSb := Lib.hid (HS8.out.ext (Below.drew (Ext.refl w8)))
                iterate 10 ((refine sched_read (v := ?_) rfl (Or.inl ⟨by rfl, ?_⟩) hHeld ?_; rotate_left 1; · (intro w' hSw; obtain ⟨t0, t1, t2, t3, t4, t5, t6, t7, t8, t9⟩ := hSw; go_simp; (first | done | with_reducible rfl))); (try simp only [Act.put, List.setIfInBounds_toArray, List.set_cons_zero, List.set_cons_succ]))
                have hEa : Ext w8.drew (w8.drew.alloc (.cells (Dt.cells x).toArray 72)) := (Ext.refl w8.drew).allocs _
                have HBa : Hid (Blk (w8.drew.alloc (.cells (Dt.cells x).toArray 72)) w8.drew.heap.size 72 (Dt.cells x).toArray) := Blk.new w8.drew _ _
                have HSa := Lib.hid (HSb.out.ext hEa)
                have hc := HSa.out.s.lg.cell hs
                unfold Gr.val at hc
                dsimp only at hc
                refine sched_eff rfl (fun K hK => ?_)
                go_simp
                refine hK.out _ _ ⟨hc, HXC.out _ HSa.out.o⟩ (fun hHeld => ?_)
                clear hK K
                try simp only [Act.put, List.setIfInBounds_toArray, List.set_cons_zero, List.set_cons_succ]
                clear hc
                have hza : W0.heap.size ≤ (w8.drew.alloc (.cells (Dt.cells x).toArray 72)).heap.size := by have := HSa.out.s.g.size; omega
                refine sched_eff rfl (fun K hK => ?_)
                refine step_push_lies Dt.cells 9 72 Dt.len Dt.one (by omega) (by rfl) _ _ _ (by rfl) W0.heap.size 72 Try.underlying44 (by kernel_rfl) (.slice sA sl.length sc) sl x w8.drew.heap.size (by rfl) (HSa.out.s.lg.r p _ hs) (by rfl) (Seg.ofBlk HBa.out rfl) (by unfold maxLen; omega) (by omega) hza ?_
                intro g9 c9 w9 hown9 hg9 hd9
                obtain ⟨x9, y9, o9, hS9⟩ := HSa.out.pushG hww hcl hs hown9 hg9 hd9
                refine hK.out _ _ ⟨x9, HXC.out _ o9⟩ (fun hHeld => ?_)
                clear hK K
                try simp only [Act.put, List.setIfInBounds_toArray, List.set_cons_zero, List.set_cons_succ]
                iterate 1 ((refine sched_read (v := ?_) rfl (Or.inl ⟨by rfl, ?_⟩) hHeld ?_; rotate_left 1; · (intro w' hSw; obtain ⟨t0, t1, t2, t3, t4, t5, t6, t7, t8, t9⟩ := hSw; go_simp; (first | done | with_reducible rfl))); (try simp only [Act.put, List.setIfInBounds_toArray, List.set_cons_zero, List.set_cons_succ]))
                refine sched_tail rfl (by decide) (fun K hK => ?_)
                go_simp
                refine hK.out _ _ ?_
                clear hK K
                refine sched_done ?_
                have HS9 := Lib.hid hS9
                clear x9 y9 o9 hS9 hown9 hg9 hd9
                go_wp2_with fail
                go_meet
                exact ⟨_, HS9.out, HPO.out _ _⟩
              · have dk : (r7 == 1) = false := by simp [hk1]
                go_wp2_with fail
                go_meet
                exact ⟨Gs, HS7.out, HB1.out⟩
            case rest =>
              clear HS7 HB HB1 hr70 hr71
              obtain ⟨Gs', hSD, hB⟩ := hcut
              have HSD := Lib.hid hSD
              have HB : Hid (SkOk Gs' Ks (q * 150 + i * 6 + 1 + 0)) := hB
              clear hSD hB
              go_upto_region 13 with fail
              go_loopg [12] n (fun g iv wr => Q3 c bs k w W0 g1 g2 n (some ⟨b3, o3, none⟩) cD D q i g iv wr)
              case atStart => exact ⟨0, Gs', Ks, Nat.zero_le _, rfl, rfl, HSD.out, HB⟩
              case round =>
                clear HSD HB
                rename World => wq
                obtain ⟨p, Gs, Ks, hp, rfl, rfl, hSD, HB⟩ := hrel
                have HSD := Lib.hid hSD
                clear hSD
                by_cases hpl : p < n
                · have hp0 : (0 : Int) ≤ (p : Int) := by omega
                  have hp1 : (p : Int) < (n : Int) := by omega
                  go_wp2_with fail
                  refine (next_on HSD.out.s.d (Ext.refl _) 3 (by omega) (by omega)).mono ?_
                  rintro e w8 ⟨r8, rfl, ⟨hr80, hr81⟩, hD8, hg8⟩
                  have HS8 := Lib.hid (HSD.out.draw hD8 hg8 hcW)
                  clear hD8 hg8 HSD
                  by_cases hk8 : 0 < r8
                  · have dk : decide (0 < r8) = true := decide_eq_true hk8
                    obtain ⟨s, hs⟩ : ∃ s, Ks[p]? = some s := ⟨_, List.getElem?_eq_getElem (by rw [HS8.out.s.n2]; omega)⟩
                    obtain ⟨sA, sc, sl⟩ := s
                    have hsl : sl.length ≤ 1000 := by have := HB.out.k _ (List.mem_of_getElem? hs); dsimp only at this; omega
                    have HPO := Lib.hid (fun (A : Option Addr) (c : Nat) (z : Int) => HB.out.pushK hs (A := A) (c := c) (x := ⟨x, z⟩))
                    go_upto_region 16 with fail
                    have hc := HS8.out.s.kn.cell hs
                    unfold Gr.val at hc
                    dsimp only at hc
                    refine wp_region_sched (by kernel_rfl) 16 [(0, true), (1, true), (2, true), (3, true), (4, true), (5, true), (6, true), (7, true), (8, true), (9, true), (10, true), (11, false), (12, true), (13, false), (14, false), (15, true), (16, false)] (fun w' => w'.cell? ⟨g2, p, none⟩ = some (.slice sA sl.length sc) ∧ w'.cell? ⟨b3, o3 + i * 9, none⟩ = some (.int .i64 x.proc) ∧ w'.cell? ⟨b3, o3 + i * 9 + 1, none⟩ = some (.int .i64 x.index) ∧ w'.cell? ⟨b3, o3 + i * 9 + 2, none⟩ = some (.int .i64 x.ev.kind) ∧ w'.cell? ⟨b3, o3 + i * 9 + 3, none⟩ = some (.int .i64 x.ev.inc) ∧ w'.cell? ⟨b3, o3 + i * 9 + 4, none⟩ = some (.int .i64 x.ev.frm) ∧ w'.cell? ⟨b3, o3 + i * 9 + 5, none⟩ = some (.int .i64 x.ev.sinc) ∧ w'.cell? ⟨b3, o3 + i * 9 + 6, none⟩ = some (.int .i64 x.ev.sidx) ∧ w'.cell? ⟨b3, o3 + i * 9 + 7, none⟩ = some (.int .i64 x.ev.ord) ∧ w'.cell? ⟨b3, o3 + i * 9 + 8, none⟩ = some (.int .i64 x.ev.val)) (by kernel_rfl) (fun _ _ dd _ _ h => by cases dd <;> exact h) ⟨hc, HXC.out _ (HS8.out.ext (Below.drew (Ext.refl w8))).o⟩ (fun hHeld => ?_)
                    clear hc
                    have HSb := Lib.hid (HS8.out.ext (Below.drew (Ext.refl w8)))
                    iterate 11 ((refine sched_read (v := ?_) rfl (Or.inl ⟨by rfl, ?_⟩) hHeld ?_; rotate_left 1; · (intro w' hSw; obtain ⟨t0, t1, t2, t3, t4, t5, t6, t7, t8, t9⟩ := hSw; go_simp; (first | done | with_reducible rfl))); (try simp only [Act.put, List.setIfInBounds_toArray, List.set_cons_zero, List.set_cons_succ]))
                    refine sched_eff rfl (fun K hK => ?_)
                    go_simp
                    refine (bit_small p (by omega) _).mono ?_
                    rintro e' w' ⟨⟨z, rfl⟩, rfl⟩
                    have hc := HSb.out.s.kn.cell hs
                    unfold Gr.val at hc
                    dsimp only at hc
                    go_wp2_with fail
                    refine hK.out _ _ ⟨hc, HXC.out _ HSb.out.o⟩ (fun hHeld => ?_)
                    clear hK K
                    try simp only [Act.put, List.setIfInBounds_toArray, List.set_cons_zero, List.set_cons_succ]
                    clear hc
                    iterate 1 ((refine sched_read (v := ?_) rfl (Or.inl ⟨by rfl, ?_⟩) hHeld ?_; rotate_left 1; · (intro w' hSw; obtain ⟨t0, t1, t2, t3, t4, t5, t6, t7, t8, t9⟩ := hSw; go_simp; (first | done | with_reducible rfl))); (try simp only [Act.put, List.setIfInBounds_toArray, List.set_cons_zero, List.set_cons_succ]))
                    have hEa : Ext w8.drew (w8.drew.alloc (.cells (Kn.cells (⟨x, z⟩ : Kn)).toArray 77)) := (Ext.refl w8.drew).allocs _
                    have HBa : Hid (Blk (w8.drew.alloc (.cells (Kn.cells (⟨x, z⟩ : Kn)).toArray 77)) w8.drew.heap.size 77 (Kn.cells (⟨x, z⟩ : Kn)).toArray) := Blk.new w8.drew _ _
                    have HSa := Lib.hid (HSb.out.ext hEa)
                    have hc := HSa.out.s.kn.cell hs
                    unfold Gr.val at hc
                    dsimp only at hc
                    refine sched_eff rfl (fun K hK => ?_)
                    go_simp
                    refine hK.out _ _ ⟨hc, HXC.out _ HSa.out.o⟩ (fun hHeld => ?_)
                    clear hK K
                    try simp only [Act.put, List.setIfInBounds_toArray, List.set_cons_zero, List.set_cons_succ]
                    clear hc
                    have hza : W0.heap.size ≤ (w8.drew.alloc (.cells (Kn.cells (⟨x, z⟩ : Kn)).toArray 77)).heap.size := by have := HSa.out.s.g.size; omega
                    refine sched_eff rfl (fun K hK => ?_)
                    refine step_push_lies Kn.cells 10 80 Kn.len Kn.one (by omega) (by rfl) _ _ _ (by rfl) W0.heap.size 77 Try.underlying73 (by kernel_rfl) (.slice sA sl.length sc) sl (⟨x, z⟩ : Kn) w8.drew.heap.size (by rfl) (HSa.out.s.kn.r p _ hs) (by rfl) (Seg.ofBlk HBa.out rfl) (by unfold maxLen; omega) (by omega) hza ?_
                    intro g9 c9 w9 hown9 hg9 hd9
                    obtain ⟨x9, y9, o9, hS9⟩ := HSa.out.pushK hww hcl hs hown9 hg9 hd9
                    refine hK.out _ _ ⟨x9, HXC.out _ o9⟩ (fun hHeld => ?_)
                    clear hK K
                    try simp only [Act.put, List.setIfInBounds_toArray, List.set_cons_zero, List.set_cons_succ]
                    iterate 1 ((refine sched_read (v := ?_) rfl (Or.inl ⟨by rfl, ?_⟩) hHeld ?_; rotate_left 1; · (intro w' hSw; obtain ⟨t0, t1, t2, t3, t4, t5, t6, t7, t8, t9⟩ := hSw; go_simp; (first | done | with_reducible rfl))); (try simp only [Act.put, List.setIfInBounds_toArray, List.set_cons_zero, List.set_cons_succ]))
                    refine sched_tail rfl (by decide) (fun K hK => ?_)
                    go_simp
                    refine hK.out _ _ ?_
                    clear hK K
                    refine sched_done ?_
                    have HS9 := Lib.hid hS9
                    clear x9 y9 o9 hS9 hown9 hg9 hd9
                    go_wp2_with fail
                    go_roundg (n - (p + 1))
                    case measure => omega
                    case rel => exact ⟨p + 1, Gs, _, by omega, by go_num, rfl, HS9.out, by show SkOk _ _ (q * 150 + i * 6 + 1 + (p + 1)); exact (HPO.out _ _ z).mono (by omega)⟩
                  · have dk : decide (0 < r8) = false := decide_eq_false hk8
                    go_wp2_with fail
                    go_roundg (n - (p + 1))
                    case measure => omega
                    case rel => exact ⟨p + 1, Gs, Ks, by omega, by go_num, rfl, HS8.out, by show SkOk _ _ (q * 150 + i * 6 + 1 + (p + 1)); exact HB.out.mono (by omega)⟩
                · obtain rfl : p = n := by omega
                  go_wp2_with fail
                  go_roundg (D.length - (i + 1))
                  case measure => omega
                  case rel => exact ⟨i + 1, Gs, Ks, by omega, by go_num, rfl, HSD.out, by show SkOk _ _ (q * 150 + (i + 1) * 6); exact HB.out.mono (by omega)⟩
          · obtain rfl : i = D.length := by omega
            have HS := Lib.hid hSD.s
            clear hSD
            go_wp2_with fail
            go_roundg (n - (q + 1))
            case measure => omega
            case rel => exact ⟨q + 1, Gs, Ks, by omega, by go_num, rfl, HS.out, by show SkOk _ _ ((q + 1) * 150); exact HB.out.mono (by omega)⟩
      · obtain rfl : q = n := by omega
        have HS := Lib.hid hS
        clear hS
        go_wp2_with fail
        go_ret2
        exact ⟨g1, g2, Gs, Ks, rfl, HS.out, HB.out.mono (by omega)⟩
def StocksPost (c : Nat) (bs : List Int) (k : Nat) (w W0 : World) (n : Nat) (e : Ending) (w' : World) : Prop :=
  ∃ (g1 g2 : Nat) (Gs : List (Gr Dt)) (Ks : List (Gr Kn)), e = .returned (.tuple #[.slice (some ⟨g1, 0, none⟩) n n, .slice (some ⟨g2, 0, none⟩) n n]) ∧ SkAt c bs k w W0 g1 g2 n Gs Ks w' ∧ SkOk Gs Ks 1000
theorem stocks_any (c : Nat) (bs : List Int) (k : Nat) (w W0 : World) (n gl : Nat) (R : List Rw) (hD : Drew c bs k w W0) (hcl : c < w.heap.size) (hR : R.length = n) (hn1 : 1 ≤ n) (hn : n ≤ 4) (hl : ∀ W', W0.grownBy W' (some c) → LinSeg W' (some ⟨gl, 0, none⟩) R) (h60 : ∀ s ∈ R, s.es.length ≤ 24) (hok : ∀ s ∈ R, ∀ e ∈ s.es, e.ok) :
    Calls Try.prog 21 #[.pointer (some ⟨c, 0, none⟩), .slice (some ⟨gl, 0, none⟩) n n] W0 (StocksPost c bs k w W0 n) :=
  (stocks_600 c bs k w W0 n gl R hD hcl hR hn1 hn hl h60 hok).mono fun e w' ⟨g1, g2, Gs, Ks, he, h1, h2⟩ => ⟨g1, g2, Gs, Ks, he, h1, h2.mono (by omega)⟩
end Go.Proofs.Ytcljdkjlfciacaa
