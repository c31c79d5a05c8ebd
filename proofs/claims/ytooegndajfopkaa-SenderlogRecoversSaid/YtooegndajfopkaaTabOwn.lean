/- Tables of rows of the call's own. No statement of the seat is proved here. -/
import Derived.Test.YtooegndajfopkaaFlagR
import Derived.Test.YtooegndajfopkaaSched
import Derived.Deep.AppendLies
namespace Go.Proofs.Ytooegndajfopkaa
open Go.RowKit
set_option linter.unusedVariables false
set_option maxRecDepth 100000

theorem Seg.ofBlkK {W : World} {g : Nat} {t : TypeId} {cs : List Value} {s n : Nat} (h : Blk W g t cs.toArray) (hl : cs.length = n * s) : Seg W s (some ⟨g, 0, none⟩) n cs :=
  ⟨hl, fun _ => ⟨g, 0, rfl, h.lt, fun j u hu => by rw [Nat.zero_add, h.cell, List.getElem?_toArray, hu]⟩⟩
theorem step_push_lies {P : Program} {α : Type} (f : α → List Value) (s bytes : Nat) (hf : ∀ a, (f a).length = s) (h1 : ∀ a, ∀ u ∈ f a, u.oneCell' = true) (hs0 : 0 < s)
    {w : World} {ops : Array Oper} {o : Oper} {a : Act} {K : Act → World → Prop} {Q : Exit → Act → World → Prop} {E : Prop} (hgd : o.guard = none) (so xo : Operand) (t : TypeId)
    (ho : o.op = .call { callee := .builtin .append, args := #[so, xo], argTypes := #[t, t] })
    (base : Nat) (e : TypeId) (ht : P.underlying t = some (.slice e)) (hinfo : elemOf P e = some (s, s, bytes))
    (v : Value) (l : List α) (x : α) (gx : Nat) (hso : a.eval so = v) (hown : w.ownsRow base e s v l.length (l.flatMap f)) (hxo : a.eval xo = .slice (some ⟨gx, 0, none⟩) 1 1) (hseg : Seg w s (some ⟨gx, 0, none⟩) 1 (f x))
    (h63 : l.length + 1 ≤ maxLen) (hbytes : (l.length + 1) * bytes ≤ 140737488355328) (hbase : base ≤ w.heap.size)
    (h : ∀ g cap w', w'.ownsRow base e s (.slice (some ⟨g, 0, none⟩) (l.length + 1) cap) (l ++ [x]).length ((l ++ [x]).flatMap f) → w.grownBy w' v.ownBlock → (v.ownBlock = some g ∨ g = w.heap.size) → K (a.put o.dst (.slice (some ⟨g, 0, none⟩) (l.length + 1) cap)) w') :
    if Region.wanted o (yielded ops a.tmps) = true then Oper.wp P o a w K Q else E := by
  obtain ⟨i, z, hi, hz, hsz, hby, hzs⟩ := elemOf_some hinfo
  refine step_append_lies w hgd so xo t ho base e i z s bytes ht hi hz hsz hby hzs hs0 v l.length (l.flatMap f) hso hown ⟨gx, 0, none⟩ 1 1 (f x) hxo (by rw [hf]; omega) ?_ (h1 x) (by omega) h63 hbytes hbase w.heap.size rfl ?_
  · intro j u hu
    obtain ⟨b, off, hA, _, hc⟩ := hseg.2 (by omega)
    injection hA with hA
    injection hA with hA1 hA2
    subst hA1 hA2
    have ha : (⟨gx, 0, none⟩ : Addr).add j = ⟨gx, 0 + j, none⟩ := by unfold Addr.add; split <;> simp_all
    rw [ha]
    exact hc j u hu
  · intro g cap w' h2 h3 h4 _
    refine h g cap w' ?_ h3 h4
    rw [List.flatMap_append, List.length_append]
    simpa using h2
theorem own_keptc {w w' : World} {c base : Nat} {e : TypeId} {s n : Nat} {v : Value} {xs : List Value} (h : w.ownsRow base e s v n xs) (hg : w.grownBy w' (some c)) (hc : c < base) : w'.ownsRow base e s v n xs :=
  h.kept hg (by rcases hb : v.ownBlock with _ | g; · exact .inl rfl
                · right; intro e; have := (h.lt g hb).1; injection e; omega)
theorem grown_set1 (w : World) (g o : Nat) (v : Value) : w.grownBy (w.setCell ⟨g, o, none⟩ v) (some g) :=
  ⟨rfl, rfl, rfl, by simp [World.setCell], fun k hk hne => Below.heap_setCell _ _ _ _ (fun e => hne (by rw [e]))⟩
theorem grown_new2 {a b d : World} {c : Nat} {row : Option Nat} (h : a.grownBy b (some c)) (hg : b.grownBy d row) (hr : ∀ r, row = some r → a.heap.size ≤ r) : a.grownBy d (some c) :=
  ⟨hg.os.trans h.os, hg.tape.trans h.tape, hg.output.trans h.output, Nat.le_trans h.size hg.size, fun k hk hne => (hg.block k (Nat.lt_of_lt_of_le hk h.size) (fun e => by have := hr k e.symm; omega)).trans (h.block k hk hne)⟩
structure Gr (α : Type) where
  A : Option Addr
  c : Nat
  l : List α
def Gr.cells {α : Type} (r : Gr α) : List Value := [.slice r.A r.l.length r.c]
theorem Gr.len {α : Type} (r : Gr α) : r.cells.length = 1 := rfl
theorem Gr.one {α : Type} (r : Gr α) : ∀ u ∈ r.cells, u.oneCell' = true := by simp [Gr.cells, Value.oneCell']
def GSeg {α : Type} (f : α → List Value) (s : Nat) (W : World) (A : Option Addr) (R : List (Gr α)) : Prop := Seg W 1 A R.length (R.flatMap Gr.cells) ∧ ∀ r ∈ R, Seg W s r.A r.l.length (r.l.flatMap f) ∧ r.l.length ≤ r.c ∧ r.c ≤ maxLen
section
variable {α : Type} {f : α → List Value} {s : Nat} {W W' : World} {A : Option Addr} {R : List (Gr α)}
theorem GSeg.ext (h : GSeg f s W A R) (hE : Ext W W') : GSeg f s W' A R := ⟨h.1.ext hE, fun r hr => ⟨(h.2 r hr).1.ext hE, (h.2 r hr).2⟩⟩
theorem GSeg.at_ (h : GSeg f s W A R) {q : Nat} (hq : q < R.length) : ∃ b off, A = some ⟨b, off, none⟩ ∧ W.cell? ⟨b, off + q, none⟩ = some (.slice R[q].A R[q].l.length R[q].c) := by
  obtain ⟨b, off, hA, _, hc⟩ := Seg.at_ h.1 Gr.len hq
  have := hc 0 _ rfl
  exact ⟨b, off, hA, by simpa using this⟩
theorem GSeg.row (h : GSeg f s W A R) {q : Nat} (hq : q < R.length) : Seg W s R[q].A R[q].l.length (R[q].l.flatMap f) ∧ R[q].l.length ≤ R[q].c ∧ R[q].c ≤ maxLen := h.2 _ (List.getElem_mem hq)
theorem GSeg.nil : GSeg f s W none ([] : List (Gr α)) := ⟨Seg.nil, fun r hr => by cases hr⟩
end
theorem own_not {w : World} {base g : Nat} {e t : TypeId} {s n : Nat} {v : Value} {xs : List Value} {cs : Array Value} (h : w.ownsRow base e s v n xs) (hB : Blk w g t cs) (ht : t ≠ e) : v.ownBlock = none ∨ v.ownBlock ≠ some g := by
  rcases h.2 with ⟨rfl, _⟩ | ⟨g', cap, cur, rfl, _, hh, _⟩
  · exact .inl rfl
  · right
    intro e'
    simp only [Value.ownBlock, Option.some.injEq] at e'
    subst e'
    unfold Blk at hB
    rw [hh] at hB
    injection hB with hB
    injection hB with _ hB
    exact ht hB.symm
theorem own_nilv (w : World) (base : Nat) (e : TypeId) (s : Nat) : w.ownsRow base e s (.slice none 0 0) 0 [] := ⟨by simp, .inl ⟨rfl, rfl⟩⟩
abbrev Gr.val {α : Type} (r : Gr α) : Value := .slice r.A r.l.length r.c
structure GOwn {α : Type} (f : α → List Value) (sz : Nat) (t tR : TypeId) (W : World) (base gl : Nat) (R : List (Gr α)) : Prop where
  b : Blk W gl tR (R.flatMap Gr.cells).toArray
  r : ∀ (q : Nat) (s : Gr α), R[q]? = some s → W.ownsRow base t sz (Gr.val s) s.l.length (s.l.flatMap f)
  d : ∀ (p q : Nat) (s r0 : Gr α) (g : Nat), p ≠ q → R[p]? = some s → R[q]? = some r0 → (Gr.val s).ownBlock = some g → (Gr.val r0).ownBlock ≠ some g
theorem own_blk {w : World} {base g : Nat} {e : TypeId} {s n : Nat} {v : Value} {xs : List Value} (h : w.ownsRow base e s v n xs) (hv : v.ownBlock = some g) : ∃ cs, Blk w g e cs := by
  rcases h.2 with ⟨rfl, _⟩ | ⟨g', cap, cur, rfl, _, hh, _⟩
  · cases hv
  · simp only [Value.ownBlock, Option.some.injEq] at hv
    subst hv
    exact ⟨cur, hh⟩
theorem blk_type {w : World} {g : Nat} {t t' : TypeId} {cs cs' : Array Value} (h : Blk w g t cs) (h' : Blk w g t' cs') : t = t' := by
  unfold Blk at h h'
  rw [h] at h'
  injection h' with h'
  injection h' with _ h'
section
variable {α : Type} {f : α → List Value} {sz : Nat} {t tR : TypeId} {W W' : World} {base gl : Nat} {R : List (Gr α)}
theorem GOwn.ext (h : GOwn f sz t tR W base gl R) (hE : Ext W W') : GOwn f sz t tR W' base gl R := ⟨h.b.ext hE, fun q s hs => own_ext (h.r q s hs) hE, h.d⟩
/-- another block was written -/
theorem GOwn.far (h : GOwn f sz t tR W base gl R) {row : Option Nat} (hg : W.grownBy W' row) (hr : ∀ g, row = some g → gl ≠ g ∧ ∀ (q : Nat) (s : Gr α), R[q]? = some s → (Gr.val s).ownBlock ≠ some g) : GOwn f sz t tR W' base gl R :=
  ⟨(hg.block gl h.b.lt (fun e => (hr gl e.symm).1 rfl)).trans h.b, fun q s hs => (h.r q s hs).kept hg (by
    rcases row with _ | g
    · rcases e : (Gr.val s).ownBlock with _ | g'
      · exact .inl rfl
      · exact .inr (by simp)
    · exact .inr ((hr g rfl).2 q s hs)), h.d⟩
/-- a block of another type was written -/
theorem GOwn.typed (h : GOwn f sz t tR W base gl R) {row : Option Nat} (hg : W.grownBy W' row) (hr : ∀ g, row = some g → ∃ t' cs, Blk W g t' cs ∧ t' ≠ t ∧ t' ≠ tR) : GOwn f sz t tR W' base gl R :=
  h.far hg fun g e => by
    obtain ⟨t', cs, hB, h1, h2⟩ := hr g e
    refine ⟨fun e' => ?_, fun q s hs e' => ?_⟩
    · subst e'
      exact h2 (blk_type hB h.b)
    · obtain ⟨cs', hB'⟩ := own_blk (h.r q s hs) e'
      exact h1 (blk_type hB hB')
theorem GOwn.low (h : GOwn f sz t tR W base gl R) {g : Nat} (hg : W.grownBy W' (some g)) (hl : gl ≠ g) (hb : g < base) : GOwn f sz t tR W' base gl R :=
  h.far hg fun g' e => by
    injection e with e
    subst e
    exact ⟨hl, fun q s hs e' => by have := ((h.r q s hs).lt g e').1; omega⟩
theorem GOwn.cell (h : GOwn f sz t tR W base gl R) {q : Nat} {s : Gr α} (hs : R[q]? = some s) : W.cell? ⟨gl, q, none⟩ = some (Gr.val s) := by
  have := Blk.tabAt h.b Gr.len hs (j := 0) (by omega) (u := Gr.val s) rfl
  simpa using this
theorem GOwn.frz (h : GOwn f sz t tR W base gl R) (q : Nat) : W.frozen? ⟨gl, q, none⟩ = false := h.b.frozen q
theorem GOwn.seg (h : GOwn f sz t tR W base gl R) : GSeg f sz W (some ⟨gl, 0, none⟩) R := by
  refine ⟨Seg.ofBlkK h.b (by rw [flat_len Gr.cells 1 Gr.len]), fun s hs => ?_⟩
  obtain ⟨q, hq⟩ := List.mem_iff_getElem?.1 hs
  obtain ⟨A, c, e, h1, h2, h3⟩ := own_slice (h.r q s hq)
  injection e with e1 e2 e3
  subst e1 e3
  exact ⟨h1, h2, h3⟩
theorem GOwn.start {n : Nat} (h : Blk W gl tR ((List.replicate n (⟨none, 0, []⟩ : Gr α)).flatMap Gr.cells).toArray) : GOwn f sz t tR W base gl (List.replicate n ⟨none, 0, []⟩) := by
  have hg : ∀ (q : Nat) (s : Gr α), (List.replicate n (⟨none, 0, []⟩ : Gr α))[q]? = some s → s = ⟨none, 0, []⟩ := fun q s hs => by
    rw [List.getElem?_replicate] at hs
    split at hs
    · injection hs with hs; exact hs.symm
    · cases hs
  refine ⟨h, fun q s hs => ?_, fun p q s r0 g _ hs _ hgg => ?_⟩
  · rw [hg q s hs]; exact own_nilv _ _ _ _
  · rw [hg p s hs] at hgg; cases hgg
/-- a row grew, and its slice is stored -/
theorem GOwn.push (hty : tR ≠ t) {W9 : World} (h : GOwn f sz t tR W base gl R) {q : Nat} {s : Gr α} (hs : R[q]? = some s) {g9 c9 : Nat} {x : α} (hown : W9.ownsRow base t sz (.slice (some ⟨g9, 0, none⟩) (s.l.length + 1) c9) (s.l ++ [x]).length ((s.l ++ [x]).flatMap f))
    (hg : W.grownBy W9 (Gr.val s).ownBlock) (hd : (Gr.val s).ownBlock = some g9 ∨ g9 = W.heap.size) :
    GOwn f sz t tR (W9.setCell ⟨gl, q, none⟩ (.slice (some ⟨g9, 0, none⟩) (s.l.length + 1) c9)) base gl (R.set q ⟨some ⟨g9, 0, none⟩, c9, s.l ++ [x]⟩) := by
  have hq : q < R.length := (List.getElem?_eq_some_iff.1 hs).1
  have hlen : (s.l ++ [x]).length = s.l.length + 1 := by simp
  have hb9 : Blk W9 gl tR (R.flatMap Gr.cells).toArray := (hg.block gl h.b.lt (fun e => by
    rcases own_not (h.r q s hs) h.b hty with h | h
    · rw [h] at e; cases e
    · exact h e.symm)).trans h.b
  have hgl9 : g9 ≠ gl := fun e => by
    rcases own_not hown hb9 hty with h | h
    · cases h
    · exact h (by rw [e]; rfl)
  have hg1 := grown_set1 W9 gl q (.slice (some ⟨g9, 0, none⟩) (s.l.length + 1) c9)
  have hnew : ∀ (p : Nat) (r0 : Gr α), p ≠ q → R[p]? = some r0 → (Gr.val r0).ownBlock ≠ some g9 := fun p r0 hp ht e => by
    rcases hd with hd | hd
    · exact h.d p q r0 s g9 hp ht hs e hd
    · have := ((h.r p r0 ht).lt g9 e).2; omega
  have hold : ∀ (p : Nat) (r0 : Gr α), p ≠ q → R[p]? = some r0 → (Gr.val r0).ownBlock = none ∨ (Gr.val r0).ownBlock ≠ (Gr.val s).ownBlock := fun p r0 hp ht => by
    rcases e : (Gr.val r0).ownBlock with _ | g
    · exact .inl rfl
    · right
      intro e2
      exact h.d p q r0 s g hp ht hs e e2.symm
  have hget : ∀ (p : Nat) (r0 : Gr α), (R.set q ⟨some ⟨g9, 0, none⟩, c9, s.l ++ [x]⟩)[p]? = some r0 → (p = q ∧ r0 = ⟨some ⟨g9, 0, none⟩, c9, s.l ++ [x]⟩) ∨ (p ≠ q ∧ R[p]? = some r0) := fun p r0 ht => by
    rw [List.getElem?_set] at ht
    split at ht
    · rename_i e
      injection ht with ht
      exact .inl ⟨e.symm, ht.symm⟩
    · rename_i e
      exact .inr ⟨fun e' => e e'.symm, ht⟩
  have hval : Gr.val ⟨some ⟨g9, 0, none⟩, c9, s.l ++ [x]⟩ = .slice (some ⟨g9, 0, none⟩) (s.l.length + 1) c9 := by unfold Gr.val; rw [hlen]
  have hvb : (Gr.val ⟨some ⟨g9, 0, none⟩, c9, s.l ++ [x]⟩).ownBlock = some g9 := rfl
  refine ⟨?_, fun p r0 ht => ?_, fun p p' r0 r1 gg hpp ht ht' hgg => ?_⟩
  · have := Blk.setAt hb9 (f := Gr.cells) (s := 1) (by omega) Gr.len hq ⟨some ⟨g9, 0, none⟩, c9, s.l ++ [x]⟩
    simpa [World.setCells, Gr.cells] using this
  · rcases hget p r0 ht with ⟨rfl, rfl⟩ | ⟨hp, ht⟩
    · rw [hval]
      refine hown.kept hg1 (.inr fun e => hgl9 ?_)
      injection e
    · refine ((h.r p r0 ht).kept hg (hold p r0 hp ht)).kept hg1 ?_
      rcases own_not ((h.r p r0 ht).kept hg (hold p r0 hp ht)) hb9 hty with h | h
      · exact .inl h
      · exact .inr h
  · rcases hget p r0 ht with ⟨rfl, rfl⟩ | ⟨hp, ht2⟩
    · rcases hget p' r1 ht' with ⟨rfl, rfl⟩ | ⟨hp', ht2'⟩
      · exact absurd rfl hpp
      · rw [hvb] at hgg
        injection hgg with hgg
        subst hgg
        exact hnew p' r1 hp' ht2'
    · rcases hget p' r1 ht' with ⟨rfl, rfl⟩ | ⟨hp', ht2'⟩
      · rw [hvb]
        intro e
        injection e with e
        subst e
        exact hnew p r0 hp ht2 hgg
      · exact h.d p p' r0 r1 gg hpp ht2 ht2' hgg
end
end Go.Proofs.Ytooegndajfopkaa
