/- Lineages of the call's own in memory. No statement of the seat is proved here. -/
import Derived.Test.YtcljdkjlfciacaaMk6
namespace Go.Proofs.Ytcljdkjlfciacaa
open Go.RowKit
set_option linter.unusedVariables false

abbrev Rw.val (s : Rw) : Value := .slice s.A s.es.length s.c
/-- lineages whose rows lie each in a block of its own, or are nil -/
structure LinOwn (W : World) (base gl : Nat) (R : List Rw) : Prop where
  b : Blk W gl 55 (R.flatMap Rw.cells).toArray
  r : ∀ (q : Nat) (s : Rw), R[q]? = some s → W.ownsRow base 61 7 (Rw.val s) s.es.length (s.es.flatMap Ev.cells)
  d : ∀ (p q : Nat) (s t : Rw) (g : Nat), p ≠ q → R[p]? = some s → R[q]? = some t → (Rw.val s).ownBlock = some g → (Rw.val t).ownBlock ≠ some g
section
variable {W W' : World} {base gl : Nat} {R : List Rw}
theorem LinOwn.ext (h : LinOwn W base gl R) (hE : Ext W W') : LinOwn W' base gl R := ⟨h.b.ext hE, fun q s hs => own_ext (h.r q s hs) hE, h.d⟩
/-- another block was written -/
theorem LinOwn.far (h : LinOwn W base gl R) {g : Nat} (hg : W.grownBy W' (some g)) (hl : gl ≠ g) (hr : ∀ (q : Nat) (s : Rw), R[q]? = some s → (Rw.val s).ownBlock ≠ some g) : LinOwn W' base gl R :=
  ⟨(hg.block gl h.b.lt (fun e => hl (by injection e))).trans h.b, fun q s hs => (h.r q s hs).kept hg (.inr (hr q s hs)), h.d⟩
theorem LinOwn.low (h : LinOwn W base gl R) {g : Nat} (hg : W.grownBy W' (some g)) (hl : gl ≠ g) (hb : g < base) : LinOwn W' base gl R :=
  h.far hg hl fun q s hs e => by have := ((h.r q s hs).lt g e).1; omega
theorem LinOwn.typed (h : LinOwn W base gl R) {g : Nat} {t : TypeId} {cs : Array Value} (hg : W.grownBy W' (some g)) (hl : gl ≠ g) (hB : Blk W g t cs) (ht : t ≠ 61) : LinOwn W' base gl R :=
  h.far hg hl fun q s hs e => by
    rcases own_not (h.r q s hs) hB ht with h | h
    · rw [h] at e; cases e
    · exact h e
theorem LinOwn.cell (h : LinOwn W base gl R) {q : Nat} {s : Rw} (hs : R[q]? = some s) : W.cell? ⟨gl, q, none⟩ = some (Rw.val s) := by
  have := Blk.tabAt h.b Rw.len hs (j := 0) (by omega) (u := Rw.val s) rfl
  simpa using this
theorem LinOwn.frz (h : LinOwn W base gl R) (q : Nat) : W.frozen? ⟨gl, q, none⟩ = false := h.b.frozen q
theorem LinOwn.seg (h : LinOwn W base gl R) : LinSeg W (some ⟨gl, 0, none⟩) R := by
  refine ⟨Seg.ofBlk h.b (by rw [flat_len Rw.cells 1 Rw.len]), fun s hs => ?_⟩
  obtain ⟨q, hq⟩ := List.mem_iff_getElem?.1 hs
  obtain ⟨A, c, e, h1, h2, h3⟩ := own_slice (h.r q s hq)
  injection e with e1 e2 e3
  subst e1 e3
  exact ⟨h1, h2, h3⟩
theorem LinOwn.len (h : LinOwn W base gl R) {q : Nat} {s : Rw} (hs : R[q]? = some s) : s.es.length ≤ s.c ∧ s.c ≤ maxLen := by
  obtain ⟨A, c, e, h1, h2, h3⟩ := own_slice (h.r q s hs)
  injection e with e1 e2 e3
  subst e1 e3
  exact ⟨h2, h3⟩
/-- a row was written in place -/
theorem LinOwn.put (h : LinOwn W base gl R) {q : Nat} {s : Rw} (hs : R[q]? = some s) {g : Nat} (hA : s.A = some ⟨g, 0, none⟩) (hg : W.grownBy W' (some g)) {es : List Ev} (hl : es.length = s.es.length) (hown : W'.ownsRow base 61 7 (Rw.val s) s.es.length (es.flatMap Ev.cells)) :
    LinOwn W' base gl (R.set q ⟨s.A, s.c, es⟩) := by
  have hv : (Rw.val s).ownBlock = some g := by unfold Rw.val; rw [hA]; rfl
  have hne : gl ≠ g := fun e => by
    rcases own_not (h.r q s hs) h.b (by decide) with h | h
    · rw [h] at hv; cases hv
    · exact h (by rw [hv, e])
  have hcell : R.flatMap Rw.cells = (R.set q ⟨s.A, s.c, es⟩).flatMap Rw.cells := by
    refine List.ext_getElem? fun i => ?_
    have e1 : (R.flatMap Rw.cells) = R.map Rw.val := by
      rw [List.flatMap_def]
      clear hs h hown hne hv
      induction R with
      | nil => rfl
      | cons x R ih => rw [List.map_cons, List.flatten_cons, List.map_cons, ← ih]; rfl
    have e2 : ((R.set q ⟨s.A, s.c, es⟩).flatMap Rw.cells) = (R.set q ⟨s.A, s.c, es⟩).map Rw.val := by
      rw [List.flatMap_def]
      generalize R.set q ⟨s.A, s.c, es⟩ = R2
      induction R2 with
      | nil => rfl
      | cons x R ih => rw [List.map_cons, List.flatten_cons, List.map_cons, ← ih]; rfl
    rw [e1, e2, List.getElem?_map, List.getElem?_map, List.getElem?_set]
    split
    · rename_i e
      subst e
      rw [hs]
      have hq : q < R.length := (List.getElem?_eq_some_iff.1 hs).1
      rw [if_pos hq]
      simp [Rw.val, hl]
    · rfl
  have hval : Rw.val ⟨s.A, s.c, es⟩ = Rw.val s := by unfold Rw.val; rw [hl]
  have hq : q < R.length := (List.getElem?_eq_some_iff.1 hs).1
  have hget : ∀ (p : Nat) (t : Rw), (R.set q ⟨s.A, s.c, es⟩)[p]? = some t → (p = q ∧ t = ⟨s.A, s.c, es⟩) ∨ (p ≠ q ∧ R[p]? = some t) := fun p t ht => by
    rw [List.getElem?_set] at ht
    split at ht
    · rename_i e
      injection ht with ht
      exact .inl ⟨e.symm, ht.symm⟩
    · rename_i e
      exact .inr ⟨fun e' => e e'.symm, ht⟩
  refine ⟨?_, fun p t ht => ?_, fun p p' t t' gg hpp ht ht' hgg => ?_⟩
  · rw [← hcell]
    exact (hg.block gl h.b.lt (fun e => hne (by injection e))).trans h.b
  · rcases hget p t ht with ⟨rfl, rfl⟩ | ⟨hp, ht⟩
    · rw [hval]
      show W'.ownsRow base _ 7 (Rw.val s) es.length (es.flatMap Ev.cells)
      rw [hl]
      exact hown
    · exact (h.r p t ht).kept hg (.inr fun e => h.d p q t s g hp ht hs e hv)
  · rcases hget p t ht with ⟨rfl, rfl⟩ | ⟨hp, ht2⟩
    · rcases hget p' t' ht' with ⟨rfl, rfl⟩ | ⟨hp', ht2'⟩
      · exact absurd rfl hpp
      · rw [hval] at hgg
        exact h.d p p' s t' gg hpp hs ht2' hgg
    · rcases hget p' t' ht' with ⟨rfl, rfl⟩ | ⟨hp', ht2'⟩
      · rw [hval]
        exact h.d p p' t s gg hpp ht2 hs hgg
      · exact h.d p p' t t' gg hpp ht2 ht2' hgg
/-- a row grew, and its slice is stored -/
theorem LinOwn.push {W9 : World} (h : LinOwn W base gl R) {q : Nat} {s : Rw} (hs : R[q]? = some s) {g9 c9 : Nat} {x : Ev} (hown : W9.ownsRow base 61 7 (.slice (some ⟨g9, 0, none⟩) (s.es.length + 1) c9) (s.es ++ [x]).length ((s.es ++ [x]).flatMap Ev.cells))
    (hg : W.grownBy W9 (Rw.val s).ownBlock) (hd : (Rw.val s).ownBlock = some g9 ∨ g9 = W.heap.size) :
    LinOwn (W9.setCell ⟨gl, q, none⟩ (.slice (some ⟨g9, 0, none⟩) (s.es.length + 1) c9)) base gl (R.set q ⟨some ⟨g9, 0, none⟩, c9, s.es ++ [x]⟩) := by
  have hq : q < R.length := (List.getElem?_eq_some_iff.1 hs).1
  have hlen : (s.es ++ [x]).length = s.es.length + 1 := by simp
  have hb9 : Blk W9 gl 55 (R.flatMap Rw.cells).toArray := (hg.block gl h.b.lt (fun e => by
    rcases own_not (h.r q s hs) h.b (by decide) with h | h
    · rw [h] at e; cases e
    · exact h e.symm)).trans h.b
  have hgl9 : g9 ≠ gl := fun e => by
    rcases own_not hown hb9 (by decide) with h | h
    · cases h
    · exact h (by rw [e]; rfl)
  have hg1 := grown_set1 W9 gl q (.slice (some ⟨g9, 0, none⟩) (s.es.length + 1) c9)
  have hnew : ∀ (p : Nat) (t : Rw), p ≠ q → R[p]? = some t → (Rw.val t).ownBlock ≠ some g9 := fun p t hp ht e => by
    rcases hd with hd | hd
    · exact h.d p q t s g9 hp ht hs e hd
    · have := ((h.r p t ht).lt g9 e).2; omega
  have hold : ∀ (p : Nat) (t : Rw), p ≠ q → R[p]? = some t → (Rw.val t).ownBlock = none ∨ (Rw.val t).ownBlock ≠ (Rw.val s).ownBlock := fun p t hp ht => by
    rcases e : (Rw.val t).ownBlock with _ | g
    · exact .inl rfl
    · right
      intro e2
      exact h.d p q t s g hp ht hs e e2.symm
  have hget : ∀ (p : Nat) (t : Rw), (R.set q ⟨some ⟨g9, 0, none⟩, c9, s.es ++ [x]⟩)[p]? = some t → (p = q ∧ t = ⟨some ⟨g9, 0, none⟩, c9, s.es ++ [x]⟩) ∨ (p ≠ q ∧ R[p]? = some t) := fun p t ht => by
    rw [List.getElem?_set] at ht
    split at ht
    · rename_i e
      injection ht with ht
      exact .inl ⟨e.symm, ht.symm⟩
    · rename_i e
      exact .inr ⟨fun e' => e e'.symm, ht⟩
  have hval : Rw.val ⟨some ⟨g9, 0, none⟩, c9, s.es ++ [x]⟩ = .slice (some ⟨g9, 0, none⟩) (s.es.length + 1) c9 := by unfold Rw.val; rw [hlen]
  have hvb : (Rw.val ⟨some ⟨g9, 0, none⟩, c9, s.es ++ [x]⟩).ownBlock = some g9 := rfl
  refine ⟨?_, fun p t ht => ?_, fun p p' t t' gg hpp ht ht' hgg => ?_⟩
  · have := Blk.setAt hb9 (f := Rw.cells) (s := 1) (by omega) Rw.len hq ⟨some ⟨g9, 0, none⟩, c9, s.es ++ [x]⟩
    simpa [World.setCells, Rw.cells] using this
  · rcases hget p t ht with ⟨rfl, rfl⟩ | ⟨hp, ht⟩
    · rw [hval]
      refine hown.kept hg1 (.inr fun e => hgl9 ?_)
      injection e
    · refine ((h.r p t ht).kept hg (hold p t hp ht)).kept hg1 ?_
      rcases own_not ((h.r p t ht).kept hg (hold p t hp ht)) hb9 (by decide) with h | h
      · exact .inl h
      · exact .inr h
  · rcases hget p t ht with ⟨rfl, rfl⟩ | ⟨hp, ht2⟩
    · rcases hget p' t' ht' with ⟨rfl, rfl⟩ | ⟨hp', ht2'⟩
      · exact absurd rfl hpp
      · rw [hvb] at hgg
        injection hgg with hgg
        subst hgg
        exact hnew p' t' hp' ht2'
    · rcases hget p' t' ht' with ⟨rfl, rfl⟩ | ⟨hp', ht2'⟩
      · rw [hvb]
        intro e
        injection e with e
        subst e
        exact hnew p t hp ht2 hgg
      · exact h.d p p' t t' gg hpp ht2 ht2' hgg
end
/-- one cell of an element -/
theorem flat_set1 {α : Type} (f : α → List Value) (s : Nat) (hs : 0 < s) (hf : ∀ a, (f a).length = s) (l : List α) (j : Nat) (x : α) (hj : j < l.length) (o : Nat) (ho : o < s) (v : Value) (hx : f x = (f l[j]).set o v) :
    (l.flatMap f).set (j * s + o) v = (l.set j x).flatMap f := by
  rw [← setAll_flat f s hs hf l j x hj]
  refine List.ext_getElem? fun q => ?_
  rw [setAll_get, hf, flat_len f s hf, List.getElem?_set, flat_len f s hf]
  have hjl : (j + 1) * s ≤ l.length * s := Nat.mul_le_mul_right _ hj
  rw [Nat.add_mul] at hjl
  have hbase : ∀ i, i < s → (l.flatMap f)[j * s + i]? = (f l[j])[i]? := fun i hi => flat_get f s hf l j i l[j] (List.getElem?_eq_getElem hj) hi
  by_cases hq : j * s ≤ q ∧ q < j * s + s
  · rw [if_pos (show j * s ≤ q ∧ q < j * s + s ∧ q < l.length * s by omega)]
    obtain ⟨i, rfl⟩ : ∃ i, q = j * s + i := ⟨q - j * s, by omega⟩
    rw [show j * s + i - j * s = i by omega, hx, List.getElem?_set, hf]
    by_cases hio : o = i
    · subst hio
      rw [if_pos rfl, if_pos rfl, if_pos (by omega), if_pos ho]
    · rw [if_neg (by omega), if_neg hio, hbase i (by omega)]
  · rw [if_neg (show ¬ j * s + o = q by omega), if_neg (by omega)]

section
variable {W : World} {base gl : Nat} {R : List Rw}
/-- the block of a row that has events -/
theorem LinOwn.row (h : LinOwn W base gl R) {q : Nat} {s : Rw} (hs : R[q]? = some s) (hn : 0 < s.es.length) : ∃ g, s.A = some ⟨g, 0, none⟩ ∧ base ≤ g ∧ g < W.heap.size ∧ g ≠ gl := by
  obtain ⟨g, cap, e, h1, h2⟩ := (h.r q s hs).form hn
  injection e with e1 e2 e3
  refine ⟨g, e1, h1, h2, fun e => ?_⟩
  rcases own_not (h.r q s hs) h.b (by decide) with h | h
  · unfold Rw.val at h; rw [e1] at h; cases h
  · exact h (by unfold Rw.val; rw [e1, e]; rfl)
theorem LinOwn.ev (h : LinOwn W base gl R) {q : Nat} {s : Rw} (hs : R[q]? = some s) {j : Nat} {e : Ev} (he : s.es[j]? = some e) {g : Nat} (hA : s.A = some ⟨g, 0, none⟩) {o : Nat} (ho : o < 7) {v : Value} (hv : e.cells[o]? = some v) : W.cell? ⟨g, j * 7 + o, none⟩ = some v := by
  have h1 := h.r q s hs
  unfold Rw.val at h1
  rw [hA] at h1
  have hj : j < s.es.length := (List.getElem?_eq_some_iff.1 he).1
  rw [h1.cellAt (j * 7 + o) (by omega), flat_get Ev.cells 7 Ev.len s.es j o e he ho, hv]
theorem LinOwn.evf (h : LinOwn W base gl R) {q : Nat} {s : Rw} (hs : R[q]? = some s) {g : Nat} (hA : s.A = some ⟨g, 0, none⟩) (i : Nat) : W.frozen? ⟨g, i, none⟩ = false := by
  have h1 := h.r q s hs
  unfold Rw.val at h1
  rw [hA] at h1
  exact h1.frozenAt i
/-- one number of an event was stored -/
theorem LinOwn.store1 (h : LinOwn W base gl R) {q : Nat} {s : Rw} (hs : R[q]? = some s) {j : Nat} {e x : Ev} (he : s.es[j]? = some e) {g : Nat} (hA : s.A = some ⟨g, 0, none⟩) {o : Nat} (ho : o < 7) {v : Value} (hx : x.cells = e.cells.set o v) :
    LinOwn (W.setCell ⟨g, j * 7 + o, none⟩ v) base gl (R.set q ⟨s.A, s.c, s.es.set j x⟩) := by
  have h1 := h.r q s hs
  obtain ⟨hj, hje⟩ := List.getElem?_eq_some_iff.1 he
  refine h.put hs hA (grown_set1 _ _ _ _) (by simp) ?_
  unfold Rw.val at h1 ⊢
  rw [hA] at h1 ⊢
  have h2 := (h1.stored (j * 7 + o) v).1
  rwa [flat_set1 Ev.cells 7 (by omega) Ev.len s.es j x hj o ho v (by rw [hje, hx])] at h2
/-- a whole event was stored -/
theorem LinOwn.store7 (h : LinOwn W base gl R) {q : Nat} {s : Rw} (hs : R[q]? = some s) {j : Nat} (hj : j < s.es.length) (x : Ev) {g : Nat} (hA : s.A = some ⟨g, 0, none⟩) :
    LinOwn (W.setCells g (j * 7) x.cells) base gl (R.set q ⟨s.A, s.c, s.es.set j x⟩) := by
  have h1 := h.r q s hs
  have hgr : ∀ (vs : List Value) (o : Nat) (W : World), W.grownBy (W.setCells g o vs) (some g) := by
    intro vs
    induction vs with
    | nil => intro o W; exact World.grownBy.refl W _
    | cons v vs ih => intro o W; exact grownBy_trans (grown_set1 W g o v) (ih (o + 1) _)
  have hown : ∀ (vs : List Value) (o : Nat) (W : World) (xs : List Value), W.ownsRow base 61 7 (.slice (some ⟨g, 0, none⟩) s.es.length s.c) s.es.length xs → (W.setCells g o vs).ownsRow base 61 7 (.slice (some ⟨g, 0, none⟩) s.es.length s.c) s.es.length (setAll xs o vs) := by
    intro vs
    induction vs with
    | nil => intro o W xs h; exact h
    | cons v vs ih => intro o W xs h; exact ih (o + 1) _ _ (h.stored o v).1
  refine h.put hs hA (hgr _ _ _) (by simp) ?_
  unfold Rw.val at h1 ⊢
  rw [hA] at h1 ⊢
  have h2 := hown x.cells (j * 7) W _ h1
  rwa [setAll_flat Ev.cells 7 (by omega) Ev.len s.es j x hj] at h2
end
theorem infoEvs : (Try.prog.info? 55).map (fun i => (i.zero, i.size, i.bytes)) = some (some (.slice none 0 0), 1, 24) := by kernel_rfl
theorem mk_rows (n : Nat) (hn : n ≤ 1000) (w : World) : (Instr.makeSlice 22 (.int .i64 (n : Int)) (.int .i64 (n : Int))).run Try.prog w =
    .ok (.slice (some ⟨w.heap.size, 0, none⟩) n n) (w.alloc (.cells ((List.replicate n (⟨none, 0, []⟩ : Rw)).flatMap Rw.cells).toArray 55)) := by
  obtain ⟨i0, hi, hz0, hz1, hz2⟩ := info_parts infoEvs
  rw [run_make w 22 55 i0 _ Try.underlying22 hi hz0 .i64 .i64 _ _ (by omega) (Int.le_refl _) (by rw [hz2]; omega) (by omega)]
  rw [hz1, show ((n : Int)).toNat = n by omega, made_flat Rw.cells 1 (by omega) Rw.len ⟨none, 0, []⟩ (Value.slice none 0 0).cells rfl]
theorem LinOwn.start {W : World} {base gl n : Nat} (h : Blk W gl 55 ((List.replicate n (⟨none, 0, []⟩ : Rw)).flatMap Rw.cells).toArray) : LinOwn W base gl (List.replicate n ⟨none, 0, []⟩) := by
  have hg : ∀ (q : Nat) (s : Rw), (List.replicate n (⟨none, 0, []⟩ : Rw))[q]? = some s → s = ⟨none, 0, []⟩ := fun q s hs => by
    rw [List.getElem?_replicate] at hs
    split at hs
    · injection hs with hs; exact hs.symm
    · cases hs
  refine ⟨h, fun q s hs => ?_, fun p q s t g _ hs _ hgg => ?_⟩
  · rw [hg q s hs]; exact own_nilv _ _ _ _
  · rw [hg p s hs] at hgg; cases hgg
theorem PtMem.base {W : World} {b b' : Nat} {p : Pt} (h : PtMem W b p) (hb : b' ≤ b) : PtMem W b' p :=
  ⟨h.l, fun ad e => by have := h.lf ad e; omega, h.lc, h.k, fun ad e => by have := h.kf ad e; omega, fun r hr => ⟨(h.ks r hr).1, fun ad e => by have := (h.ks r hr).2 ad e; omega⟩, own_base h.a hb, h.sp⟩
theorem PtMem.farAway {W : World} {b g : Nat} {p : Pt} (h : PtMem W b p) (hb : g < b) : PtAway g p :=
  ⟨fun _ ad e => by have := h.lf ad e; omega, fun _ ad e => by have := h.kf ad e; omega, fun r hr _ ad e => by have := (h.ks r hr).2 ad e; omega, fun e => by have := (h.a.lt g e).1; omega⟩
end Go.Proofs.Ytcljdkjlfciacaa
