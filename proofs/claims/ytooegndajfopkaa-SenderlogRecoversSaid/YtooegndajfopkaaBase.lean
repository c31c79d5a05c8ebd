/- Memory that is read and made: plain lemmas over any program. No statement of the seat is proved here. -/
import Derived.WalkKit
import Derived.ProofKit
import Derived.Below
import Derived.LoopTactic
import Derived.Outline
import Derived.Lib.Hide
import Derived.Deep.Slices
import Derived.Deep.Draws
import Derived.Laws.OwnMore
import Derived.Deep.QuietTactic
import Derived.BigQuiet
import Derived.Maps.AppendAt
import Derived.OwnWalk
namespace Go.Proofs.Ytooegndajfopkaa
open Go.RowKit

theorem ret_int {a b : Int} (h : a = b) : Ending.returned (.int .i64 a) = .returned (.int .i64 b) := by rw [h]

/-- the worlds differ by new blocks alone -/
abbrev Ext (w w' : World) : Prop := Below w.heap.size w w'

theorem Ext.refl (w : World) : Ext w w := Below.refl _ _
theorem Ext.trans {a b c : World} (h : Ext a b) (k : Ext b c) : Ext a c := Below.trans h (k.mono h.size)
theorem Ext.drewN {a w : World} (h : Ext a w) (n : Nat) : Ext a (w.drewN n) := ⟨h.os, h.tape, h.output, h.size, h.block⟩
theorem Ext.allocs {a w : World} (h : Ext a w) (o : Obj) : Ext a (w.alloc o) := Below.alloc h h.size o
theorem Ext.drewn (w : World) (n : Nat) : Ext w (w.drewN n) := (Ext.refl w).drewN n

/-- A slice of n elements, each of size cells, that reads as the cells xs. -/
def Seg (w : World) (size : Nat) (A : Option Addr) (n : Nat) (xs : List Value) : Prop :=
  xs.length = n * size ∧ (0 < n → ∃ b off, A = some ⟨b, off, none⟩ ∧ b < w.heap.size ∧ ∀ j u, xs[j]? = some u → w.cell? ⟨b, off + j, none⟩ = some u)

section
variable {w w' : World} {size n : Nat} {A : Option Addr} {xs : List Value}
theorem Seg.nil : Seg w size A 0 [] := ⟨by simp, fun h => absurd h (by omega)⟩
theorem Seg.keep (h : Seg w size A n xs) (hz : w.heap.size ≤ w'.heap.size) (hk : 0 < n → ∀ ad, A = some ad → ad.block < w.heap.size → w'.heap[ad.block]? = w.heap[ad.block]?) : Seg w' size A n xs :=
  ⟨h.1, fun hn => by
    obtain ⟨b, off, rfl, hb, hc⟩ := h.2 hn
    exact ⟨b, off, rfl, by omega, fun j u hu => (World.cell?_of_block (w := w) (a := ⟨b, off + j, none⟩) (hk hn ⟨b, off, none⟩ rfl hb)).trans (hc j u hu)⟩⟩
theorem Seg.ext (h : Seg w size A n xs) (hb : Ext w w') : Seg w' size A n xs := h.keep hb.size fun _ _ _ hlt => hb.block _ hlt
theorem Seg.grown {row : Option Nat} (h : Seg w size A n xs) (hg : w.grownBy w' row) (hr : 0 < n → ∀ ad, A = some ad → some ad.block ≠ row) : Seg w' size A n xs :=
  h.keep hg.size fun hn ad ha hlt => hg.block _ hlt (hr hn ad ha)
theorem Seg.drewN (h : Seg w size A n xs) (k : Nat) : Seg (w.drewN k) size A n xs := h
theorem Seg.drew (h : Seg w size A n xs) : Seg w.drew size A n xs := h
theorem Seg.alloc (h : Seg w size A n xs) (o : Obj) : Seg (w.alloc o) size A n xs := h.ext ((Ext.refl w).allocs o)
theorem Seg.of_own {base : Nat} {e : TypeId} {c : Nat} (h : w.ownsRow base e size (.slice A n c) n xs) : Seg w size A n xs := by
  refine ⟨h.1, fun hn => ?_⟩
  obtain ⟨h1, h2⟩ := h
  rcases h2 with ⟨hv, h0⟩ | ⟨g, cap, cur, hv, _, hh, _, _, hs, ht⟩
  · omega
  · have hA : A = some ⟨g, 0, none⟩ := by injection hv
    subst hA
    refine ⟨g, 0, rfl, (Array.getElem?_eq_some_iff.1 hh).1, fun j u hu => ?_⟩
    have hl := (List.getElem?_eq_some_iff.1 hu).1
    rw [← ht, List.getElem?_take_of_lt (by omega)] at hu
    simp only [World.cell?, hh, Nat.zero_add]
    simpa using hu
end

/-- a slice value of whatever make, its cells known -/
theorem own_slice {w : World} {base : Nat} {e : TypeId} {size n : Nat} {v : Value} {xs : List Value} (h : w.ownsRow base e size v n xs) :
    ∃ A c, v = .slice A n c ∧ Seg w size A n xs ∧ n ≤ c ∧ c ≤ maxLen := by
  rcases h.2 with ⟨rfl, rfl⟩ | ⟨g, cap, cur, rfl, _, _, hc, hm, _⟩
  · exact ⟨none, 0, rfl, Seg.of_own h, Nat.le_refl _, by unfold maxLen; omega⟩
  · exact ⟨_, cap, rfl, Seg.of_own h, hc, hm⟩

theorem flat_get {α : Type} (f : α → List Value) (s : Nat) (h : ∀ a, (f a).length = s) (l : List α) (i j : Nat) (a : α) (hi : l[i]? = some a) (hj : j < s) :
    (l.flatMap f)[i * s + j]? = (f a)[j]? := by
  induction l generalizing i with
  | nil => simp at hi
  | cons x l ih =>
    cases i with
    | zero => simp at hi; subst hi; simp [List.getElem?_append_left (by rw [h]; exact hj : j < (f x).length)]
    | succ i =>
      simp at hi
      rw [List.flatMap_cons, List.getElem?_append_right (by rw [h, Nat.add_mul]; omega), ← ih i hi]
      congr 1
      rw [h, Nat.add_mul]; omega
theorem flat_len {α : Type} (f : α → List Value) (s : Nat) (h : ∀ a, (f a).length = s) (l : List α) : (l.flatMap f).length = l.length * s := by
  induction l with
  | nil => simp
  | cons x l ih => rw [List.flatMap_cons, List.length_append, ih, h, List.length_cons, Nat.add_mul]; omega

/-- a cell of an element -/
theorem Seg.at_ {α : Type} {f : α → List Value} {s : Nat} {w : World} {A : Option Addr} {l : List α} (h : Seg w s A l.length (l.flatMap f)) (hf : ∀ a, (f a).length = s) {i : Nat} (hi : i < l.length) :
    ∃ b off, A = some ⟨b, off, none⟩ ∧ b < w.heap.size ∧ ∀ j u, (f l[i])[j]? = some u → w.cell? ⟨b, off + (i * s + j), none⟩ = some u := by
  obtain ⟨b, off, hA, hb, hc⟩ := h.2 (by omega)
  refine ⟨b, off, hA, hb, fun j u hu => hc _ _ ?_⟩
  have hj : j < s := by have := (List.getElem?_eq_some_iff.1 hu).1; rw [hf] at this; exact this
  rw [flat_get f s hf l i j l[i] (List.getElem?_eq_getElem hi) hj, hu]

/-! ### arguments: the leaves of a struct's cells -/

/-- the type of the j-th cell of a type that is built of structs -/
def leafAt (P : Program) : Nat → TypeId → Nat → Option TypeId
  | 0, _, _ => none
  | n + 1, t, j =>
    match P.underlying t with
    | some (.struct fs) => (fs.toList.find? fun f => f.offset ≤ j && j < f.offset + P.cellsOf f.type).bind fun f => leafAt P n f.type (j - f.offset)
    | some (.array _ _) => none
    | some _ => if j = 0 then some t else none
    | none => none

section
variable {H : Type} {enc : TypeId × Value → H} {P : Program} {w : World} {base : Nat} {spare : Nat → Bool} {held : Bool}

theorem trod_one {t : TypeId} {fuel : Nat} {cs : List Value} {x : DataW H × List MemPlace} (h : DataW.trod enc P w base spare held fuel t cs = some x)
    (hs : ∀ fs, P.underlying t ≠ some (.struct fs)) (ha : ∀ n e, P.underlying t ≠ some (.array n e)) : ∃ v, cs = [v] := by
  cases fuel with
  | zero => simp [DataW.trod] at h
  | succ n =>
    unfold DataW.trod at h
    split at h
    case h_9 => rename_i hh; exact absurd hh (hs _)
    case h_10 => rename_i hh; exact absurd hh (ha _ _)
    all_goals first | exact ⟨_, rfl⟩ | cases h

theorem trod_leaf {u : TypeId} : ∀ (n : Nat) (t : TypeId) (j fuel : Nat) (cs : List Value) (x : DataW H × List MemPlace),
    DataW.trod enc P w base spare held fuel t cs = some x → leafAt P n t j = some u →
    ∃ v m y, cs[j]? = some v ∧ DataW.trod enc P w base spare held m u [v] = some y := by
  intro n
  induction n with
  | zero => intro t j fuel cs x _ h; simp [leafAt] at h
  | succ n ih =>
    intro t j fuel cs x hx h
    unfold leafAt at h
    split at h
    · rename_i fs hfs
      obtain ⟨ys, m, _, _, hlen, hys, hf⟩ := DataW.trod_struct hfs hx
      obtain ⟨f, hfind, hleaf⟩ := Option.bind_eq_some_iff.1 h
      have hp := List.find?_some hfind
      simp only [Bool.and_eq_true, decide_eq_true_eq] at hp
      obtain ⟨k, hk⟩ := List.mem_iff_getElem?.1 (List.mem_of_find?_eq_some hfind)
      have hk' : fs[k]? = some f := by rw [← Array.getElem?_toList]; exact hk
      have h1 := hf k f hk'
      have hkl : k < ys.length := by rw [hys]; exact (Array.getElem?_eq_some_iff.1 hk').1
      rw [List.getElem?_eq_getElem hkl] at h1
      obtain ⟨v, m', y, hv, hy⟩ := ih f.type (j - f.offset) m _ _ h1 hleaf
      refine ⟨v, m', y, ?_, hy⟩
      rw [List.getElem?_take] at hv
      split at hv
      · rw [List.getElem?_drop] at hv
        rw [← hv]; congr 1; omega
      · cases hv
    · cases h
    · rename_i d hd1 hd2 hd
      split at h
      · rename_i h0
        injection h with h
        subst h; subst h0
        obtain ⟨v, rfl⟩ := trod_one hx (fun fs e => hd1 fs (by rw [hd] at e; injection e)) (fun a b e => hd2 a b (by rw [hd] at e; injection e))
        exact ⟨v, fuel, x, rfl, hx⟩
      · cases h
    · cases h

/-- a slice's reading: its elements' cells -/
theorem open_seg {t e : TypeId} {fuel len cap : Nat} {a : Option Addr} {x : DataW H × List MemPlace} (s : Nat) (ht : P.underlying t = some (.slice e)) (hs : P.cellsOf e = s) (hs0 : 0 < s)
    (h : DataW.trod enc P w base spare held fuel t [.slice a len cap] = some x) :
    ∃ css : List (List Value), css.length = len ∧ Seg w s a len css.flatten ∧ len ≤ cap ∧ cap ≤ maxLen ∧
      (∀ cs ∈ css, cs.length = s ∧ ∃ n y, DataW.trod enc P w base spare held n e cs = some y) := by
  rcases Go.Deep.open_slice ht h with ⟨hcs, _⟩ | ⟨a', len', cap', m, n, D, Pl, hcs, hb, hl, hm, hmm, hx, hi⟩
  · simp at hcs
    obtain ⟨rfl, rfl, rfl⟩ := hcs
    exact ⟨[], rfl, Seg.nil, Nat.le_refl _, by unfold maxLen; omega, by simp⟩
  · simp at hcs
    obtain ⟨rfl, rfl, rfl⟩ := hcs
    have hlm : len ≤ m := by rw [hmm]; split <;> omega
    obtain ⟨C, hC⟩ := Go.Deep.choose_lt (α := List Value) (n := len) (p := fun i cs' => w.cells? base (a'.add (i * P.cellsOf e)) (P.cellsOf e) = some cs' ∧ DataW.trod enc P w base spare held n e cs' = some (D i, Pl i)) (fun i h => hi i (by omega))
    have hC2 : ∀ i, i < len → (C i).length = s ∧ ∀ j, j < s → w.cell? (a'.add (i * s + j)) = (C i)[j]? := by
      intro i hi
      obtain ⟨_, h1, h2⟩ := World.cells?_some (hC i hi).1
      rw [hs] at h1 h2
      refine ⟨h1, fun j hj => ?_⟩
      rw [← h2 j hj]
      congr 1
      unfold Addr.add
      by_cases h0 : i * s = 0 <;> by_cases hj0 : j = 0 <;> simp [h0, hj0, Nat.add_assoc]
    have hfl : ∀ k, k ≤ len → ((List.range k).map C).flatten.length = k * s := by
      intro k hk
      induction k with
      | zero => simp
      | succ k ih => rw [List.range_succ, List.map_append, List.flatten_append, List.length_append, ih (by omega)]; simp [(hC2 k (by omega)).1, Nat.add_mul]
    have hat : ∀ k, k ≤ len → ∀ j u, ((List.range k).map C).flatten[j]? = some u → w.cell? (a'.add j) = some u := by
      intro k hk
      induction k with
      | zero => simp
      | succ k ih =>
        intro j u hu
        rw [List.range_succ, List.map_append, List.flatten_append, List.getElem?_append] at hu
        split at hu
        · exact ih (by omega) j u hu
        · rename_i hnlt
          rw [hfl k (by omega)] at hu hnlt
          simp at hu
          have hj := (List.getElem?_eq_some_iff.1 hu).1
          rw [(hC2 k (by omega)).1] at hj
          have := (hC2 k (by omega)).2 (j - k * s) hj
          rw [hu] at this
          rw [← this]; congr 2; omega
    refine ⟨(List.range len).map C, by simp, ⟨hfl len (Nat.le_refl _), fun hn => ?_⟩, hl, hm, ?_⟩
    · have h0 := (hC2 0 hn).2 0 hs0
      have hl0 := (hC2 0 hn).1
      rw [List.getElem?_eq_getElem (by omega)] at h0
      simp only [Nat.zero_mul, Nat.zero_add] at h0
      have h00 : a'.add 0 = a' := by simp [Addr.add]
      rw [h00] at h0
      have hsp : a'.spot = none := by
        unfold World.cell? at h0
        split at h0
        · split at h0
          · cases h0
          · rename_i hh; simpa using hh
        · cases h0
      obtain ⟨bb, oo, ss⟩ := a'
      simp only at hsp
      subst hsp
      refine ⟨bb, oo, rfl, World.block_lt_of_cell? w ⟨bb, oo, none⟩ h0, fun j u hu => ?_⟩
      have := hat len (Nat.le_refl _) j u hu
      rw [← this]
      congr 1
      unfold Addr.add
      split <;> simp_all
    · intro cs hcs
      simp only [List.mem_map, List.mem_range] at hcs
      obtain ⟨i, hi', rfl⟩ := hcs
      exact ⟨(hC2 i hi').1, n, _, (hC i hi').2⟩

theorem lift_all {α : Type} (f : α → List Value) (css : List (List Value)) (h : ∀ cs ∈ css, ∃ a, cs = f a) : ∃ l : List α, css = l.map f := by
  induction css with
  | nil => exact ⟨[], rfl⟩
  | cons c css ih =>
    obtain ⟨a, rfl⟩ := h c (by simp)
    obtain ⟨l, rfl⟩ := ih (fun cs hcs => h cs (by simp [hcs]))
    exact ⟨a :: l, rfl⟩
theorem lift_all' {α : Type} (f : α → List Value) (p : α → Prop) (css : List (List Value)) (h : ∀ cs ∈ css, ∃ a, cs = f a ∧ p a) : ∃ l : List α, css = l.map f ∧ ∀ a ∈ l, p a := by
  induction css with
  | nil => exact ⟨[], rfl, by simp⟩
  | cons c css ih =>
    obtain ⟨a, rfl, ha⟩ := h c (by simp)
    obtain ⟨l, rfl, hl⟩ := ih (fun cs hcs => h cs (by simp [hcs]))
    exact ⟨a :: l, rfl, by simpa using ⟨ha, hl⟩⟩

/-- an int leaf -/
theorem leaf_int {t u : TypeId} {k : IntKind} (hu : P.underlying u = some (.int k)) {n j fuel : Nat} {cs : List Value} {x : DataW H × List MemPlace}
    (h : DataW.trod enc P w base spare held fuel t cs = some x) (hl : leafAt P n t j = some u) : ∃ z, cs[j]? = some (.int k z) ∧ (Lit.int k z).wf = true := by
  obtain ⟨v, m, y, hv, hy⟩ := trod_leaf n t j fuel cs x h hl
  obtain ⟨z, hz, _, hwf⟩ := DataW.trod_int hu hy
  simp at hz
  subst hz
  exact ⟨z, hv, hwf⟩
end

/-! ### one element more -/
/-- what append asks of the type of elements -/
def elemOf (P : Program) (e : TypeId) : Option (Nat × Nat × Nat) := (P.info? e).bind fun i => i.zero.map fun z => (z.cells.size, i.size, i.bytes)
theorem elemOf_some {P : Program} {e : TypeId} {s b : Nat} (h : elemOf P e = some (s, s, b)) : ∃ i z, P.info? e = some i ∧ i.zero = some z ∧ i.size = s ∧ i.bytes = b ∧ z.cells.size = s := by
  unfold elemOf at h
  obtain ⟨i, hi, h⟩ := Option.bind_eq_some_iff.1 h
  obtain ⟨z, hz, h⟩ := Option.map_eq_some_iff.1 h
  simp only [Prod.mk.injEq] at h
  exact ⟨i, z, hi, hz, h.2.1, h.2.2, h.1⟩

/-- 'append(v, x)': the element x lies in a new block of its own -/
theorem wpList_push {P : Program} {α : Type} (f : α → List Value) (s bytes : Nat) (hf : ∀ a, (f a).length = s) (h1 : ∀ a, ∀ u ∈ f a, u.oneCell' = true) (hs0 : 0 < s)
    {w : World} {ops : Array Oper} {rest : List Oper} {o : Oper} {a : Act} {Q : Exit → Act → World → Prop} (hgd : o.guard = none) (so xo : Operand) (t : TypeId)
    (ho : o.op = .call { callee := .builtin .append, args := #[so, xo], argTypes := #[t, t] })
    (base : Nat) (e : TypeId) (ht : P.underlying t = some (.slice e)) (hinfo : elemOf P e = some (s, s, bytes))
    (v : Value) (l : List α) (x : α) (hso : a.eval so = v) (hown : w.ownsRow base e s v l.length (l.flatMap f)) (hxo : a.eval xo = .slice (some ⟨w.heap.size, 0, none⟩) 1 1)
    (h63 : l.length + 1 ≤ maxLen) (hbytes : (l.length + 1) * bytes ≤ 140737488355328) (hbase : base ≤ w.heap.size)
    (h : ∀ v' w', w'.ownsRow base e s v' (l ++ [x]).length ((l ++ [x]).flatMap f) → w.grownBy w' v.ownBlock → wpList P ops Q rest (a.put o.dst v') w') :
    wpList P ops Q (o :: rest) a (w.alloc (.cells (f x).toArray e)) := by
  obtain ⟨i, z, hi, hz, hsz, hby, hzs⟩ := elemOf_some hinfo
  refine wpList_append_own _ hgd so xo t ho base e i z s bytes ht hi hz hsz hby hzs hs0 v l.length (l.flatMap f) hso (hown.alloc _) ⟨w.heap.size, 0, none⟩ 1 1 (f x) hxo
    (by rw [hf]; omega) ?_ (h1 x) h63 hbytes (by simp; omega) ?_
  · intro j u hu
    have hc : (w.alloc (.cells (f x).toArray e)).heap[w.heap.size]? = some (.cells (f x).toArray e (0, 0)) := heap_alloc_new w _
    have ha : (⟨w.heap.size, 0, none⟩ : Addr).add j = ⟨w.heap.size, j, none⟩ := by unfold Addr.add; split <;> simp_all
    rw [ha]
    simp only [World.cell?, hc]
    simpa using hu
  · intro v' w' h2 h3 _
    refine h v' w' ?_ ?_
    · rw [List.flatMap_append, List.length_append]
      simpa using h2
    · exact ⟨h3.os, h3.tape, h3.output, Nat.le_trans (by simp) h3.size, fun k hk hne => (h3.block k (by simp; omega) hne).trans (Below.heap_alloc w _ k hk)⟩

theorem own_nil (w : World) (base : Nat) (e : TypeId) (size : Nat) {α : Type} (f : α → List Value) : w.ownsRow base e size (.slice none 0 0) ([] : List α).length (([] : List α).flatMap f) := ⟨by simp, .inl ⟨rfl, rfl⟩⟩

end Go.Proofs.Ytooegndajfopkaa
