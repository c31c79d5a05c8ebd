/- Base, CodesC, EventsK, Base2, Base3, DetK, HasK, CompareK, RegInv, Compare3K, joined. No statement of the seat is proved here. -/
import Derived.WalkKit
import Derived.ProofKit
import Derived.Below
import Derived.LoopTactic
import Derived.Outline
import Derived.Lib.Hide
import Derived.Deep.Slices
import Derived.Deep.Draws
import Derived.Laws.OwnMore
import Derived.Deep.QuietTactic
import Derived.BigQuiet
import Derived.Maps.AppendAt
import Derived.OwnWalk
import Derived.Test.YtfnnoncdocghjaaProg
import Derived.OpenShut
import Derived.Deep.LoopGhost
import Derived.WalkSpells
import Derived.Deep.RegionHeld3
import Derived.Deep.DeepCutAuto
import Derived.Orders
import Derived.Tactics
import Derived.Deep.Upon
namespace Go.Proofs.Ytfnnoncdocghjaa
open Go.RowKit

theorem ret_int {a b : Int} (h : a = b) : Ending.returned (.int .i64 a) = .returned (.int .i64 b) := by rw [h]

/-- the worlds differ by new blocks alone -/
abbrev Ext (w w' : World) : Prop := Below w.heap.size w w'

theorem Ext.refl (w : World) : Ext w w := Below.refl _ _
theorem Ext.trans {a b c : World} (h : Ext a b) (k : Ext b c) : Ext a c := Below.trans h (k.mono h.size)
theorem Ext.drewN {a w : World} (h : Ext a w) (n : Nat) : Ext a (w.drewN n) := ⟨h.os, h.tape, h.output, h.size, h.block⟩
theorem Ext.allocs {a w : World} (h : Ext a w) (o : Obj) : Ext a (w.alloc o) := Below.alloc h h.size o
theorem Ext.drewn (w : World) (n : Nat) : Ext w (w.drewN n) := (Ext.refl w).drewN n

/-- A slice of n elements, each of size cells, that reads as the cells xs. -/
def Seg (w : World) (size : Nat) (A : Option Addr) (n : Nat) (xs : List Value) : Prop :=
  xs.length = n * size ∧ (0 < n → ∃ b off, A = some ⟨b, off, none⟩ ∧ b < w.heap.size ∧ ∀ j u, xs[j]? = some u → w.cell? ⟨b, off + j, none⟩ = some u)

section
variable {w w' : World} {size n : Nat} {A : Option Addr} {xs : List Value}
theorem Seg.nil : Seg w size A 0 [] := ⟨by simp, fun h => absurd h (by omega)⟩
theorem Seg.keep (h : Seg w size A n xs) (hz : w.heap.size ≤ w'.heap.size) (hk : 0 < n → ∀ ad, A = some ad → ad.block < w.heap.size → w'.heap[ad.block]? = w.heap[ad.block]?) : Seg w' size A n xs :=
  ⟨h.1, fun hn => by
    obtain ⟨b, off, rfl, hb, hc⟩ := h.2 hn
    exact ⟨b, off, rfl, by omega, fun j u hu => (World.cell?_of_block (w := w) (a := ⟨b, off + j, none⟩) (hk hn ⟨b, off, none⟩ rfl hb)).trans (hc j u hu)⟩⟩
theorem Seg.ext (h : Seg w size A n xs) (hb : Ext w w') : Seg w' size A n xs := h.keep hb.size fun _ _ _ hlt => hb.block _ hlt
theorem Seg.grown {row : Option Nat} (h : Seg w size A n xs) (hg : w.grownBy w' row) (hr : 0 < n → ∀ ad, A = some ad → some ad.block ≠ row) : Seg w' size A n xs :=
  h.keep hg.size fun hn ad ha hlt => hg.block _ hlt (hr hn ad ha)
theorem Seg.drewN (h : Seg w size A n xs) (k : Nat) : Seg (w.drewN k) size A n xs := h
theorem Seg.drew (h : Seg w size A n xs) : Seg w.drew size A n xs := h
theorem Seg.alloc (h : Seg w size A n xs) (o : Obj) : Seg (w.alloc o) size A n xs := h.ext ((Ext.refl w).allocs o)
theorem Seg.of_own {base : Nat} {e : TypeId} {c : Nat} (h : w.ownsRow base e size (.slice A n c) n xs) : Seg w size A n xs := by
  refine ⟨h.1, fun hn => ?_⟩
  obtain ⟨h1, h2⟩ := h
  rcases h2 with ⟨hv, h0⟩ | ⟨g, cap, cur, hv, _, hh, _, _, hs, ht⟩
  · omega
  · have hA : A = some ⟨g, 0, none⟩ := by injection hv
    subst hA
    refine ⟨g, 0, rfl, (Array.getElem?_eq_some_iff.1 hh).1, fun j u hu => ?_⟩
    have hl := (List.getElem?_eq_some_iff.1 hu).1
    rw [← ht, List.getElem?_take_of_lt (by omega)] at hu
    simp only [World.cell?, hh, Nat.zero_add]
    simpa using hu
end

/-- a slice value of whatever make, its cells known -/
theorem own_slice {w : World} {base : Nat} {e : TypeId} {size n : Nat} {v : Value} {xs : List Value} (h : w.ownsRow base e size v n xs) :
    ∃ A c, v = .slice A n c ∧ Seg w size A n xs ∧ n ≤ c ∧ c ≤ maxLen := by
  rcases h.2 with ⟨rfl, rfl⟩ | ⟨g, cap, cur, rfl, _, _, hc, hm, _⟩
  · exact ⟨none, 0, rfl, Seg.of_own h, Nat.le_refl _, by unfold maxLen; omega⟩
  · exact ⟨_, cap, rfl, Seg.of_own h, hc, hm⟩

theorem flat_get {α : Type} (f : α → List Value) (s : Nat) (h : ∀ a, (f a).length = s) (l : List α) (i j : Nat) (a : α) (hi : l[i]? = some a) (hj : j < s) :
    (l.flatMap f)[i * s + j]? = (f a)[j]? := by
  induction l generalizing i with
  | nil => simp at hi
  | cons x l ih =>
    cases i with
    | zero => simp at hi; subst hi; simp [List.getElem?_append_left (by rw [h]; exact hj : j < (f x).length)]
    | succ i =>
      simp at hi
      rw [List.flatMap_cons, List.getElem?_append_right (by rw [h, Nat.add_mul]; omega), ← ih i hi]
      congr 1
      rw [h, Nat.add_mul]; omega
theorem flat_len {α : Type} (f : α → List Value) (s : Nat) (h : ∀ a, (f a).length = s) (l : List α) : (l.flatMap f).length = l.length * s := by
  induction l with
  | nil => simp
  | cons x l ih => rw [List.flatMap_cons, List.length_append, ih, h, List.length_cons, Nat.add_mul]; omega

/-- a cell of an element -/
theorem Seg.at_ {α : Type} {f : α → List Value} {s : Nat} {w : World} {A : Option Addr} {l : List α} (h : Seg w s A l.length (l.flatMap f)) (hf : ∀ a, (f a).length = s) {i : Nat} (hi : i < l.length) :
    ∃ b off, A = some ⟨b, off, none⟩ ∧ b < w.heap.size ∧ ∀ j u, (f l[i])[j]? = some u → w.cell? ⟨b, off + (i * s + j), none⟩ = some u := by
  obtain ⟨b, off, hA, hb, hc⟩ := h.2 (by omega)
  refine ⟨b, off, hA, hb, fun j u hu => hc _ _ ?_⟩
  have hj : j < s := by have := (List.getElem?_eq_some_iff.1 hu).1; rw [hf] at this; exact this
  rw [flat_get f s hf l i j l[i] (List.getElem?_eq_getElem hi) hj, hu]

/-! ### arguments: the leaves of a struct's cells -/

/-- the type of the j-th cell of a type that is built of structs -/
def leafAt (P : Program) : Nat → TypeId → Nat → Option TypeId
  | 0, _, _ => none
  | n + 1, t, j =>
    match P.underlying t with
    | some (.struct fs) => (fs.toList.find? fun f => f.offset ≤ j && j < f.offset + P.cellsOf f.type).bind fun f => leafAt P n f.type (j - f.offset)
    | some (.array _ _) => none
    | some _ => if j = 0 then some t else none
    | none => none

section
variable {H : Type} {enc : TypeId × Value → H} {P : Program} {w : World} {base : Nat} {spare : Nat → Bool} {held : Bool}

theorem trod_one {t : TypeId} {fuel : Nat} {cs : List Value} {x : DataW H × List MemPlace} (h : DataW.trod enc P w base spare held fuel t cs = some x)
    (hs : ∀ fs, P.underlying t ≠ some (.struct fs)) (ha : ∀ n e, P.underlying t ≠ some (.array n e)) : ∃ v, cs = [v] := by
  cases fuel with
  | zero => simp [DataW.trod] at h
  | succ n =>
    unfold DataW.trod at h
    split at h
    case h_9 => rename_i hh; exact absurd hh (hs _)
    case h_10 => rename_i hh; exact absurd hh (ha _ _)
    all_goals first | exact ⟨_, rfl⟩ | cases h

theorem trod_leaf {u : TypeId} : ∀ (n : Nat) (t : TypeId) (j fuel : Nat) (cs : List Value) (x : DataW H × List MemPlace),
    DataW.trod enc P w base spare held fuel t cs = some x → leafAt P n t j = some u →
    ∃ v m y, cs[j]? = some v ∧ DataW.trod enc P w base spare held m u [v] = some y := by
  intro n
  induction n with
  | zero => intro t j fuel cs x _ h; simp [leafAt] at h
  | succ n ih =>
    intro t j fuel cs x hx h
    unfold leafAt at h
    split at h
    · rename_i fs hfs
      obtain ⟨ys, m, _, _, hlen, hys, hf⟩ := DataW.trod_struct hfs hx
      obtain ⟨f, hfind, hleaf⟩ := Option.bind_eq_some_iff.1 h
      have hp := List.find?_some hfind
      simp only [Bool.and_eq_true, decide_eq_true_eq] at hp
      obtain ⟨k, hk⟩ := List.mem_iff_getElem?.1 (List.mem_of_find?_eq_some hfind)
      have hk' : fs[k]? = some f := by rw [← Array.getElem?_toList]; exact hk
      have h1 := hf k f hk'
      have hkl : k < ys.length := by rw [hys]; exact (Array.getElem?_eq_some_iff.1 hk').1
      rw [List.getElem?_eq_getElem hkl] at h1
      obtain ⟨v, m', y, hv, hy⟩ := ih f.type (j - f.offset) m _ _ h1 hleaf
      refine ⟨v, m', y, ?_, hy⟩
      rw [List.getElem?_take] at hv
      split at hv
      · rw [List.getElem?_drop] at hv
        rw [← hv]; congr 1; omega
      · cases hv
    · cases h
    · rename_i d hd1 hd2 hd
      split at h
      · rename_i h0
        injection h with h
        subst h; subst h0
        obtain ⟨v, rfl⟩ := trod_one hx (fun fs e => hd1 fs (by rw [hd] at e; injection e)) (fun a b e => hd2 a b (by rw [hd] at e; injection e))
        exact ⟨v, fuel, x, rfl, hx⟩
      · cases h
    · cases h

/-- a slice's reading: its elements' cells -/
theorem open_seg {t e : TypeId} {fuel len cap : Nat} {a : Option Addr} {x : DataW H × List MemPlace} (s : Nat) (ht : P.underlying t = some (.slice e)) (hs : P.cellsOf e = s) (hs0 : 0 < s)
    (h : DataW.trod enc P w base spare held fuel t [.slice a len cap] = some x) :
    ∃ css : List (List Value), css.length = len ∧ Seg w s a len css.flatten ∧ len ≤ cap ∧ cap ≤ maxLen ∧
      (∀ cs ∈ css, cs.length = s ∧ ∃ n y, DataW.trod enc P w base spare held n e cs = some y) := by
  rcases Go.Deep.open_slice ht h with ⟨hcs, _⟩ | ⟨a', len', cap', m, n, D, Pl, hcs, hb, hl, hm, hmm, hx, hi⟩
  · simp at hcs
    obtain ⟨rfl, rfl, rfl⟩ := hcs
    exact ⟨[], rfl, Seg.nil, Nat.le_refl _, by unfold maxLen; omega, by simp⟩
  · simp at hcs
    obtain ⟨rfl, rfl, rfl⟩ := hcs
    have hlm : len ≤ m := by rw [hmm]; split <;> omega
    obtain ⟨C, hC⟩ := Go.Deep.choose_lt (α := List Value) (n := len) (p := fun i cs' => w.cells? base (a'.add (i * P.cellsOf e)) (P.cellsOf e) = some cs' ∧ DataW.trod enc P w base spare held n e cs' = some (D i, Pl i)) (fun i h => hi i (by omega))
    have hC2 : ∀ i, i < len → (C i).length = s ∧ ∀ j, j < s → w.cell? (a'.add (i * s + j)) = (C i)[j]? := by
      intro i hi
      obtain ⟨_, h1, h2⟩ := World.cells?_some (hC i hi).1
      rw [hs] at h1 h2
      refine ⟨h1, fun j hj => ?_⟩
      rw [← h2 j hj]
      congr 1
      unfold Addr.add
      by_cases h0 : i * s = 0 <;> by_cases hj0 : j = 0 <;> simp [h0, hj0, Nat.add_assoc]
    have hfl : ∀ k, k ≤ len → ((List.range k).map C).flatten.length = k * s := by
      intro k hk
      induction k with
      | zero => simp
      | succ k ih => rw [List.range_succ, List.map_append, List.flatten_append, List.length_append, ih (by omega)]; simp [(hC2 k (by omega)).1, Nat.add_mul]
    have hat : ∀ k, k ≤ len → ∀ j u, ((List.range k).map C).flatten[j]? = some u → w.cell? (a'.add j) = some u := by
      intro k hk
      induction k with
      | zero => simp
      | succ k ih =>
        intro j u hu
        rw [List.range_succ, List.map_append, List.flatten_append, List.getElem?_append] at hu
        split at hu
        · exact ih (by omega) j u hu
        · rename_i hnlt
          rw [hfl k (by omega)] at hu hnlt
          simp at hu
          have hj := (List.getElem?_eq_some_iff.1 hu).1
          rw [(hC2 k (by omega)).1] at hj
          have := (hC2 k (by omega)).2 (j - k * s) hj
          rw [hu] at this
          rw [← this]; congr 2; omega
    refine ⟨(List.range len).map C, by simp, ⟨hfl len (Nat.le_refl _), fun hn => ?_⟩, hl, hm, ?_⟩
    · have h0 := (hC2 0 hn).2 0 hs0
      have hl0 := (hC2 0 hn).1
      rw [List.getElem?_eq_getElem (by omega)] at h0
      simp only [Nat.zero_mul, Nat.zero_add] at h0
      have h00 : a'.add 0 = a' := by simp [Addr.add]
      rw [h00] at h0
      have hsp : a'.spot = none := by
        unfold World.cell? at h0
        split at h0
        · split at h0
          · cases h0
          · rename_i hh; simpa using hh
        · cases h0
      obtain ⟨bb, oo, ss⟩ := a'
      simp only at hsp
      subst hsp
      refine ⟨bb, oo, rfl, World.block_lt_of_cell? w ⟨bb, oo, none⟩ h0, fun j u hu => ?_⟩
      have := hat len (Nat.le_refl _) j u hu
      rw [← this]
      congr 1
      unfold Addr.add
      split <;> simp_all
    · intro cs hcs
      simp only [List.mem_map, List.mem_range] at hcs
      obtain ⟨i, hi', rfl⟩ := hcs
      exact ⟨(hC2 i hi').1, n, _, (hC i hi').2⟩

theorem lift_all {α : Type} (f : α → List Value) (css : List (List Value)) (h : ∀ cs ∈ css, ∃ a, cs = f a) : ∃ l : List α, css = l.map f := by
  induction css with
  | nil => exact ⟨[], rfl⟩
  | cons c css ih =>
    obtain ⟨a, rfl⟩ := h c (by simp)
    obtain ⟨l, rfl⟩ := ih (fun cs hcs => h cs (by simp [hcs]))
    exact ⟨a :: l, rfl⟩
theorem lift_all' {α : Type} (f : α → List Value) (p : α → Prop) (css : List (List Value)) (h : ∀ cs ∈ css, ∃ a, cs = f a ∧ p a) : ∃ l : List α, css = l.map f ∧ ∀ a ∈ l, p a := by
  induction css with
  | nil => exact ⟨[], rfl, by simp⟩
  | cons c css ih =>
    obtain ⟨a, rfl, ha⟩ := h c (by simp)
    obtain ⟨l, rfl, hl⟩ := ih (fun cs hcs => h cs (by simp [hcs]))
    exact ⟨a :: l, rfl, by simpa using ⟨ha, hl⟩⟩

/-- an int leaf -/
theorem leaf_int {t u : TypeId} {k : IntKind} (hu : P.underlying u = some (.int k)) {n j fuel : Nat} {cs : List Value} {x : DataW H × List MemPlace}
    (h : DataW.trod enc P w base spare held fuel t cs = some x) (hl : leafAt P n t j = some u) : ∃ z, cs[j]? = some (.int k z) ∧ (Lit.int k z).wf = true := by
  obtain ⟨v, m, y, hv, hy⟩ := trod_leaf n t j fuel cs x h hl
  obtain ⟨z, hz, _, hwf⟩ := DataW.trod_int hu hy
  simp at hz
  subst hz
  exact ⟨z, hv, hwf⟩
end

/-! ### one element more -/
/-- what append asks of the type of elements -/
def elemOf (P : Program) (e : TypeId) : Option (Nat × Nat × Nat) := (P.info? e).bind fun i => i.zero.map fun z => (z.cells.size, i.size, i.bytes)
theorem elemOf_some {P : Program} {e : TypeId} {s b : Nat} (h : elemOf P e = some (s, s, b)) : ∃ i z, P.info? e = some i ∧ i.zero = some z ∧ i.size = s ∧ i.bytes = b ∧ z.cells.size = s := by
  unfold elemOf at h
  obtain ⟨i, hi, h⟩ := Option.bind_eq_some_iff.1 h
  obtain ⟨z, hz, h⟩ := Option.map_eq_some_iff.1 h
  simp only [Prod.mk.injEq] at h
  exact ⟨i, z, hi, hz, h.2.1, h.2.2, h.1⟩

/-- 'append(v, x)': the element x lies in a new block of its own -/
theorem wpList_push {P : Program} {α : Type} (f : α → List Value) (s bytes : Nat) (hf : ∀ a, (f a).length = s) (h1 : ∀ a, ∀ u ∈ f a, u.oneCell' = true) (hs0 : 0 < s)
    {w : World} {ops : Array Oper} {rest : List Oper} {o : Oper} {a : Act} {Q : Exit → Act → World → Prop} (hgd : o.guard = none) (so xo : Operand) (t : TypeId)
    (ho : o.op = .call { callee := .builtin .append, args := #[so, xo], argTypes := #[t, t] })
    (base : Nat) (e : TypeId) (ht : P.underlying t = some (.slice e)) (hinfo : elemOf P e = some (s, s, bytes))
    (v : Value) (l : List α) (x : α) (hso : a.eval so = v) (hown : w.ownsRow base e s v l.length (l.flatMap f)) (hxo : a.eval xo = .slice (some ⟨w.heap.size, 0, none⟩) 1 1)
    (h63 : l.length + 1 ≤ maxLen) (hbytes : (l.length + 1) * bytes ≤ 140737488355328) (hbase : base ≤ w.heap.size)
    (h : ∀ v' w', w'.ownsRow base e s v' (l ++ [x]).length ((l ++ [x]).flatMap f) → w.grownBy w' v.ownBlock → wpList P ops Q rest (a.put o.dst v') w') :
    wpList P ops Q (o :: rest) a (w.alloc (.cells (f x).toArray e)) := by
  obtain ⟨i, z, hi, hz, hsz, hby, hzs⟩ := elemOf_some hinfo
  refine wpList_append_own _ hgd so xo t ho base e i z s bytes ht hi hz hsz hby hzs hs0 v l.length (l.flatMap f) hso (hown.alloc _) ⟨w.heap.size, 0, none⟩ 1 1 (f x) hxo
    (by rw [hf]; omega) ?_ (h1 x) h63 hbytes (by simp; omega) ?_
  · intro j u hu
    have hc : (w.alloc (.cells (f x).toArray e)).heap[w.heap.size]? = some (.cells (f x).toArray e (0, 0)) := heap_alloc_new w _
    have ha : (⟨w.heap.size, 0, none⟩ : Addr).add j = ⟨w.heap.size, j, none⟩ := by unfold Addr.add; split <;> simp_all
    rw [ha]
    simp only [World.cell?, hc]
    simpa using hu
  · intro v' w' h2 h3 _
    refine h v' w' ?_ ?_
    · rw [List.flatMap_append, List.length_append]
      simpa using h2
    · exact ⟨h3.os, h3.tape, h3.output, Nat.le_trans (by simp) h3.size, fun k hk hne => (h3.block k (by simp; omega) hne).trans (Below.heap_alloc w _ k hk)⟩

theorem own_nil (w : World) (base : Nat) (e : TypeId) (size : Nat) {α : Type} (f : α → List Value) : w.ownsRow base e size (.slice none 0 0) ([] : List α).length (([] : List α).flatMap f) := ⟨by simp, .inl ⟨rfl, rfl⟩⟩

end Go.Proofs.Ytfnnoncdocghjaa
namespace Go.Proofs.Ytfnnoncdocghjaa
open Go.RowKit
set_option linter.unusedVariables false

/-- block c holds a list of choices of which k are used up -/
def Codes (w : World) (c : Nat) (bs : List Int) (k : Nat) : Prop :=
  ∃ A cap, w.heap[c]? = some (.cells #[.slice A bs.length cap, .int .i64 k] 76 (0, 0)) ∧ Seg w 1 A bs.length (bs.map (Value.int .u8)) ∧
    (0 < bs.length → ∀ ad, A = some ad → ad.block < c) ∧ k ≤ bs.length ∧ bs.length ≤ 1000 ∧ ∀ b ∈ bs, 0 ≤ b ∧ b < 256

theorem Codes.grown {w w' : World} {c : Nat} {bs : List Int} {k : Nat} {row : Option Nat} (h : Codes w c bs k) (hg : w.grownBy w' row) (hr : ∀ r, row = some r → c < r) : Codes w' c bs k := by
  obtain ⟨A, cap, hb, hs, ha, hk, hn, hv⟩ := h
  have hlt := (Array.getElem?_eq_some_iff.1 hb).1
  refine ⟨A, cap, ?_, hs.grown hg fun h0 ad hA e => ?_, ha, hk, hn, hv⟩
  · rw [hg.block c hlt (fun e => by have := hr c e.symm; omega)]; exact hb
  · have := hr _ e.symm; have := ha h0 ad hA; omega
theorem Codes.ext {w w' : World} {c : Nat} {bs : List Int} {k : Nat} (h : Codes w c bs k) (hg : Ext w w') : Codes w' c bs k :=
  h.grown (row := none) ⟨hg.os, hg.tape, hg.output, hg.size, fun k hk _ => hg.block k hk⟩ (by simp)
theorem Codes.lt {w : World} {c : Nat} {bs : List Int} {k : Nat} (h : Codes w c bs k) : c < w.heap.size := by
  obtain ⟨A, cap, hb, _⟩ := h
  exact (Array.getElem?_eq_some_iff.1 hb).1
theorem Codes.le {w : World} {c : Nat} {bs : List Int} {k : Nat} (h : Codes w c bs k) : k ≤ bs.length := by
  obtain ⟨A, cap, _, _, _, hk, _⟩ := h
  exact hk

theorem cells2 {w : World} {c : Nat} {u v : Value} {t : TypeId} (h : w.heap[c]? = some (.cells #[u, v] t (0, 0))) :
    w.cell? ⟨c, 0, none⟩ = some u ∧ w.cell? ⟨c, 1, none⟩ = some v ∧ w.frozen? ⟨c, 1, none⟩ = false := by
  simp [World.cell?, World.frozen?, h]

set_option maxHeartbeats 400000 in
theorem left_any (c : Nat) (bs : List Int) (k : Nat) (w : World) (h : Codes w c bs k) :
    Calls Try.prog 59 #[.pointer (some ⟨c, 0, none⟩)] w fun e w' => e = .returned (.bool (decide (k < bs.length))) ∧ ∃ n, w' = w.drewN n := by
  obtain ⟨A, cap, hb, hs, ha, hk, hn, hv⟩ := h
  obtain ⟨h0, h1, _⟩ := cells2 hb
  clear hb hv ha
  go_enter Try.func59, Try.ntmps59
  go_wp2
  go_quiet (fail)
  go_wp2
  go_ret
  exact ⟨rfl, _, rfl⟩

/-- a step of the maker: block c alone was written, a choice was used if there was one -/
def Drew (c : Nat) (bs : List Int) (k : Nat) (w w' : World) : Prop :=
  w.grownBy w' (some c) ∧ ∃ k', Codes w' c bs k' ∧ k ≤ k' ∧ (k < bs.length → k < k')
theorem grownBy_trans {a b d : World} {row : Option Nat} (h : a.grownBy b row) (h' : b.grownBy d row) : a.grownBy d row :=
  ⟨h'.os.trans h.os, h'.tape.trans h.tape, h'.output.trans h.output, Nat.le_trans h.size h'.size, fun k hk hne => (h'.block k (Nat.lt_of_lt_of_le hk h.size) hne).trans (h.block k hk hne)⟩
theorem grownBy_ext {a b : World} {row : Option Nat} (h : Ext a b) : a.grownBy b row := ⟨h.os, h.tape, h.output, h.size, fun k hk _ => h.block k hk⟩

/-- a number out of a list of choices -/
def SomeInt (P : Int → Prop) (R : World → Prop) (e : Ending) (w' : World) : Prop := ∃ r : Int, e = .returned (.int .i64 r) ∧ P r ∧ R w'

theorem codes_set {w : World} {c : Nat} {A : Option Addr} {cap n k : Nat} (hb : w.heap[c]? = some (.cells #[.slice A n cap, .int .i64 k] 76 (0, 0))) (x : Value) (a b : Nat) :
    (((w.drewN a).setCell ⟨c, 1, none⟩ x).drewN b).heap[c]? = some (.cells #[.slice A n cap, x] 76 (0, 0)) := by
  simp [World.setCell, World.drewN, Array.getElem?_modify, hb]
theorem codes_grown (w : World) (c : Nat) (x : Value) (a b : Nat) : w.grownBy (((w.drewN a).setCell ⟨c, 1, none⟩ x).drewN b) (some c) := by
  refine ⟨rfl, rfl, rfl, by simp [World.setCell, World.drewN], fun k hk hne => ?_⟩
  have : k ≠ c := fun e => hne (by rw [e])
  exact Below.heap_setCell (w.drewN a) ⟨c, 1, none⟩ x k this

theorem wp_mod (x : Int) (n : Int) (h0 : 0 ≤ x) (hn : 0 < n) : 0 ≤ x % n ∧ x % n < n := ⟨Int.emod_nonneg _ (by omega), Int.emod_lt_of_pos _ hn⟩

set_option maxHeartbeats 800000 in
theorem next_any' (c : Nat) (bs : List Int) (k : Nat) (w : World) (h : Codes w c bs k) (n : Int) (h1n : 1 ≤ n) (hn2 : n ≤ 256) :
    Calls Try.prog 44 #[.pointer (some ⟨c, 0, none⟩), .int .i64 n] w (SomeInt (fun r => 0 ≤ r ∧ r < n) (Drew c bs k w)) := by
  have hC := Lib.hid h
  obtain ⟨A, cap, hb, hs, ha, hk, hn, hv⟩ := h
  by_cases hlt : k < bs.length
  · obtain ⟨h0, h1, hf⟩ := cells2 hb
    have hd : decide (k < bs.length) = true := by simp [hlt]
    have HD := Lib.hid hd
    obtain ⟨b, off, rfl, hbl, hc⟩ := hs.2 (by omega)
    have hbc : b < c := ha (by omega) _ rfl
    have hce := hc k (.int .u8 bs[k]) (by simp [hlt])
    have hvb := hv bs[k] (List.getElem_mem hlt)
    obtain ⟨hv1, hv2⟩ := hvb
    have HB := Lib.hid hb
    have HS := Lib.hid hs
    have HA := Lib.hid ha
    have HV := Lib.hid hv
    have HC := Lib.hid hc
    clear hb hv ha hs hc hd
    go_enter Try.func44, Try.ntmps44
    go_wp2_with fail
    refine (left_any c bs k _ hC.out).mono ?_
    rintro e w1 ⟨rfl, a, rfl⟩
    rw [HD.out]
    go_wp2
    go_quiet (fail)
    go_wp2
    go_ret
    exact ⟨_, rfl, wp_mod _ _ hv1 (by omega), codes_grown w c _ a nq, k + 1, ⟨_, cap, codes_set HB.out _ a nq,
      (HS.out.grown (codes_grown w c (.int .i64 ((k : Int) + 1)) a nq) (fun h0 ad hA e => by have := HA.out h0 ad hA; injection e; omega)), HA.out, hlt, hn, HV.out⟩, by omega, fun _ => by omega⟩
  · have hd : decide (k < bs.length) = false := by simp [hlt]
    have HD := Lib.hid hd
    clear hb hv ha hs hd
    go_enter Try.func44, Try.ntmps44
    go_wp2_with fail
    refine (left_any c bs k _ hC.out).mono ?_
    rintro e w1 ⟨rfl, a, rfl⟩
    rw [HD.out]
    go_wp2
    go_ret
    exact ⟨0, rfl, ⟨Int.le_refl 0, by omega⟩, grownBy_ext (Ext.drewn w a), k, hC.out.ext (Ext.drewn w a), Nat.le_refl _, fun h => absurd h hlt⟩

/-- Go's rest of x and n, made at least 0 -/
def modv (x n : Int) : Int := if x.tmod n < 0 then x.tmod n + n else x.tmod n
theorem tmod_bd (x n : Int) (h : 1 ≤ n) : -n < x.tmod n ∧ x.tmod n < n := by
  by_cases hx : 0 ≤ x
  · rw [Int.tmod_eq_emod_of_nonneg hx]
    have := Int.emod_nonneg x (show n ≠ 0 by omega)
    have := Int.emod_lt_of_pos x (show 0 < n by omega)
    omega
  · have e : x.tmod n = -((-x).tmod n) := by rw [Int.neg_tmod]; omega
    rw [e, Int.tmod_eq_emod_of_nonneg (show 0 ≤ -x by omega)]
    have := Int.emod_nonneg (-x) (show n ≠ 0 by omega)
    have := Int.emod_lt_of_pos (-x) (show 0 < n by omega)
    omega
theorem modv_bd (x n : Int) (h : 1 ≤ n) : 0 ≤ modv x n ∧ modv x n < n := by
  have := tmod_bd x n h
  unfold modv
  split <;> omega

theorem Seg.take {w : World} {A : Option Addr} {n m : Nat} {xs : List Value} (h : Seg w 1 A n xs) (hm : m ≤ n) : Seg w 1 A m (xs.take m) := by
  refine ⟨by rw [List.length_take, h.1]; omega, fun h0 => ?_⟩
  obtain ⟨b, off, hA, hb, hc⟩ := h.2 (by omega)
  refine ⟨b, off, hA, hb, fun j u hu => hc j u ?_⟩
  rw [List.getElem?_take] at hu
  split at hu
  · exact hu
  · cases hu

/-- the list of choices that a call of New makes -/
def NewPost (w : World) (bs : List Int) (e : Ending) (w' : World) : Prop := e = .returned (.pointer (some ⟨w.heap.size, 0, none⟩)) ∧ Codes w' w.heap.size bs 0 ∧ Ext w w'

theorem codes_new {w : World} {A : Option Addr} {bs : List Int} {cap : Nat} (hs : Seg w 1 A bs.length (bs.map (Value.int .u8))) (hn : bs.length ≤ 1000) (hv : ∀ b ∈ bs, 0 ≤ b ∧ b < 256) :
    Codes (w.alloc (.cells #[.slice A bs.length cap, .int .i64 0] 76)) w.heap.size bs 0 :=
  ⟨A, cap, heap_alloc_new w _, hs.alloc _, fun h0 ad hA => by obtain ⟨b, off, hA', hb, _⟩ := hs.2 h0; rw [hA'] at hA; injection hA with hA; subst hA; exact hb, Nat.zero_le _, hn, hv⟩

set_option maxHeartbeats 400000 in
theorem new_any (A : Option Addr) (cap : Nat) (bs : List Int) (most : Nat) (w : World) (hs : Seg w 1 A bs.length (bs.map (Value.int .u8))) (hcap : bs.length ≤ cap) (hcap2 : cap ≤ maxLen) (hm : most ≤ 1000) (hv : ∀ b ∈ bs, 0 ≤ b ∧ b < 256) :
    Calls Try.prog 15 #[.slice A bs.length cap, .int .i64 most] w (NewPost w (bs.take most)) := by
  unfold maxLen at hcap2
  have HN : Hid (∀ ws : World, ∀ cs : List Int, cs.length = (bs.take most).length → cs = bs.take most → Codes (w.alloc (.cells #[.slice A cs.length cap, .int .i64 0] 76)) w.heap.size cs 0) := by
    intro _ cs _ hcs
    subst hcs
    refine codes_new ?_ (by simp; omega) (fun b hb' => hv b (List.mem_of_mem_take hb'))
    have := hs.take (m := (bs.take most).length) (by simp; omega)
    rw [List.length_take] at this
    rw [List.length_take]
    rw [List.map_take, show (bs.map (Value.int .u8)).take most = (bs.map (Value.int .u8)).take (min most bs.length) from by rw [List.take_eq_take_iff]; simp]
    exact this
  have HV := Lib.hid hv
  have HS := Lib.hid hs
  clear hv hs
  by_cases hlt : most < bs.length
  · have HL : Hid ((bs.take most).length = most) := by unfold Hid; simp; omega
    go_enter Try.func15, Try.ntmps15
    go_wp2
    go_ret
    refine ⟨rfl, ?_, (Ext.refl w).allocs _⟩
    have := HN.out w (bs.take most) rfl rfl
    rw [HL.out] at this
    exact this
  · have HL : Hid (bs.take most = bs) := by unfold Hid; rw [List.take_of_length_le]; omega
    go_enter Try.func15, Try.ntmps15
    go_wp2
    go_ret
    refine ⟨rfl, ?_, (Ext.refl w).allocs _⟩
    have := HN.out w (bs.take most) rfl rfl
    rw [HL.out] at this ⊢
    exact this

theorem Drew.pre {c : Nat} {bs : List Int} {k : Nat} {w w0 w1 : World} (h : Ext w w0) (h1 : Drew c bs k w0 w1) : Drew c bs k w w1 :=
  ⟨grownBy_trans (grownBy_ext h) h1.1, h1.2⟩
theorem Drew.post {c : Nat} {bs : List Int} {k : Nat} {w w0 w1 : World} (h1 : Drew c bs k w w0) (h : Ext w0 w1) : Drew c bs k w w1 := by
  obtain ⟨hg, k', hk, hr⟩ := h1
  exact ⟨grownBy_trans hg (grownBy_ext h), k', hk.ext h, hr⟩
theorem Drew.alloc {c : Nat} {bs : List Int} {k : Nat} {w w0 : World} (h : Drew c bs k w w0) (o : Obj) : Drew c bs k w (w0.alloc o) := h.post ((Ext.refl _).allocs o)
theorem Drew.trans {c : Nat} {bs : List Int} {k k' : Nat} {w w0 w1 : World} (hg : w.grownBy w0 (some c)) (hk : k ≤ k') (hl : k < bs.length → k < k') (h : Drew c bs k' w0 w1) : Drew c bs k w w1 := by
  obtain ⟨hg', k2, hc, h1, h2⟩ := h
  exact ⟨grownBy_trans hg hg', k2, hc, by omega, fun h => by have := hl h; omega⟩

def greats : List Int := [9223372036854775807, -9223372036854775808, 2147483648, -1, 63, 64, -65, 127, 128, 1099511627776]
def InI64 (r : Int) : Prop := -9223372036854775808 ≤ r ∧ r ≤ 9223372036854775807
theorem greats_at (j : Nat) : InI64 (greats.getD j 0) := by
  rcases j with _ | _ | _ | _ | _ | _ | _ | _ | _ | _ | j <;> (unfold InI64; simp [greats]; try omega)
theorem greats_cell (w : World) (b : Nat) (h : w.heap[b]? = some (.cells (greats.map (Value.int .i64)).toArray 3 (0, 0))) (j : Nat) (hj : j < 10) : w.cell? ⟨b, j, none⟩ = some (.int .i64 (greats.getD j 0)) := by
  simp only [World.cell?, h]
  have : j < greats.length := hj
  simp [List.getD, List.getElem?_eq_getElem this]

theorem grown_new {w w1 : World} {o : Obj} {c : Nat} (hg : (w.alloc o).grownBy w1 (some c)) (hc : c < w.heap.size) : w1.heap[w.heap.size]? = some o := by
  rw [hg.block w.heap.size (by simp) (by intro e; injection e; omega)]
  exact heap_alloc_new w o

set_option maxHeartbeats 800000 in
theorem int_any (c : Nat) (bs : List Int) (k : Nat) (w : World) (h : Codes w c bs k) :
    Calls Try.prog 65 #[.pointer (some ⟨c, 0, none⟩)] w (SomeInt InI64 (Drew c bs k w)) := by
  have hC := Lib.hid h
  have hcl := h.lt
  clear h
  go_enter Try.func65, Try.ntmps65
  go_wp2_with fail
  refine (next_any' c bs k _ (hC.out.ext ((Ext.refl w).allocs _)) 6 (by omega) (by omega)).mono ?_
  rintro e w1 ⟨r, rfl, ⟨hr0, hr1⟩, hg, k1, hC1, hk1, hl1⟩
  have hE := (Ext.refl w).allocs (.cells (greats.map (Value.int .i64)).toArray 3)
  have hg0 : w.grownBy w1 (some c) := grownBy_trans (grownBy_ext hE) hg
  have hB := grown_new hg hcl
  have hsz : w.heap.size < w1.heap.size := by have := hg.size; simp at this; omega
  have HG0 := Lib.hid hg0
  have HC1 := Lib.hid hC1
  have HB := Lib.hid hB
  have HL1 := Lib.hid hl1
  clear hg hg0 hC1 hB hE hl1
  by_cases h5 : r = 5
  · have h5' : (r == 5) = true := by simp [h5]
    clear h5
    go_wp2_with fail
    refine (next_any' c bs k1 w1 HC1.out 10 (by omega) (by omega)).mono ?_
    rintro e w2 ⟨r2, rfl, ⟨hr20, hr21⟩, hg2, k2, hC2, hk2, hl2⟩
    have hcell := greats_cell w2 w.heap.size ((hg2.block _ hsz (by intro e; injection e; omega)).trans HB.out) r2.toNat (by omega)
    have HD := Lib.hid (Drew.trans HG0.out hk1 HL1.out ⟨hg2, k2, hC2, hk2, hl2⟩)
    have hgr := greats_at r2.toNat
    generalize greats.getD r2.toNat 0 = z at *
    clear hg2 hC2 hl2
    go_wp2_with fail
    go_ret
    exact ⟨_, rfl, hgr, HD.out⟩
  · have h5' : (r == 5) = false := by simp [h5]
    clear h5
    go_wp2_with fail
    refine (next_any' c bs k1 w1 HC1.out 12 (by omega) (by omega)).mono ?_
    rintro e w2 ⟨r2, rfl, ⟨hr20, hr21⟩, hg2, k2, hC2, hk2, hl2⟩
    have HD := Lib.hid (Drew.trans HG0.out hk1 HL1.out ⟨hg2, k2, hC2, hk2, hl2⟩)
    clear hg2 hC2 hl2
    go_wp2_with fail
    go_ret
    exact ⟨_, rfl, ⟨by omega, by omega⟩, HD.out⟩

/-! ### the state of a maker between two choices -/
theorem Drew.start {c : Nat} {bs : List Int} {k : Nat} {w : World} (h : Codes w c bs k) (w' : World) (he : Ext w w') : w.grownBy w' (some c) ∧ Codes w' c bs k := ⟨grownBy_ext he, h.ext he⟩
theorem Drew.set {c : Nat} {bs : List Int} {k : Nat} {w w' : World} (h : Drew c bs k w w') {b o : Nat} (hw : w.heap.size ≤ b) (hc : c < w.heap.size) (v : Value) : Drew c bs k w (w'.setCell ⟨b, o, none⟩ v) := by
  obtain ⟨hg, k', hk, hr⟩ := h
  have hg1 : w'.grownBy (w'.setCell ⟨b, o, none⟩ v) (some b) := ⟨rfl, rfl, rfl, by simp [World.setCell], fun j _ hne => Below.heap_setCell _ _ _ _ (fun e => hne (by rw [e]))⟩
  refine ⟨⟨rfl.trans hg.os, rfl.trans hg.tape, rfl.trans hg.output, Nat.le_trans hg.size hg1.size, fun j hj hne => ?_⟩, k', hk.grown hg1 (fun r hr => by injection hr; omega), hr⟩
  rw [← hg.block j hj hne]
  exact hg1.block j (Nat.lt_of_lt_of_le hj hg.size) (fun e => by injection e; omega)

/-- a row of the call's own was written or grew -/
theorem Drew.grown {c : Nat} {bs : List Int} {k : Nat} {w w' w2 : World} {row : Option Nat} (h : Drew c bs k w w') (hg1 : w'.grownBy w2 row) (hr : ∀ r, row = some r → w.heap.size ≤ r) (hc : c < w.heap.size) : Drew c bs k w w2 := by
  obtain ⟨hg, k', hk, hk2⟩ := h
  refine ⟨⟨hg1.os.trans hg.os, hg1.tape.trans hg.tape, hg1.output.trans hg.output, Nat.le_trans hg.size hg1.size, fun j hj hne => ?_⟩, k', hk.grown hg1 (fun r h => by have := hr r h; omega), hk2⟩
  rw [← hg.block j hj hne]
  exact hg1.block j (Nat.lt_of_lt_of_le hj hg.size) (fun e => by have := hr j e.symm; omega)
theorem Drew.own {c : Nat} {bs : List Int} {k : Nat} {w w' w2 : World} {e : TypeId} {size n : Nat} {v : Value} {xs : List Value} (h : Drew c bs k w w') (ho : w'.ownsRow w.heap.size e size v n xs) (hg1 : w'.grownBy w2 v.ownBlock) (hc : c < w.heap.size) : Drew c bs k w w2 :=
  h.grown hg1 (fun r hr => (ho.lt r hr).1) hc

theorem next_on {c : Nat} {bs : List Int} {k : Nat} {w w1 w1' : World} (h : Drew c bs k w w1) (he : Ext w1 w1') (n : Int) (h1n : 1 ≤ n) (hn2 : n ≤ 256) :
    Calls Try.prog 44 #[.pointer (some ⟨c, 0, none⟩), .int .i64 n] w1' (SomeInt (fun r => 0 ≤ r ∧ r < n) (fun w2 => Drew c bs k w w2 ∧ w1'.grownBy w2 (some c))) := by
  obtain ⟨hg, k1, hC, hk, hl⟩ := h.post he
  refine (next_any' c bs k1 w1' hC n h1n hn2).mono ?_
  rintro e w2 ⟨r, rfl, hr, hD⟩
  exact ⟨r, rfl, hr, Drew.trans hg hk hl hD, hD.1⟩
theorem int_on {c : Nat} {bs : List Int} {k : Nat} {w w1 w1' : World} (h : Drew c bs k w w1) (he : Ext w1 w1') :
    Calls Try.prog 65 #[.pointer (some ⟨c, 0, none⟩)] w1' (SomeInt InI64 (fun w2 => Drew c bs k w w2 ∧ w1'.grownBy w2 (some c))) := by
  obtain ⟨hg, k1, hC, hk, hl⟩ := h.post he
  refine (int_any c bs k1 w1' hC).mono ?_
  rintro e w2 ⟨r, rfl, hr, hD⟩
  exact ⟨r, rfl, hr, Drew.trans hg hk hl hD, hD.1⟩

/-- a block that is known whole -/
def Blk (w : World) (g : Nat) (t : TypeId) (cs : Array Value) : Prop := w.heap[g]? = some (.cells cs t (0, 0))
theorem Blk.lt {w : World} {g : Nat} {t : TypeId} {cs : Array Value} (h : Blk w g t cs) : g < w.heap.size := (Array.getElem?_eq_some_iff.1 h).1
theorem Blk.cell {w : World} {g : Nat} {t : TypeId} {cs : Array Value} (h : Blk w g t cs) (i : Nat) : w.cell? ⟨g, i, none⟩ = cs[i]? := by
  unfold Blk at h; simp [World.cell?, h]
theorem Blk.frozen {w : World} {g : Nat} {t : TypeId} {cs : Array Value} (h : Blk w g t cs) (i : Nat) : w.frozen? ⟨g, i, none⟩ = false := by
  unfold Blk at h; simp [World.frozen?, h]
theorem Blk.new (w : World) (t : TypeId) (cs : Array Value) : Blk (w.alloc (.cells cs t)) w.heap.size t cs := heap_alloc_new w _
theorem Blk.grown {w w' : World} {g c : Nat} {t : TypeId} {cs : Array Value} (h : Blk w g t cs) (hg : w.grownBy w' (some c)) (hne : c < g) : Blk w' g t cs :=
  (hg.block g h.lt (fun e => by injection e; omega)).trans h
theorem Blk.ext {w w' : World} {g : Nat} {t : TypeId} {cs : Array Value} (h : Blk w g t cs) (hg : Ext w w') : Blk w' g t cs := (hg.block g h.lt).trans h

/-! ### arguments -/
section
variable {H : Type} {enc : TypeId × Value → H} {w : World} {base : Nat} {spare : Nat → Bool} {held : Bool}
theorem u8_bd {z : Int} (h : (Lit.int .u8 z).wf = true) : 0 ≤ z ∧ z < 256 := by
  have := Go.bounds_u8 h
  omega
theorem open_bytes {a : Option Addr} {len cap : Nat} {d : DataW H} {p : List MemPlace} (h : DataW.Trod enc Try.prog w base spare held 35 (.slice a len cap) d p) :
    ∃ bs : List Int, len = bs.length ∧ Seg w 1 a bs.length (bs.map (Value.int .u8)) ∧ len ≤ cap ∧ cap ≤ maxLen ∧ ∀ b ∈ bs, 0 ≤ b ∧ b < 256 := by
  obtain ⟨fuel, hf⟩ := h
  obtain ⟨css, hl, hs, h1, h2, hc⟩ := open_seg 1 Try.underlying35 (by kernel_rfl) (by omega) (show DataW.trod enc Try.prog w base spare held fuel 35 [.slice a len cap] = some (d, p) from hf)
  obtain ⟨bs, rfl, hb⟩ := lift_all' (fun z : Int => [Value.int .u8 z]) (fun z => 0 ≤ z ∧ z < 256) css (fun cs hcs => by
    obtain ⟨_, n, y, hy⟩ := hc cs hcs
    obtain ⟨z, rfl, _, hz⟩ := DataW.trod_int Try.underlying5 hy
    exact ⟨z, rfl, u8_bd hz⟩)
  rw [List.length_map] at hl
  subst hl
  refine ⟨bs, rfl, ?_, h1, h2, hb⟩
  have e : (bs.map fun z : Int => [Value.int .u8 z]).flatten = bs.map (Value.int .u8) := by
    clear hs hb h1 hf hc
    induction bs with
    | nil => rfl
    | cons b bs ih => simpa using ih
  rw [e] at hs
  exact hs
end
end Go.Proofs.Ytfnnoncdocghjaa
namespace Go.Proofs.Ytfnnoncdocghjaa
open Go.RowKit
set_option linter.unusedVariables false
/-- An event's seven numbers. -/
structure Ev where
  kind : Int
  inc : Int
  frm : Int
  sinc : Int
  sidx : Int
  ord : Int
  val : Int
def Ev.cells (e : Ev) : List Value := [.int .i64 e.kind, .int .i64 e.inc, .int .i64 e.frm, .int .i64 e.sinc, .int .i64 e.sidx, .int .i64 e.ord, .int .i64 e.val]
abbrev EvSeg (w : World) (A : Option Addr) (es : List Ev) : Prop := Seg w 7 A es.length (es.flatMap Ev.cells)
theorem Ev.len (e : Ev) : e.cells.length = 7 := rfl
/-- each number is one of 64 bits -/
def Ev.ok (e : Ev) : Prop := InI64 e.kind ∧ InI64 e.inc ∧ InI64 e.frm ∧ InI64 e.sinc ∧ InI64 e.sidx ∧ InI64 e.ord ∧ InI64 e.val
/-- what a made event fulfils -/
def Ev.made (e : Ev) : Prop := (1 ≤ e.kind ∧ e.kind ≤ 3) ∧ e.ok
theorem inI (r : Int) (h0 : 0 ≤ r) (h1 : r < 1000) : InI64 r := ⟨by omega, by omega⟩

def SomeEv (R : World → Prop) (e : Ending) (w' : World) : Prop :=
  ∃ ev : Ev, e = .returned (.agg #[.int .i64 ev.kind, .int .i64 ev.inc, .int .i64 ev.frm, .int .i64 ev.sinc, .int .i64 ev.sidx, .int .i64 ev.ord, .int .i64 ev.val]) ∧ ev.made ∧ R w'

theorem blk7 {w : World} {g : Nat} {t : TypeId} {v0 v1 v2 v3 v4 v5 v6 : Value} (h : Blk w g t #[v0, v1, v2, v3, v4, v5, v6]) :
    (w.cell? ⟨g, 0, none⟩ = some v0 ∧ w.cell? ⟨g, 1, none⟩ = some v1 ∧ w.cell? ⟨g, 2, none⟩ = some v2 ∧ w.cell? ⟨g, 3, none⟩ = some v3 ∧ w.cell? ⟨g, 4, none⟩ = some v4 ∧ w.cell? ⟨g, 5, none⟩ = some v5 ∧ w.cell? ⟨g, 6, none⟩ = some v6) ∧
    (w.frozen? ⟨g, 0, none⟩ = false ∧ w.frozen? ⟨g, 1, none⟩ = false ∧ w.frozen? ⟨g, 2, none⟩ = false ∧ w.frozen? ⟨g, 3, none⟩ = false ∧ w.frozen? ⟨g, 4, none⟩ = false ∧ w.frozen? ⟨g, 5, none⟩ = false ∧ w.frozen? ⟨g, 6, none⟩ = false) := by
  simp [h.cell, h.frozen]

theorem Ev.one (e : Ev) : ∀ u ∈ e.cells, u.oneCell' = true := by simp [Ev.cells, Value.oneCell']

theorem inI_of {z : Int} (h : (Lit.int .i64 z).wf = true) : InI64 z := by
  have := Go.bounds_i64 h
  exact ⟨by omega, by omega⟩
theorem open_evs {H : Type} {enc : TypeId × Value → H} {w : World} {base : Nat} {spare : Nat → Bool} {held : Bool} {a : Option Addr} {len cap : Nat} {d : DataW H} {p : List MemPlace} (h : DataW.Trod enc Try.prog w base spare held 65 (.slice a len cap) d p) :
    ∃ es : List Ev, len = es.length ∧ EvSeg w a es ∧ len ≤ cap ∧ cap ≤ maxLen ∧ ∀ e ∈ es, e.ok := by
  obtain ⟨fuel, hf⟩ := h
  obtain ⟨css, hl, hs, h1, h2, hc⟩ := open_seg 7 Try.underlying65 (by kernel_rfl) (by omega) (show DataW.trod enc Try.prog w base spare held fuel 65 [.slice a len cap] = some (d, p) from hf)
  obtain ⟨es, rfl, hok⟩ := lift_all' Ev.cells Ev.ok css (fun cs hcs => by
    obtain ⟨hl7, n, y, hy⟩ := hc cs hcs
    obtain ⟨z0, e0, g0⟩ := leaf_int (n := 3) (j := 0) Try.underlying3 hy (by kernel_rfl)
    obtain ⟨z1, e1, g1⟩ := leaf_int (n := 3) (j := 1) Try.underlying3 hy (by kernel_rfl)
    obtain ⟨z2, e2, g2⟩ := leaf_int (n := 3) (j := 2) Try.underlying3 hy (by kernel_rfl)
    obtain ⟨z3, e3, g3⟩ := leaf_int (n := 3) (j := 3) Try.underlying3 hy (by kernel_rfl)
    obtain ⟨z4, e4, g4⟩ := leaf_int (n := 3) (j := 4) Try.underlying3 hy (by kernel_rfl)
    obtain ⟨z5, e5, g5⟩ := leaf_int (n := 3) (j := 5) Try.underlying3 hy (by kernel_rfl)
    obtain ⟨z6, e6, g6⟩ := leaf_int (n := 3) (j := 6) Try.underlying3 hy (by kernel_rfl)
    refine ⟨⟨z0, z1, z2, z3, z4, z5, z6⟩, List.ext_getElem? fun j => ?_, inI_of g0, inI_of g1, inI_of g2, inI_of g3, inI_of g4, inI_of g5, inI_of g6⟩
    rcases j with _ | _ | _ | _ | _ | _ | _ | j
    · exact e0
    · exact e1
    · exact e2
    · exact e3
    · exact e4
    · exact e5
    · exact e6
    · rw [List.getElem?_eq_none (by omega), List.getElem?_eq_none (by simp [Ev.cells])])
  rw [List.length_map] at hl
  subst hl
  refine ⟨es, rfl, ?_, h1, h2, hok⟩
  show Seg w 7 a es.length (es.flatMap Ev.cells)
  rw [List.flatMap_def]
  exact hs

theorem open_events {H : Type} {enc : TypeId × Value → H} {w : World} {base : Nat} {spare : Nat → Bool} {held : Bool} {a : Option Addr} {len cap : Nat} {d : DataW H} {p : List MemPlace} (h : DataW.Trod enc Try.prog w base spare held 65 (.slice a len cap) d p) :
    ∃ es : List Ev, len = es.length ∧ EvSeg w a es ∧ len ≤ cap ∧ cap ≤ maxLen := by
  obtain ⟨fuel, hf⟩ := h
  obtain ⟨css, hl, hs, h1, h2, hc⟩ := open_seg 7 Try.underlying65 (by kernel_rfl) (by omega) (show DataW.trod enc Try.prog w base spare held fuel 65 [.slice a len cap] = some (d, p) from hf)
  obtain ⟨es, rfl⟩ := lift_all Ev.cells css (fun cs hcs => by
    obtain ⟨hl7, n, y, hy⟩ := hc cs hcs
    obtain ⟨z0, e0, _⟩ := leaf_int (n := 3) (j := 0) Try.underlying3 hy (by kernel_rfl)
    obtain ⟨z1, e1, _⟩ := leaf_int (n := 3) (j := 1) Try.underlying3 hy (by kernel_rfl)
    obtain ⟨z2, e2, _⟩ := leaf_int (n := 3) (j := 2) Try.underlying3 hy (by kernel_rfl)
    obtain ⟨z3, e3, _⟩ := leaf_int (n := 3) (j := 3) Try.underlying3 hy (by kernel_rfl)
    obtain ⟨z4, e4, _⟩ := leaf_int (n := 3) (j := 4) Try.underlying3 hy (by kernel_rfl)
    obtain ⟨z5, e5, _⟩ := leaf_int (n := 3) (j := 5) Try.underlying3 hy (by kernel_rfl)
    obtain ⟨z6, e6, _⟩ := leaf_int (n := 3) (j := 6) Try.underlying3 hy (by kernel_rfl)
    refine ⟨⟨z0, z1, z2, z3, z4, z5, z6⟩, List.ext_getElem? fun j => ?_⟩
    rcases j with _ | _ | _ | _ | _ | _ | _ | j
    · exact e0
    · exact e1
    · exact e2
    · exact e3
    · exact e4
    · exact e5
    · exact e6
    · rw [List.getElem?_eq_none (by omega), List.getElem?_eq_none (by simp [Ev.cells])])
  rw [List.length_map] at hl
  subst hl
  refine ⟨es, rfl, ?_, h1, h2⟩
  show Seg w 7 a es.length (es.flatMap Ev.cells)
  rw [List.flatMap_def]
  exact hs
end Go.Proofs.Ytfnnoncdocghjaa
namespace Go.Proofs.Ytfnnoncdocghjaa
open Go.RowKit
set_option linter.unusedVariables false

/-- 'append(v, xs...)': the source is nil, empty or not -/
theorem wpList_append_seg {P : Program} {w : World} {ops : Array Oper} {rest : List Oper} {o : Oper} {a : Act} {Q : Exit → Act → World → Prop} (hgd : o.guard = none) (so xo : Operand) (t : TypeId)
    (ho : o.op = .call { callee := .builtin .append, args := #[so, xo], argTypes := #[t, t] })
    (base : Nat) (e : TypeId) (s bytes : Nat) (hs0 : 0 < s) (ht : P.underlying t = some (.slice e)) (hinfo : elemOf P e = some (s, s, bytes))
    (v : Value) (n : Nat) (xs : List Value) (hso : a.eval so = v) (hown : w.ownsRow base e s v n xs)
    (A : Option Addr) (m c : Nat) (news : List Value) (hxo : a.eval xo = .slice A m c) (hseg : Seg w s A m news) (h1 : ∀ u ∈ news, u.oneCell' = true)
    (h63 : n + m ≤ maxLen) (hbytes : (n + m) * bytes ≤ 140737488355328) (hbase : base ≤ w.heap.size)
    (h : ∀ v' w', w'.ownsRow base e s v' (n + m) (xs ++ news) → w.grownBy w' v.ownBlock → wpList P ops Q rest (a.put o.dst v') w') :
    wpList P ops Q (o :: rest) a w := by
  obtain ⟨i, z, hi, hz, hsz, hby, hzs⟩ := elemOf_some hinfo
  rcases A with _ | ad
  · have hm : m = 0 := by
      rcases Nat.eq_zero_or_pos m with h0 | h0
      · exact h0
      · obtain ⟨b, off, h, _⟩ := hseg.2 h0
        cases h
    subst hm
    have hn : news = [] := List.eq_nil_of_length_eq_zero (by have := hseg.1; omega)
    subst hn
    have hrun : (Builtin.append_ #[t, t] o.type #[v, .slice none 0 c]).run P w = .ok v w := by
      rcases hown.2 with ⟨rfl, rfl⟩ | ⟨g, cap, cur, rfl, _, _, hnc, _⟩
      · simp [Builtin.append_, run_underlying ht, sizeOf, typeInfo, hi, Builtin.lenOf, Builtin.firstCells]
      · simp [Builtin.append_, run_underlying ht, sizeOf, typeInfo, hi, Builtin.lenOf, Builtin.firstCells, hnc, storeCells]
    refine wpList_plain hgd fun K hK => ?_
    unfold Oper.wp execOp
    simp only [ho, resolve, invoke, builtin, Sem.run_bind, Sem.run_pure, Result.andThen_ok, List.map_toArray, List.map_cons, List.map_nil, hso, hxo, hrun]
    exact hK _ _ (h v w (by simpa using hown) (World.grownBy.refl w _))
  · refine wpList_append_own _ hgd so xo t ho base e i z s bytes ht hi hz hsz hby hzs hs0 v n xs hso hown ad m c news hxo hseg.1 ?_ h1 h63 hbytes hbase ?_
    · intro j u hu
      have hm : 0 < m := by
        rcases Nat.eq_zero_or_pos m with h0 | h0
        · have := hseg.1
          have hj := (List.getElem?_eq_some_iff.1 hu).1
          subst h0; omega
        · exact h0
      obtain ⟨b, off, hA, _, hc⟩ := hseg.2 hm
      injection hA with hA
      subst hA
      have ha : (⟨b, off, none⟩ : Addr).add j = ⟨b, off + j, none⟩ := by unfold Addr.add; split <;> simp_all
      rw [ha]
      exact hc j u hu
    · intro v' w' h2 h3 _
      exact h v' w' h2 h3

/-! ### stores into a row of the call's own -/
def setAll : List Value → Nat → List Value → List Value
  | xs, _, [] => xs
  | xs, o, v :: vs => setAll (xs.set o v) (o + 1) vs
theorem setAll_get (vs : List Value) : ∀ (xs : List Value) (o q : Nat), (setAll xs o vs)[q]? = if o ≤ q ∧ q < o + vs.length ∧ q < xs.length then vs[q - o]? else xs[q]? := by
  induction vs with
  | nil => intro xs o q; rw [if_neg (by simp; omega)]; rfl
  | cons v vs ih =>
    intro xs o q
    rw [setAll, ih]
    simp only [List.length_set, List.length_cons]
    by_cases h1 : q = o
    · subst h1
      rw [if_neg (by omega)]
      by_cases hl : q < xs.length
      · rw [if_pos ⟨by omega, by omega, hl⟩]; simp [hl]
      · rw [if_neg (by omega), List.getElem?_eq_none (by simp; omega), List.getElem?_eq_none (by omega)]
    · rw [List.getElem?_set_ne (by omega)]
      by_cases h2 : o + 1 ≤ q ∧ q < o + 1 + vs.length ∧ q < xs.length
      · rw [if_pos h2, if_pos (by omega), show q - o = (q - (o + 1)) + 1 by omega]; simp
      · rw [if_neg h2, if_neg (by omega)]
theorem setAll_flat {α : Type} (f : α → List Value) (s : Nat) (hs : 0 < s) (hf : ∀ a, (f a).length = s) (l : List α) (j : Nat) (x : α) (hj : j < l.length) : setAll (l.flatMap f) (j * s) (f x) = (l.set j x).flatMap f := by
  refine List.ext_getElem? fun q => ?_
  rw [setAll_get, hf, flat_len f s hf]
  by_cases hq : q < l.length * s
  · have hd : q / s < l.length := Nat.div_lt_of_lt_mul (by rw [Nat.mul_comm]; exact hq)
    have hm := Nat.mod_lt q hs
    have e : q / s * s + q % s = q := by rw [Nat.mul_comm]; exact Nat.div_add_mod q s
    have hr := flat_get f s hf (l.set j x) (q / s) (q % s) ((l.set j x)[q / s]'(by simpa using hd)) (List.getElem?_eq_getElem (by simpa using hd)) hm
    rw [e] at hr
    rw [hr]
    by_cases hqj : q / s = j
    · have e2 : j * s + q % s = q := by rw [← hqj]; exact e
      rw [if_pos ⟨by omega, by omega, by omega⟩]
      have : (l.set j x)[q / s]'(by simpa using hd) = x := by simp [hqj]
      rw [this]
      congr 1; omega
    · have h0 := flat_get f s hf l (q / s) (q % s) l[q / s] (List.getElem?_eq_getElem hd) hm
      rw [e] at h0
      have hn : ¬ (j * s ≤ q ∧ q < j * s + s ∧ q < l.length * s) := by
        rintro ⟨h1, h2, _⟩
        apply hqj
        have a1 : j ≤ q / s := (Nat.le_div_iff_mul_le hs).2 h1
        have a2 : q / s < j + 1 := (Nat.div_lt_iff_lt_mul hs).2 (by rw [Nat.add_mul]; omega)
        omega
      rw [if_neg hn, h0]
      have : (l.set j x)[q / s]'(by simpa using hd) = l[q / s] := by rw [List.getElem_set_ne (by omega)]
      rw [this]
  · rw [if_neg (by omega), List.getElem?_eq_none (by rw [flat_len f s hf]; omega), List.getElem?_eq_none (by rw [flat_len f s hf]; simp; omega)]

theorem Ext.set {w w' : World} (h : Ext w w') {b o : Nat} (hb : w.heap.size ≤ b) (v : Value) : Ext w (w'.setCell ⟨b, o, none⟩ v) := Below.setCell h hb v
theorem own_ext {w w' : World} {base : Nat} {e : TypeId} {size n : Nat} {v : Value} {xs : List Value} (h : w.ownsRow base e size v n xs) (hE : Ext w w') : w'.ownsRow base e size v n xs :=
  h.kept (row := none) ⟨hE.os, hE.tape, hE.output, hE.size, fun k hk _ => hE.block k hk⟩ (by cases hv : v.ownBlock <;> simp)
theorem own_base {w : World} {base base' : Nat} {e : TypeId} {size n : Nat} {v : Value} {xs : List Value} (h : w.ownsRow base e size v n xs) (hb : base' ≤ base) : w.ownsRow base' e size v n xs := by
  obtain ⟨h1, h2⟩ := h
  rcases h2 with h2 | ⟨g, cap, cur, hv, hg, r⟩
  · exact ⟨h1, .inl h2⟩
  · exact ⟨h1, .inr ⟨g, cap, cur, hv, by omega, r⟩⟩

end Go.Proofs.Ytfnnoncdocghjaa
namespace Go.Proofs.Ytfnnoncdocghjaa
open Go.RowKit
set_option linter.unusedVariables false

/-- a new row -/
def RowPost (w : World) (e : TypeId) (s n : Nat) (xs : List Value) (r : Ending) (w' : World) : Prop := ∃ v, r = .returned v ∧ w'.ownsRow w.heap.size e s v n xs ∧ Ext w w'
/-- a value, and the memory as it was -/
def StillPost (w : World) (v : Value) (e : Ending) (w' : World) : Prop := e = .returned v ∧ ∃ q, w' = w.drewN q
/-- a value, and new blocks alone -/
def ExtPost (w : World) (v : Value) (e : Ending) (w' : World) : Prop := e = .returned v ∧ Ext w w'
/-- a counter that goes up to n; the memory as it was -/
def StillRel (w : World) (n : Nat) (g : Nat) (i : Value) (wr : World) : Prop := ∃ j q : Nat, j ≤ n ∧ i = .int .i64 j ∧ g = n - j ∧ wr = w.drewN q

def Iv (z : Int) : List Value := [.int .i64 z]
theorem Iv.len (z : Int) : (Iv z).length = 1 := rfl
theorem Iv.one (z : Int) : ∀ u ∈ Iv z, u.oneCell' = true := by simp [Iv, Value.oneCell']
theorem Iv.ones (l : List Int) : ∀ u ∈ l.flatMap Iv, u.oneCell' = true := by
  intro u hu
  obtain ⟨c, _, hc⟩ := List.mem_flatMap.1 hu
  exact Iv.one c u hc
abbrev IntSeg (w : World) (A : Option Addr) (l : List Int) : Prop := Seg w 1 A l.length (l.flatMap Iv)
theorem Iv.at_ {w : World} {A : Option Addr} {l : List Int} (h : IntSeg w A l) {j : Nat} (hj : j < l.length) :
    ∃ b off, A = some ⟨b, off, none⟩ ∧ w.cell? ⟨b, off + j, none⟩ = some (.int .i64 l[j]) := by
  obtain ⟨b, off, hA, _, hc⟩ := Seg.at_ h Iv.len hj
  have := hc 0 _ rfl
  exact ⟨b, off, hA, by simpa using this⟩
theorem mul_one_cell {b off j : Nat} {w : World} {v : Value} (h : w.cell? ⟨b, off + j, none⟩ = some v) : w.cell? ⟨b, off + j * 1, none⟩ = some v := by simpa using h

theorem Ext.of_grown {w w' : World} {v : Value} (hv : v.ownBlock = none) (hg : w.grownBy w' v.ownBlock) : Ext w w' :=
  ⟨hg.os, hg.tape, hg.output, hg.size, fun k hk => hg.block k hk (by rw [hv]; simp)⟩
/-- a row of the call's own grew -/
theorem Ext.own {w0 w w' : World} {e : TypeId} {base s n : Nat} {v : Value} {xs : List Value} (h : Ext w0 w) (ho : w.ownsRow base e s v n xs) (hb : w0.heap.size ≤ base) (hg : w.grownBy w' v.ownBlock) : Ext w0 w' :=
  Below.grown h hg h.size (fun k hk => by have := (ho.lt k hk).1; omega)

/-- 'append(v, x)': the element x lies in a new block of its own, whose number is spelt in whatever way -/
theorem wpList_push_at {P : Program} {α : Type} (f : α → List Value) (s bytes : Nat) (hf : ∀ a, (f a).length = s) (h1 : ∀ a, ∀ u ∈ f a, u.oneCell' = true) (hs0 : 0 < s)
    {w : World} {ops : Array Oper} {rest : List Oper} {o : Oper} {a : Act} {Q : Exit → Act → World → Prop} (hgd : o.guard = none) (so xo : Operand) (t : TypeId)
    (ho : o.op = .call { callee := .builtin .append, args := #[so, xo], argTypes := #[t, t] })
    (base : Nat) (e : TypeId) (ht : P.underlying t = some (.slice e)) (hinfo : elemOf P e = some (s, s, bytes))
    (v : Value) (l : List α) (x : α) (g : Nat) (hso : a.eval so = v) (hown : w.ownsRow base e s v l.length (l.flatMap f)) (hxo : a.eval xo = .slice (some ⟨g, 0, none⟩) 1 1) (hg : w.heap.size = g)
    (h63 : l.length + 1 ≤ maxLen) (hbytes : (l.length + 1) * bytes ≤ 140737488355328) (hbase : base ≤ w.heap.size)
    (h : ∀ v' w', w'.ownsRow base e s v' (l ++ [x]).length ((l ++ [x]).flatMap f) → w.grownBy w' v.ownBlock → wpList P ops Q rest (a.put o.dst v') w') :
    wpList P ops Q (o :: rest) a (w.alloc (.cells (f x).toArray e)) := by
  subst hg
  exact wpList_push f s bytes hf h1 hs0 hgd so xo t ho base e ht hinfo v l x hso hown hxo h63 hbytes hbase h

/-- rows of different types of elements lie in different blocks -/
theorem own_ne {w : World} {b1 b2 : Nat} {e1 e2 : TypeId} {s1 s2 n1 n2 : Nat} {v1 v2 : Value} {xs1 xs2 : List Value} (h1 : w.ownsRow b1 e1 s1 v1 n1 xs1) (h2 : w.ownsRow b2 e2 s2 v2 n2 xs2) (hne : e1 ≠ e2) :
    v1.ownBlock = none ∨ v1.ownBlock ≠ v2.ownBlock := by
  rcases h1.2 with ⟨rfl, _⟩ | ⟨g, cap, cur, rfl, _, hh, _⟩
  · exact .inl rfl
  · right
    rcases h2.2 with ⟨rfl, _⟩ | ⟨g', cap', cur', rfl, _, hh', _⟩
    · simp [Value.ownBlock]
    · intro e
      simp only [Value.ownBlock, Option.some.injEq] at e
      subst e
      rw [hh] at hh'
      injection hh' with hh'
      injection hh' with _ ht
      exact hne ht

/-- the same in a region that draws its order -/
theorem step_push_at {P : Program} {α : Type} (f : α → List Value) (s bytes : Nat) (hf : ∀ a, (f a).length = s) (h1 : ∀ a, ∀ u ∈ f a, u.oneCell' = true) (hs0 : 0 < s)
    {w : World} {ops : Array Oper} {o : Oper} {a : Act} {K : Act → World → Prop} {Q : Exit → Act → World → Prop} {E : Prop} (hgd : o.guard = none) (so xo : Operand) (t : TypeId)
    (ho : o.op = .call { callee := .builtin .append, args := #[so, xo], argTypes := #[t, t] })
    (base : Nat) (e : TypeId) (ht : P.underlying t = some (.slice e)) (hinfo : elemOf P e = some (s, s, bytes))
    (v : Value) (l : List α) (x : α) (g : Nat) (hso : a.eval so = v) (hown : w.ownsRow base e s v l.length (l.flatMap f)) (hxo : a.eval xo = .slice (some ⟨g, 0, none⟩) 1 1) (hg : w.heap.size = g)
    (h63 : l.length + 1 ≤ maxLen) (hbytes : (l.length + 1) * bytes ≤ 140737488355328) (hbase : base ≤ w.heap.size)
    (h : ∀ v' w', w'.ownsRow base e s v' (l ++ [x]).length ((l ++ [x]).flatMap f) → w.grownBy w' v.ownBlock → K (a.put o.dst v') w') :
    if Region.wanted o (yielded ops a.tmps) = true then Oper.wp P o a (w.alloc (.cells (f x).toArray e)) K Q else E := by
  subst hg
  have hw : Region.wanted o (yielded ops a.tmps) = true := by simp [Region.wanted, hgd]
  rw [if_pos hw]
  obtain ⟨i, z, hi, hz, hsz, hby, hzs⟩ := elemOf_some hinfo
  refine wp_append_own _ so xo t ho base e i z s bytes ht hi hz hsz hby hzs hs0 v l.length (l.flatMap f) hso (hown.alloc _) ⟨w.heap.size, 0, none⟩ 1 1 (f x) hxo
    (by rw [hf]; omega) ?_ (h1 x) h63 hbytes (by simp; omega) ?_
  · intro j u hu
    have hc : (w.alloc (.cells (f x).toArray e)).heap[w.heap.size]? = some (.cells (f x).toArray e (0, 0)) := heap_alloc_new w _
    have ha : (⟨w.heap.size, 0, none⟩ : Addr).add j = ⟨w.heap.size, j, none⟩ := by unfold Addr.add; split <;> simp_all
    rw [ha]
    simp only [World.cell?, hc]
    simpa using hu
  · intro v' w' h2 h3 _
    refine h v' w' ?_ ?_
    · rw [List.flatMap_append, List.length_append]
      simpa using h2
    · exact ⟨h3.os, h3.tape, h3.output, Nat.le_trans (by simp) h3.size, fun k hk hne => (h3.block k (by simp; omega) hne).trans (Below.heap_alloc w _ k hk)⟩

theorem results_tmp4 {fn : Func} {t u v x : Tmp} (h : fn.results = #[.tmp t, .tmp u, .tmp v, .tmp x]) (tmps : Array Value) (P : Program) (w : World) :
    (results fn tmps).run P w = .ok (.tuple #[tmps.getD t undef, tmps.getD u undef, tmps.getD v undef, tmps.getD x undef]) w := by simp [results, h]
end Go.Proofs.Ytfnnoncdocghjaa
namespace Go.Proofs.Ytfnnoncdocghjaa
open Go.RowKit
set_option linter.unusedVariables false
set_option maxRecDepth 100000

structure Dt where
  proc : Int
  index : Int
  ev : Ev
def Dt.cells (d : Dt) : List Value := [.int .i64 d.proc, .int .i64 d.index, .int .i64 d.ev.kind, .int .i64 d.ev.inc, .int .i64 d.ev.frm, .int .i64 d.ev.sinc, .int .i64 d.ev.sidx, .int .i64 d.ev.ord, .int .i64 d.ev.val]
theorem Dt.len (d : Dt) : d.cells.length = 9 := rfl
theorem Dt.one (d : Dt) : ∀ u ∈ d.cells, u.oneCell' = true := by simp [Dt.cells, Value.oneCell']
theorem Dt.ones (l : List Dt) : ∀ u ∈ l.flatMap Dt.cells, u.oneCell' = true := by
  intro u hu
  obtain ⟨c, _, hc⟩ := List.mem_flatMap.1 hu
  exact Dt.one c u hc
abbrev DtSeg (w : World) (A : Option Addr) (l : List Dt) : Prop := Seg w 9 A l.length (l.flatMap Dt.cells)
def Dt.ok (d : Dt) : Prop := InI64 d.proc ∧ InI64 d.index ∧ d.ev.ok
/-- the value of a determinant -/
abbrev Dt.val (d : Dt) : Value := .agg #[.int .i64 d.proc, .int .i64 d.index, .int .i64 d.ev.kind, .int .i64 d.ev.inc, .int .i64 d.ev.frm, .int .i64 d.ev.sinc, .int .i64 d.ev.sidx, .int .i64 d.ev.ord, .int .i64 d.ev.val]

theorem Dt.at_ {w : World} {A : Option Addr} {l : List Dt} (h : DtSeg w A l) {j : Nat} (hj : j < l.length) :
    ∃ b off, A = some ⟨b, off, none⟩ ∧ w.cell? ⟨b, off + j * 9, none⟩ = some (.int .i64 l[j].proc) ∧ w.cell? ⟨b, off + j * 9 + 1, none⟩ = some (.int .i64 l[j].index) ∧ w.cell? ⟨b, off + j * 9 + 2, none⟩ = some (.int .i64 l[j].ev.kind) ∧ w.cell? ⟨b, off + j * 9 + 3, none⟩ = some (.int .i64 l[j].ev.inc) ∧ w.cell? ⟨b, off + j * 9 + 4, none⟩ = some (.int .i64 l[j].ev.frm) ∧ w.cell? ⟨b, off + j * 9 + 5, none⟩ = some (.int .i64 l[j].ev.sinc) ∧ w.cell? ⟨b, off + j * 9 + 6, none⟩ = some (.int .i64 l[j].ev.sidx) ∧ w.cell? ⟨b, off + j * 9 + 7, none⟩ = some (.int .i64 l[j].ev.ord) ∧ w.cell? ⟨b, off + j * 9 + 8, none⟩ = some (.int .i64 l[j].ev.val) := by
  obtain ⟨b, off, hA, _, hc⟩ := Seg.at_ h Dt.len hj
  exact ⟨b, off, hA, hc 0 _ rfl, hc 1 _ rfl, hc 2 _ rfl, hc 3 _ rfl, hc 4 _ rfl, hc 5 _ rfl, hc 6 _ rfl, hc 7 _ rfl, hc 8 _ rfl⟩

theorem Ev.at_ {w : World} {A : Option Addr} {l : List Ev} (h : EvSeg w A l) {j : Nat} (hj : j < l.length) :
    ∃ b off, A = some ⟨b, off, none⟩ ∧ w.cell? ⟨b, off + j * 7, none⟩ = some (.int .i64 l[j].kind) ∧ w.cell? ⟨b, off + j * 7 + 1, none⟩ = some (.int .i64 l[j].inc) ∧ w.cell? ⟨b, off + j * 7 + 2, none⟩ = some (.int .i64 l[j].frm) ∧ w.cell? ⟨b, off + j * 7 + 3, none⟩ = some (.int .i64 l[j].sinc) ∧ w.cell? ⟨b, off + j * 7 + 4, none⟩ = some (.int .i64 l[j].sidx) ∧ w.cell? ⟨b, off + j * 7 + 5, none⟩ = some (.int .i64 l[j].ord) ∧ w.cell? ⟨b, off + j * 7 + 6, none⟩ = some (.int .i64 l[j].val) := by
  obtain ⟨b, off, hA, _, hc⟩ := Seg.at_ h Ev.len hj
  exact ⟨b, off, hA, hc 0 _ rfl, hc 1 _ rfl, hc 2 _ rfl, hc 3 _ rfl, hc 4 _ rfl, hc 5 _ rfl, hc 6 _ rfl⟩

/-- the determinants of a lineage -/
def linFrom (p : Int) : List Ev → Nat → List Dt
  | [], _ => []
  | e :: es, i => ⟨p, (i : Int) + 1, e⟩ :: linFrom p es (i + 1)
def linV (p : Int) (es : List Ev) : List Dt := linFrom p es 0
theorem lin_len (p : Int) (es : List Ev) : ∀ i, (linFrom p es i).length = es.length := by
  induction es with
  | nil => intro i; rfl
  | cons e es ih => intro i; simp [linFrom, ih]
theorem lin_snoc (p : Int) (es : List Ev) (e : Ev) : ∀ i, linFrom p (es ++ [e]) i = linFrom p es i ++ [⟨p, ((i + es.length : Nat) : Int) + 1, e⟩] := by
  induction es with
  | nil => intro i; rfl
  | cons x es ih => intro i; simp only [List.cons_append, linFrom, ih, List.length_cons]; congr 4; omega
theorem linV_take (p : Int) (es : List Ev) (j : Nat) (hj : j < es.length) : linV p (es.take (j + 1)) = linV p (es.take j) ++ [⟨p, (j : Int) + 1, es[j]⟩] := by
  unfold linV
  rw [List.take_succ_eq_append_getElem hj, lin_snoc]
  congr 4
  simp; omega
theorem linV_get (p : Int) (es : List Ev) : ∀ (i j : Nat) (hj : j < es.length), (linFrom p es i)[j]? = some ⟨p, ((i + j : Nat) : Int) + 1, es[j]⟩ := by
  induction es with
  | nil => intro i j hj; simp at hj
  | cons e es ih =>
    intro i j hj
    cases j with
    | zero => simp [linFrom]
    | succ j =>
      simp only [linFrom, List.getElem?_cons_succ, List.getElem_cons_succ]
      rw [ih (i + 1) j (by simpa using hj)]
      congr 3; omega

def LRel (w : World) (p : Int) (es : List Ev) (g : Nat) (v i : Value) (wr : World) : Prop :=
  ∃ j : Nat, j ≤ es.length ∧ i = .int .i64 j ∧ g = es.length - j ∧ Ext w wr ∧ wr.ownsRow w.heap.size 32 9 v (linV p (es.take j)).length ((linV p (es.take j)).flatMap Dt.cells)

set_option maxHeartbeats 1600000 in
theorem lineage_sl (A : Option Addr) (c : Nat) (p : Int) (es : List Ev) (w : World) (hs : EvSeg w A es) (hn : es.length ≤ 1000) :
    Calls Try.prog 31 #[.int .i64 p, .slice A es.length c] w (RowPost w 32 9 (linV p es).length ((linV p es).flatMap Dt.cells)) := by
  go_enter Try.func31, Try.ntmps31
  go_wp2_with fail
  go_loopg [5, 10] es.length (fun g v i wr => LRel w p es g v i wr)
  case atStart => exact ⟨0, Nat.zero_le _, rfl, rfl, Ext.refl w, own_nil _ _ _ _ _⟩
  case round =>
    obtain ⟨j, hj, rfl, rfl, hE, hown⟩ := hrel
    by_cases hlt : j < es.length
    · obtain ⟨b, off, rfl, p0, p1, p2, p3, p4, p5, p6⟩ := Ev.at_ (hs.ext hE) hlt
      have HT := Lib.hid (linV_take p es j hlt)
      have HL : (linV p (es.take j)).length ≤ es.length := by unfold linV; rw [lin_len]; simp; omega
      obtain ⟨x, hx⟩ : ∃ x, es[j] = x := ⟨_, rfl⟩
      rw [hx] at p0 p1 p2 p3 p4 p5 p6 HT
      clear hx
      have hz := hE.size
      obtain ⟨L, hL⟩ : ∃ L, linV p (es.take j) = L := ⟨_, rfl⟩
      rw [hL] at HT HL hown
      clear hL
      go_wp2_with (at_builtin; refine wpList_push_at Dt.cells 9 72 Dt.len Dt.one (by omega) rfl _ _ _ rfl w.heap.size 32 Try.underlying56 (by kernel_rfl) u5 L ⟨p, (j : Int) + 1, x⟩ (wr.heap.size + 1) rfl (hown.alloc _) rfl (by first | rfl | simp) (by unfold maxLen; omega) (by omega) (by simp; omega) ?_; intro v' w6 hown6 hg6)
      have hE6 : Ext w w6 := Ext.own (hE.allocs _) (hown.alloc _) (Nat.le_refl _) hg6
      go_roundg (es.length - (j + 1))
      case measure => omega
      case rel => exact ⟨j + 1, by omega, by go_num, rfl, hE6, by rw [HT.out]; exact hown6⟩
    · obtain rfl : j = es.length := by omega
      rw [List.take_of_length_le (Nat.le_refl _)] at hown
      go_wp2_with fail
      go_ret
      exact ⟨_, rfl, hown, hE⟩

set_option maxHeartbeats 1600000 in
theorem sameDets (A B : Option Addr) (ca cb : Nat) (l : List Dt) (w : World) (ha : DtSeg w A l) (hb : DtSeg w B l) (hn : l.length ≤ 1000) :
    Calls Try.prog 32 #[.slice A l.length ca, .slice B l.length cb] w (StillPost w (.bool true)) := by
  go_enter Try.func32, Try.ntmps32
  go_wp2_with fail
  go_loopg [5] l.length (fun g i wr => StillRel w l.length g i wr)
  case atStart => exact ⟨0, 0, Nat.zero_le _, rfl, rfl, rfl⟩
  case round =>
    obtain ⟨j, q, hj, rfl, rfl, rfl⟩ := hrel
    by_cases hlt : j < l.length
    · obtain ⟨b, off, rfl, p0, p1, p2, p3, p4, p5, p6, p7, p8⟩ := Dt.at_ ha hlt
      obtain ⟨b', off', rfl, r0, r1, r2, r3, r4, r5, r6, r7, r8⟩ := Dt.at_ hb hlt
      generalize l[j].proc = x0 at *
      generalize l[j].index = x1 at *
      generalize l[j].ev.kind = x2 at *
      generalize l[j].ev.inc = x3 at *
      generalize l[j].ev.frm = x4 at *
      generalize l[j].ev.sinc = x5 at *
      generalize l[j].ev.sidx = x6 at *
      generalize l[j].ev.ord = x7 at *
      generalize l[j].ev.val = x8 at *
      clear ha hb
      go_wp2_with fail
      go_quiet (fail)
      go_wp2_with fail
      go_roundg (l.length - (j + 1))
      case measure => omega
      case rel => exact ⟨j + 1, _, by omega, by go_num, rfl, rfl⟩
    · go_wp2_with fail
      go_ret
      exact ⟨rfl, _, rfl⟩

end Go.Proofs.Ytfnnoncdocghjaa
namespace Go.Proofs.Ytfnnoncdocghjaa
open Go.RowKit
set_option linter.unusedVariables false
set_option maxRecDepth 100000

def Dt.same (a b : Dt) : Bool := (a.proc == b.proc) && (a.index == b.index) && (a.ev.kind == b.ev.kind) && (a.ev.inc == b.ev.inc) && (a.ev.frm == b.ev.frm) && (a.ev.sinc == b.ev.sinc) && (a.ev.sidx == b.ev.sidx) && (a.ev.ord == b.ev.ord) && (a.ev.val == b.ev.val)
theorem Dt.same_iff (a b : Dt) : a.same b = true ↔ a = b := by
  obtain ⟨a0, a1, a2, a3, a4, a5, a6, a7, a8⟩ := a
  obtain ⟨b0, b1, b2, b3, b4, b5, b6, b7, b8⟩ := b
  simp [Dt.same, and_assoc]
theorem Dt.same_self (a : Dt) : a.same a = true := (Dt.same_iff a a).2 rfl
theorem Dt.same_ne {a b : Dt} (h : a ≠ b) : a.same b = false := by
  rcases hs : a.same b with _ | _
  · rfl
  · exact absurd ((Dt.same_iff a b).1 hs) h

set_option maxHeartbeats 800000 in
theorem eql_det (w : World) (a b : Dt) : (binOp .eql 32 a.val b.val).run Try.prog w = .ok (.bool (a.same b)) w := by
  obtain ⟨a0, a1, a2, a3, a4, a5, a6, a7, a8⟩ := a
  obtain ⟨b0, b1, b2, b3, b4, b5, b6, b7, b8⟩ := b
  unfold Dt.same Dt.val
  simp only [binOp]
  by_cases h0 : a0 = b0
  rotate_left
  · have g0 : (a0 == b0) = false := by simp [h0]
    simp [Op.equal, Op.maxDepth, go_sem, g0]
  subst h0
  by_cases h1 : a1 = b1
  rotate_left
  · have g1 : (a1 == b1) = false := by simp [h1]
    simp [Op.equal, Op.maxDepth, go_sem, g1]
  subst h1
  by_cases h2 : a2 = b2
  rotate_left
  · have g2 : (a2 == b2) = false := by simp [h2]
    simp [Op.equal, Op.maxDepth, go_sem, g2]
  subst h2
  by_cases h3 : a3 = b3
  rotate_left
  · have g3 : (a3 == b3) = false := by simp [h3]
    simp [Op.equal, Op.maxDepth, go_sem, g3]
  subst h3
  by_cases h4 : a4 = b4
  rotate_left
  · have g4 : (a4 == b4) = false := by simp [h4]
    simp [Op.equal, Op.maxDepth, go_sem, g4]
  subst h4
  by_cases h5 : a5 = b5
  rotate_left
  · have g5 : (a5 == b5) = false := by simp [h5]
    simp [Op.equal, Op.maxDepth, go_sem, g5]
  subst h5
  by_cases h6 : a6 = b6
  rotate_left
  · have g6 : (a6 == b6) = false := by simp [h6]
    simp [Op.equal, Op.maxDepth, go_sem, g6]
  subst h6
  by_cases h7 : a7 = b7
  rotate_left
  · have g7 : (a7 == b7) = false := by simp [h7]
    simp [Op.equal, Op.maxDepth, go_sem, g7]
  subst h7
  by_cases h8 : a8 = b8
  rotate_left
  · have g8 : (a8 == b8) = false := by simp [h8]
    simp [Op.equal, Op.maxDepth, go_sem, g8]
  subst h8
  simp [Op.equal, Op.maxDepth, go_sem]

theorem blk9 {w : World} {g : Nat} {t : TypeId} {d : Dt} (h : Blk w g t d.cells.toArray) : w.cell? ⟨g, 0, none⟩ = some (.int .i64 d.proc) ∧ w.cell? ⟨g, 1, none⟩ = some (.int .i64 d.index) ∧ w.cell? ⟨g, 2, none⟩ = some (.int .i64 d.ev.kind) ∧ w.cell? ⟨g, 3, none⟩ = some (.int .i64 d.ev.inc) ∧ w.cell? ⟨g, 4, none⟩ = some (.int .i64 d.ev.frm) ∧ w.cell? ⟨g, 5, none⟩ = some (.int .i64 d.ev.sinc) ∧ w.cell? ⟨g, 6, none⟩ = some (.int .i64 d.ev.sidx) ∧ w.cell? ⟨g, 7, none⟩ = some (.int .i64 d.ev.ord) ∧ w.cell? ⟨g, 8, none⟩ = some (.int .i64 d.ev.val) := by
  simp [h.cell, Dt.cells]
theorem blk9f {w : World} {g : Nat} {t : TypeId} {cs : Array Value} (h : Blk w g t cs) : w.frozen? ⟨g, 0, none⟩ = false ∧ w.frozen? ⟨g, 1, none⟩ = false ∧ w.frozen? ⟨g, 2, none⟩ = false ∧ w.frozen? ⟨g, 3, none⟩ = false ∧ w.frozen? ⟨g, 4, none⟩ = false ∧ w.frozen? ⟨g, 5, none⟩ = false ∧ w.frozen? ⟨g, 6, none⟩ = false ∧ w.frozen? ⟨g, 7, none⟩ = false ∧ w.frozen? ⟨g, 8, none⟩ = false := by
  simp [h.frozen]
def hasB (l : List Dt) (d : Dt) : Bool := l.any fun x => x.same d
theorem hasB_iff (l : List Dt) (d : Dt) : hasB l d = true ↔ d ∈ l := by
  unfold hasB
  rw [List.any_eq_true]
  constructor
  · rintro ⟨x, hx, hs⟩
    rw [← (Dt.same_iff x d).1 hs]; exact hx
  · intro h
    exact ⟨d, h, Dt.same_self d⟩
theorem hasB_take (l : List Dt) (d : Dt) (j : Nat) (hj : j < l.length) : hasB (l.take (j + 1)) d = (hasB (l.take j) d || l[j].same d) := by
  unfold hasB
  rw [List.take_succ_eq_append_getElem hj, List.any_append]
  simp
theorem hasB_hit (l : List Dt) (d : Dt) (j : Nat) (hj : j < l.length) (h : l[j].same d = true) : hasB l d = true := by
  unfold hasB
  rw [List.any_eq_true]
  exact ⟨l[j], List.getElem_mem hj, h⟩
def HRel (w1 : World) (l : List Dt) (d : Dt) (g : Nat) (i : Value) (wr : World) : Prop := ∃ j : Nat, j ≤ l.length ∧ i = .int .i64 j ∧ g = l.length - j ∧ Ext w1 wr ∧ hasB (l.take j) d = false

set_option maxHeartbeats 1600000 in
theorem has_ref (A : Option Addr) (c : Nat) (l : List Dt) (d : Dt) (w : World) (hs : DtSeg w A l) (hn : l.length ≤ 1000) :
    Calls Try.prog 29 #[.slice A l.length c, .agg #[.int .i64 d.proc, .int .i64 d.index, .int .i64 d.ev.kind, .int .i64 d.ev.inc, .int .i64 d.ev.frm, .int .i64 d.ev.sinc, .int .i64 d.ev.sidx, .int .i64 d.ev.ord, .int .i64 d.ev.val]] w (ExtPost w (.bool (hasB l d))) := by
  have hB := Blk.new w 32 d.cells.toArray
  have hs1 := hs.alloc (.cells d.cells.toArray 32)
  have hX := (Ext.refl w).allocs (.cells d.cells.toArray 32)
  obtain ⟨w1, hw1⟩ : ∃ w1, w.alloc (.cells d.cells.toArray 32) = w1 := ⟨_, rfl⟩
  rw [hw1] at hB hs1 hX
  have HW := Lib.hid hw1
  clear hw1 hs
  go_enter Try.func29, Try.ntmps29
  go_wp2_with fail
  have e := HW.out
  unfold Dt.cells at e
  rw [e]
  clear e HW
  go_loopg [5] l.length (fun g i wr => HRel w1 l d g i wr)
  case atStart => exact ⟨0, Nat.zero_le _, rfl, rfl, Ext.refl _, rfl⟩
  case round =>
    obtain ⟨j, hj, rfl, rfl, hE, hno⟩ := hrel
    have HN := Lib.hid hno
    clear hno
    by_cases hlt : j < l.length
    · obtain ⟨b, off, rfl, p0, p1, p2, p3, p4, p5, p6, p7, p8⟩ := Dt.at_ (hs1.ext hE) hlt
      obtain ⟨b0, b1, b2, b3, b4, b5, b6, b7, b8⟩ := blk9 (hB.ext hE)
      have HT := Lib.hid (hasB_take l d j hlt)
      have HH := Lib.hid (hasB_hit l d j hlt)
      have heq := fun w => eql_det w l[j] d
      unfold Dt.val at heq
      rcases hsm : l[j].same d with _ | _
      · rw [hsm] at heq HT
        generalize l[j] = x at *
        clear hsm
        go_wp2_with fail
        go_quiet (fail)
        go_wp2_with fail
        go_roundg (l.length - (j + 1))
        case measure => omega
        case rel => exact ⟨j + 1, by omega, by go_num, rfl, hE.drewN _, by rw [HT.out, HN.out]; rfl⟩
      · rw [hsm] at heq
        have HS := Lib.hid hsm
        clear hsm
        generalize l[j] = x at *
        go_wp2_with fail
        go_quiet (fail)
        go_wp2_with fail
        go_ret
        refine ⟨?_, hX.trans (hE.drewN _)⟩
        rw [HH.out HS.out]
        rfl
    · have HF : Hid (hasB l d = false) := by have := HN.out; rw [List.take_of_length_le (by omega)] at this; exact this
      go_wp2_with fail
      go_ret
      refine ⟨?_, hX.trans hE⟩
      rw [HF.out]
      rfl
end Go.Proofs.Ytfnnoncdocghjaa
namespace Go.Proofs.Ytfnnoncdocghjaa
open Go.RowKit
set_option linter.unusedVariables false
set_option maxRecDepth 100000

def cmpI (a b : Int) : Int := if a < b then -1 else if b < a then 1 else 0
def cmpL : List Int → List Int → Int
  | x :: xs, y :: ys => if cmpI x y = 0 then cmpL xs ys else cmpI x y
  | _, _ => 0
def Dt.keys (d : Dt) : List Int := [d.proc, d.index, d.ev.inc, d.ev.kind, d.ev.frm, d.ev.sinc, d.ev.sidx, d.ev.ord, d.ev.val]
def cmpD (a b : Dt) : Int := cmpL a.keys b.keys
theorem cmpI_bd (a b : Int) : -1 ≤ cmpI a b ∧ cmpI a b ≤ 1 := by unfold cmpI; split <;> (try split) <;> omega
theorem cmpL_bd : ∀ xs ys : List Int, -1 ≤ cmpL xs ys ∧ cmpL xs ys ≤ 1
  | [], _ => by simp [cmpL]
  | _ :: _, [] => by simp [cmpL]
  | x :: xs, y :: ys => by
    rw [cmpL]
    split
    · exact cmpL_bd xs ys
    · exact cmpI_bd x y

set_option maxHeartbeats 400000 in
theorem cmpInt_any (a b : Int) (w : World) : Calls Try.prog 77 #[.int .i64 a, .int .i64 b] w fun e w' => e = .returned (.int .i64 (cmpI a b)) ∧ w = w' := by
  have HV : Hid (cmpI a b = if a < b then -1 else if b < a then 1 else 0) := rfl
  have hn : ∀ z : Int, (z != z) = false := fun z => by simp
  by_cases h1 : a < b
  · go_enter Try.func77, Try.ntmps77
    go_wp2
    go_ret
    exact ⟨ret_int (by rw [HV.out, if_pos h1]), rfl⟩
  · by_cases h2 : b < a
    · go_enter Try.func77, Try.ntmps77
      go_wp2
      go_ret
      exact ⟨ret_int (by rw [HV.out, if_neg (by omega), if_pos h2]), rfl⟩
    · go_enter Try.func77, Try.ntmps77
      go_wp2
      go_ret
      exact ⟨ret_int (by rw [HV.out, if_neg (by omega), if_neg (by omega)]), rfl⟩

set_option maxHeartbeats 400000 in
theorem less_any (a b : Int) (w : World) : Calls Try.prog 64 #[.int .i64 a, .int .i64 b] w fun e w' => e = .returned (.int .i64 (cmpI a b)) ∧ w = w' := by
  have HV : Hid (cmpI a b = if a < b then -1 else if b < a then 1 else 0) := rfl
  by_cases h1 : a < b
  · go_enter Try.func64, Try.ntmps64
    go_wp2
    go_ret
    exact ⟨ret_int (by rw [HV.out, if_pos h1]), rfl⟩
  · by_cases h2 : b < a
    · go_enter Try.func64, Try.ntmps64
      go_wp2
      go_ret
      exact ⟨ret_int (by rw [HV.out, if_neg (by omega), if_pos h2]), rfl⟩
    · go_enter Try.func64, Try.ntmps64
      go_wp2
      go_ret
      exact ⟨ret_int (by rw [HV.out, if_neg (by omega), if_neg (by omega)]), rfl⟩

set_option maxHeartbeats 800000 in
theorem fields_any (d : Dt) (w : World) : Calls Try.prog 76 #[.agg #[.int .i64 d.proc, .int .i64 d.index, .int .i64 d.ev.kind, .int .i64 d.ev.inc, .int .i64 d.ev.frm, .int .i64 d.ev.sinc, .int .i64 d.ev.sidx, .int .i64 d.ev.ord, .int .i64 d.ev.val]] w fun e w' => e = .returned (.agg #[.int .i64 d.proc, .int .i64 d.index, .int .i64 d.ev.inc, .int .i64 d.ev.kind, .int .i64 d.ev.frm, .int .i64 d.ev.sinc, .int .i64 d.ev.sidx, .int .i64 d.ev.ord, .int .i64 d.ev.val]) ∧ Ext w w' := by
  go_enter Try.func76, Try.ntmps76
  go_wp2_with fail
  refine bodyPost_ret (v := .agg #[.int .i64 d.proc, .int .i64 d.index, .int .i64 d.ev.inc, .int .i64 d.ev.kind, .int .i64 d.ev.frm, .int .i64 d.ev.sinc, .int .i64 d.ev.sidx, .int .i64 d.ev.ord, .int .i64 d.ev.val]) (by simp [results, Try.results76, go_sem]) rfl ?_
  exact ⟨rfl, (((Ext.refl w).allocs _).allocs _).allocs _⟩

/-- the loop over the nine numbers -/
def CmpRel (w : World) (g5 g6 : Nat) (a b : Dt) (g : Nat) (i : Value) (wr : World) : Prop :=
  ∃ j : Nat, j ≤ 9 ∧ i = .int .i64 j ∧ g = 9 - j ∧ Blk wr g5 101 (a.keys.map (Value.int .i64)).toArray ∧ Blk wr g6 101 (b.keys.map (Value.int .i64)).toArray ∧ Ext w wr ∧ cmpL a.keys b.keys = cmpL (a.keys.drop j) (b.keys.drop j)
theorem keys_at {W : World} {g : Nat} {t : TypeId} {a : Dt} (h : Blk W g t (a.keys.map (Value.int .i64)).toArray) {j : Nat} (hj : j < 9) : W.cell? ⟨g, j, none⟩ = some (.int .i64 (a.keys[j]'hj)) := by
  rw [h.cell]
  have hl : j < a.keys.length := hj
  show (a.keys.map (Value.int .i64)).toArray[j]? = _
  rw [List.getElem?_toArray, List.getElem?_map, List.getElem?_eq_getElem hl]
  rfl
theorem cmp_step (a b : Dt) (j : Nat) (hj : j < 9) : cmpL (a.keys.drop j) (b.keys.drop j) = if cmpI (a.keys[j]'hj) (b.keys[j]'hj) = 0 then cmpL (a.keys.drop (j + 1)) (b.keys.drop (j + 1)) else cmpI (a.keys[j]'hj) (b.keys[j]'hj) := by
  rw [List.drop_eq_getElem_cons (show j < a.keys.length from hj), List.drop_eq_getElem_cons (show j < b.keys.length from hj), cmpL]
  rfl


set_option maxRecDepth 100000 in
set_option maxHeartbeats 3200000 in
theorem compare_ref (a b : Dt) (w : World) : Calls Try.prog 46 #[.agg #[.int .i64 a.proc, .int .i64 a.index, .int .i64 a.ev.kind, .int .i64 a.ev.inc, .int .i64 a.ev.frm, .int .i64 a.ev.sinc, .int .i64 a.ev.sidx, .int .i64 a.ev.ord, .int .i64 a.ev.val], .agg #[.int .i64 b.proc, .int .i64 b.index, .int .i64 b.ev.kind, .int .i64 b.ev.inc, .int .i64 b.ev.frm, .int .i64 b.ev.sinc, .int .i64 b.ev.sidx, .int .i64 b.ev.ord, .int .i64 b.ev.val]] w (ExtPost w (.int .i64 (cmpD a b))) := by
  go_enter Try.func46, Try.ntmps46
  go_wp2_with fail
  have hB5 := ((Blk.new ((w.alloc (.cells a.cells.toArray 32)).alloc (.cells b.cells.toArray 32)) 101 (a.keys.map (Value.int .i64)).toArray)).ext ((Ext.refl _).allocs (.cells (b.keys.map (Value.int .i64)).toArray 101))
  have hB6 := Blk.new (((w.alloc (.cells a.cells.toArray 32)).alloc (.cells b.cells.toArray 32)).alloc (.cells (a.keys.map (Value.int .i64)).toArray 101)) 101 (b.keys.map (Value.int .i64)).toArray
  have hX := ((((Ext.refl w).allocs (.cells a.cells.toArray 32)).allocs (.cells b.cells.toArray 32)).allocs (.cells (a.keys.map (Value.int .i64)).toArray 101)).allocs (.cells (b.keys.map (Value.int .i64)).toArray 101)
  rw [show ((w.alloc (.cells a.cells.toArray 32)).alloc (.cells b.cells.toArray 32)).heap.size = w.heap.size + 2 by simp] at hB5
  rw [show (((w.alloc (.cells a.cells.toArray 32)).alloc (.cells b.cells.toArray 32)).alloc (.cells (a.keys.map (Value.int .i64)).toArray 101)).heap.size = w.heap.size + 3 by simp] at hB6
  obtain ⟨W, hW⟩ : ∃ W, (((w.alloc (.cells a.cells.toArray 32)).alloc (.cells b.cells.toArray 32)).alloc (.cells (a.keys.map (Value.int .i64)).toArray 101)).alloc (.cells (b.keys.map (Value.int .i64)).toArray 101) = W := ⟨_, rfl⟩
  rw [hW] at hB5 hB6 hX
  obtain ⟨g5, hg5⟩ : ∃ g5, w.heap.size + 2 = g5 := ⟨_, rfl⟩
  obtain ⟨g6, hg6⟩ : ∃ g6, w.heap.size + 3 = g6 := ⟨_, rfl⟩
  rw [hg5] at hB5
  rw [hg6] at hB6
  have e := hW
  simp only [Dt.cells, Dt.keys, List.map_cons, List.map_nil] at e
  rw [e, show w.heap.size + 1 + 1 = g5 from hg5, show g5 + 1 = g6 by omega]
  clear e hW
  clear hg5 hg6
  go_loopg [7] 9 (fun g i wr => CmpRel w g5 g6 a b g i wr)
  case atStart => exact ⟨0, Nat.zero_le _, rfl, rfl, hB5, hB6, hX, rfl⟩
  case round =>
    clear hB5 hB6 hX
    obtain ⟨j, hj, rfl, rfl, hB5, hB6, hX, hEq⟩ := hrel
    have HQ := Lib.hid hEq
    clear hEq
    by_cases hlt : j < 9
    · have c5 := keys_at hB5 hlt
      have c6 := keys_at hB6 hlt
      have HS := Lib.hid (cmp_step a b j hlt)
      generalize a.keys[j]'hlt = x at *
      generalize b.keys[j]'hlt = y at *
      have hji : (j : Int) < 9 := by omega
      have hj0 : (0 : Int) ≤ (j : Int) := by omega
      go_wp2_with fail
      go_quiet ((go_at_call 64; exact Calls.quiet_of_same ((less_any x y _).mono fun _ _ h => ⟨h.1, h.2.symm⟩)))
      by_cases h0 : cmpI x y = 0
      · have h0' : (cmpI x y != 0) = false := by simp [h0]
        have H0 := Lib.hid h0
        clear h0
        generalize cmpI x y = z at *
        go_wp2_with fail
        go_roundg (9 - (j + 1))
        case measure => omega
        case rel => exact ⟨j + 1, by omega, by go_num, rfl, hB5, hB6, hX.drewN _, by rw [HQ.out, HS.out, if_pos H0.out]⟩
      · have h0' : (cmpI x y != 0) = true := by simp [h0]
        have H0 := Lib.hid h0
        clear h0
        generalize cmpI x y = z at *
        go_wp2_with fail
        go_ret
        refine ⟨ret_int ?_, hX.drewN _⟩
        show z = cmpL a.keys b.keys
        rw [HQ.out, HS.out, if_neg H0.out]
    · obtain rfl : j = 9 := by omega
      go_wp2_with fail
      go_ret
      refine ⟨ret_int ?_, hX⟩
      show 0 = cmpL a.keys b.keys
      rw [HQ.out]
      rfl
end Go.Proofs.Ytfnnoncdocghjaa
namespace Go.Proofs.Ytfnnoncdocghjaa
set_option linter.unusedVariables false

/-- the mark of operation i is set -/
def upd (l : Nat → Bool) (i : Nat) : Nat → Bool := fun j => if j = i then true else l j

section
variable {P : Program} {ops : Array Oper} {Q : Exit → Act → World → Prop}

theorem letsOut_then {K : Act → World → Prop} (h : LetsOut (Exit.then K Q)) : LetsOut Q := by
  unfold LetsOut at *
  simpa [Exit.then] using h
theorem wp_then {o : Oper} {a : Act} {w : World} {K K' : Act → World → Prop} (hh : o.wp P a w K (Exit.then K' Q)) : o.wp P a w K Q := by
  unfold Oper.wp at *
  generalize (execOp a.eval o).run P w = r at *
  cases r with
  | ok n w' =>
    cases n <;> simp only [Oper.upon] at hh ⊢ <;>
      first
        | exact hh
        | exact letsOut_then hh
        | exact Calls.mono hh (fun e w'' he => by cases e <;> first | exact he | exact letsOut_then he)
  | halt x w' => cases x <;> simp only [Oper.upon] at hh ⊢ <;> first | exact hh | exact letsOut_then hh
theorem wpOp_of_list {i : Nat} {o : Oper} {a : Act} {w : World} {K : Act → World → Prop} (hi : ops[i]? = some o) (h : wpList P ops (Exit.then K Q) [o] a w) : wpOp P ops Q i K a w := by
  unfold wpOp
  rw [hi]
  unfold wpList at h
  simp only
  split
  · rename_i hw
    rw [if_pos hw] at h
    rcases h with h | ⟨h1, h2⟩
    · exact .inl (wp_then (Oper.wp_mono (fun a w h => h) h))
    · exact .inr ⟨h1, letsOut_then h2⟩
  · rename_i hw
    rw [if_neg hw] at h
    exact h

theorem wpAny_inv (I : (Nat → Bool) → Act → World → Prop) (hord : ∀ (i : Nat) (o : Oper), ops[i]? = some o → ∀ e ∈ o.after, e.on < i)
    (hstep : ∀ l a w, I l a w → ∀ (i : Nat) (o : Oper), ops[i]? = some o → l i = false → (∀ e ∈ o.after, Region.binds .any e = true → l e.on = true) → wpList P ops (Exit.then (I (upd l i)) Q) [o] a w)
    (hend : ∀ l a w, I l a w → (∀ i, i < ops.size → l i = true) → Q .normal a w) :
    ∀ (fuel : Nat) (listed : Array Bool) (a : Act) (w : World), listed.size = ops.size → listed.toList.count false ≤ fuel → I (fun j => listed.getD j false) a w → wpAny P .any ops Q fuel listed a w := by
  have hall : ∀ listed : Array Bool, listed.size = ops.size → Region.ready .any ops listed = [] → ∀ i, i < ops.size → listed.getD i false = true := by
    intro listed hs hr i
    induction i using Nat.strongRecOn with
    | _ i ih =>
      intro hi
      rcases hb : listed.getD i false with _ | _
      · exfalso
        have hm : i ∈ Region.ready .any ops listed := by
          unfold Region.ready
          rw [List.mem_filter]
          refine ⟨by simpa using hi, ?_⟩
          have h1 : listed.getD i true = false := by
            rw [Array.getD_eq_getD_getElem?, Array.getElem?_eq_getElem (by omega)] at hb ⊢
            exact hb
          rw [h1, Array.getElem?_eq_getElem hi]
          simp only [Option.map_some, Option.getD_some, Bool.not_false, Bool.true_and]
          rw [Array.all_eq_true']
          intro e he
          have hlt := hord i ops[i] (Array.getElem?_eq_getElem hi) e he
          rw [ih e.on hlt (by omega)]
          simp
        rw [hr] at hm
        cases hm
      · rfl
  intro fuel
  induction fuel with
  | zero =>
    intro listed a w hs hc hI
    have hr : Region.ready .any ops listed = [] := by
      unfold Region.ready
      rw [List.filter_eq_nil_iff]
      intro i hi
      have hi' : i < listed.size := by rw [hs]; simpa using hi
      have : listed.getD i true = true := by
        rw [Array.getD_eq_getD_getElem?, Array.getElem?_eq_getElem hi']
        simp only [Option.getD_some]
        rcases hb : listed[i] with _ | _
        · exfalso
          have hm : false ∈ listed.toList := by rw [← hb]; simp
          have := List.count_pos_iff.2 hm
          omega
        · rfl
      rw [this]; simp
    exact ⟨hr, hend _ a w hI (fun i hi => hall listed hs hr i hi)⟩
  | succ fuel ih =>
    intro listed a w hs hc hI
    refine ⟨fun hr => hend _ a w hI (fun i hi => hall listed hs hr i hi), fun i hi => ?_⟩
    unfold Region.ready at hi
    rw [List.mem_filter] at hi
    obtain ⟨h1, h2⟩ := hi
    have hi' : i < ops.size := by simpa using h1
    have hil : i < listed.size := by omega
    rw [Array.getElem?_eq_getElem hi'] at h2
    simp only [Option.map_some, Option.getD_some, Bool.and_eq_true, Bool.not_eq_true'] at h2
    obtain ⟨h2, h3⟩ := h2
    have hf : listed[i] = false := by
      rw [Array.getD_eq_getD_getElem?, Array.getElem?_eq_getElem hil] at h2
      exact h2
    rw [Array.all_eq_true'] at h3
    have hs := hstep _ a w hI i ops[i] (Array.getElem?_eq_getElem hi') (by rw [Array.getD_eq_getD_getElem?, Array.getElem?_eq_getElem hil]; exact hf) (fun e he hb => by
      have := h3 e he
      rw [hb] at this
      simpa using this)
    have key : ∀ a w, I (upd (fun j => listed.getD j false) i) a w → wpAny P .any ops Q fuel (listed.setIfInBounds i true) a w := by
      intro a w hI'
      refine ih _ a w (by simp; omega) ?_ ?_
      · have hc' : (listed.setIfInBounds i true).toList.count false + 1 = listed.toList.count false := by
          rw [Array.toList_setIfInBounds]
          have := List.count_set (a := true) (b := false) (l := listed.toList) (i := i) (by simpa using hil)
          rw [this]
          have e1 : listed.toList[i]'(by simpa using hil) = false := by simpa using hf
          have hp : 0 < listed.toList.count false := List.count_pos_iff.2 (by rw [← hf]; simp)
          have h1 : (listed.toList[i]'(by simpa using hil) == false) = true := by rw [e1]; rfl
          have h2 : ((true : Bool) == false) = false := rfl
          simp only [h1, h2, if_true, Bool.false_eq_true, if_false]
          omega
        omega
      · have : (fun j => (listed.setIfInBounds i true).getD j false) = upd (fun j => listed.getD j false) i := by
          funext j
          simp only [upd, Array.getD_eq_getD_getElem?, Array.getElem?_setIfInBounds]
          by_cases hj : i = j
          · subst hj; simp [hil]
          · rw [if_neg hj, if_neg (by omega)]
        rw [this]
        exact hI'
    exact wpOp_mono key (wpOp_of_list (Array.getElem?_eq_getElem hi') hs)

theorem wp_region_inv {id : Nat} {a : Act} {w : World} (hm : P.follows .mixedOrders = true) (I : (Nat → Bool) → Act → World → Prop) (hord : ∀ (i : Nat) (o : Oper), ops[i]? = some o → ∀ e ∈ o.after, e.on < i)
    (hstep : ∀ l a w, I l a w → ∀ (i : Nat) (o : Oper), ops[i]? = some o → l i = false → (∀ e ∈ o.after, Region.binds .any e = true → l e.on = true) → wpList P ops (Exit.then (I (upd l i)) Q) [o] a w)
    (hend : ∀ l a w, I l a w → (∀ i, i < ops.size → l i = true) → Q .normal a w) (h0 : I (fun _ => false) a w.drew) : (Code.region id ops true).wp P Q a w := by
  refine wp_region_any hm (wpAny_inv I hord hstep hend _ _ _ _ (by simp) ?_ ?_)
  · simp
  · have : (fun j => (Array.replicate ops.size false).getD j false) = fun _ => false := by
      funext j
      rw [Array.getD_eq_getD_getElem?, Array.getElem?_replicate]
      split <;> rfl
    rw [this]
    exact h0

/-- each edge leads back -/
def ordB (ops : Array Oper) : Bool := (List.range ops.size).all fun i => ((ops[i]?).map (·.after.all fun e => decide (e.on < i))).getD true
theorem ordB_spec (h : ordB ops = true) : ∀ (i : Nat) (o : Oper), ops[i]? = some o → ∀ e ∈ o.after, e.on < i := by
  intro i o hi e he
  unfold ordB at h
  rw [List.all_eq_true] at h
  have := h i (by simpa using (Array.getElem?_eq_some_iff.1 hi).1)
  rw [hi] at this
  simp only [Option.map_some, Option.getD_some] at this
  rw [Array.all_eq_true'] at this
  simpa using this e he
/-- one step for each operation -/
def StepsOf (P : Program) (ops : Array Oper) (Q : Exit → Act → World → Prop) (I : (Nat → Bool) → Act → World → Prop) : List Oper → Nat → Prop
  | [], _ => True
  | o :: rest, i => (∀ l a w, I l a w → l i = false → (∀ e ∈ o.after.toList, Region.binds .any e = true → l e.on = true) → wpList P ops (Exit.then (I (upd l i)) Q) [o] a w) ∧ StepsOf P ops Q I rest (i + 1)
theorem stepsOf_get {I : (Nat → Bool) → Act → World → Prop} : ∀ (l : List Oper) (k : Nat), StepsOf P ops Q I l k → ∀ (i : Nat) (o : Oper), l[i]? = some o →
    ∀ m a w, I m a w → m (k + i) = false → (∀ e ∈ o.after.toList, Region.binds .any e = true → m e.on = true) → wpList P ops (Exit.then (I (upd m (k + i))) Q) [o] a w
  | [], _, _, i, o, hi => by simp at hi
  | x :: xs, k, h, i, o, hi => by
    cases i with
    | zero =>
      simp only [List.getElem?_cons_zero, Option.some.injEq] at hi
      subst hi
      exact h.1
    | succ i =>
      have := stepsOf_get xs (k + 1) h.2 i o (by simpa using hi)
      rw [show k + 1 + i = k + (i + 1) by omega] at this
      exact this
theorem wp_region_steps {id : Nat} {l : List Oper} {a : Act} {w : World} (hm : P.follows .mixedOrders = true) (hB : ordB l.toArray = true) (I : (Nat → Bool) → Act → World → Prop)
    (h0 : I (fun _ => false) a w.drew) (hend : ∀ m a w, I m a w → (∀ i, i < l.length → m i = true) → Q .normal a w) (hs : StepsOf P l.toArray Q I l 0) : (Code.region id l.toArray true).wp P Q a w :=
  wp_region_inv hm I (ordB_spec hB) (fun m a w hI i o hi hl he => by
    have := stepsOf_get l 0 hs i o (by simpa using hi) m a w hI (by rw [Nat.zero_add]; exact hl) (fun e h => he e (by simpa using h))
    rw [Nat.zero_add] at this
    exact this) (fun m a w hI h => hend m a w hI (by simpa using h)) h0
end
end Go.Proofs.Ytfnnoncdocghjaa
namespace Go.Proofs.Ytfnnoncdocghjaa
open Go.RowKit
set_option linter.unusedVariables false
set_option maxRecDepth 100000

theorem blk_newC {w : World} {g : Nat} {t : TypeId} {cs : Array Value} (h : w.heap.size = g) : Blk (w.alloc (.cells cs t)) g t cs := by subst h; exact heap_alloc_new w _
theorem Blk.there {w : World} {g : Nat} {t : TypeId} {cs : Array Value} (h : Blk w g t cs) {n : Nat} (hn : n ≤ cs.size) : w.there g 0 n := fun j hj => by
  rw [Nat.zero_add, h.cell, h.frozen]
  exact ⟨by rw [Array.getElem?_eq_getElem (by omega)]; rfl, rfl⟩
theorem Ext.setCells {w : World} {g : Nat} (hg : w.heap.size ≤ g) : ∀ (vs : List Value) (o : Nat) (W : World), Ext w W → Ext w (W.setCells g o vs)
  | [], _, _, h => h
  | v :: r, o, W, h => by rw [World.setCells]; exact Ext.setCells hg r (o + 1) _ (Below.setCell h (p := ⟨g, o, none⟩) hg v)
abbrev KeyR (w : World) (g : Nat) (a : Dt) : Prop := w.rangeAt g 0 (a.keys.map (Value.int .i64))
def CutRel (w : World) (a b : Dt) (s5 s6 : Value) (wx : World) : Prop :=
  ∃ g5 g6 : Nat, s5 = .pointer (some ⟨g5, 0, none⟩) ∧ s6 = .pointer (some ⟨g6, 0, none⟩) ∧ KeyR wx g5 a ∧ KeyR wx g6 b ∧ Ext w wx
def CmpRelR (w : World) (g5 g6 : Nat) (a b : Dt) (g : Nat) (i : Value) (wr : World) : Prop :=
  ∃ j : Nat, j ≤ 9 ∧ i = .int .i64 j ∧ g = 9 - j ∧ KeyR wr g5 a ∧ KeyR wr g6 b ∧ Ext w wr ∧ cmpL a.keys b.keys = cmpL (a.keys.drop j) (b.keys.drop j)
theorem keysR_at {W : World} {g : Nat} {a : Dt} (h : KeyR W g a) {j : Nat} (hj : j < 9) : W.cell? ⟨g, j, none⟩ = some (.int .i64 (a.keys[j]'hj)) := by
  have hl : j < a.keys.length := hj
  have := h j (.int .i64 (a.keys[j]'hj)) (by rw [List.getElem?_map, List.getElem?_eq_getElem hl]; rfl)
  rwa [Nat.zero_add] at this


def CI (w w0 : World) (a b : Dt) (l : Nat → Bool) (ac : Act) (wr : World) : Prop :=
  ∃ s5 s6 s9 s10 s11 s12 : Value, ∃ g5 g6 : Nat, ac = ⟨#[.agg #[.int .i64 a.proc, .int .i64 a.index, .int .i64 a.ev.kind, .int .i64 a.ev.inc, .int .i64 a.ev.frm, .int .i64 a.ev.sinc, .int .i64 a.ev.sidx, .int .i64 a.ev.ord, .int .i64 a.ev.val], .agg #[.int .i64 b.proc, .int .i64 b.index, .int .i64 b.ev.kind, .int .i64 b.ev.inc, .int .i64 b.ev.frm, .int .i64 b.ev.sinc, .int .i64 b.ev.sidx, .int .i64 b.ev.ord, .int .i64 b.ev.val], .pointer (some ⟨w.heap.size, 0, none⟩), .pointer (some ⟨w.heap.size + 1, 0, none⟩), .int .i64 0, s5, s6, undef, undef, s9, s10, s11, s12, undef, undef, undef, undef, undef, undef, undef, undef, undef, undef, undef, undef, undef, undef], []⟩ ∧
    Ext w0 wr ∧ (l 0 = true → s9 = .agg #[.int .i64 a.proc, .int .i64 a.index, .int .i64 a.ev.kind, .int .i64 a.ev.inc, .int .i64 a.ev.frm, .int .i64 a.ev.sinc, .int .i64 a.ev.sidx, .int .i64 a.ev.ord, .int .i64 a.ev.val]) ∧ (l 1 = true → s10 = .agg #[.int .i64 a.proc, .int .i64 a.index, .int .i64 a.ev.inc, .int .i64 a.ev.kind, .int .i64 a.ev.frm, .int .i64 a.ev.sinc, .int .i64 a.ev.sidx, .int .i64 a.ev.ord, .int .i64 a.ev.val]) ∧ (l 2 = true → s11 = .agg #[.int .i64 b.proc, .int .i64 b.index, .int .i64 b.ev.kind, .int .i64 b.ev.inc, .int .i64 b.ev.frm, .int .i64 b.ev.sinc, .int .i64 b.ev.sidx, .int .i64 b.ev.ord, .int .i64 b.ev.val]) ∧ (l 3 = true → s12 = .agg #[.int .i64 b.proc, .int .i64 b.index, .int .i64 b.ev.inc, .int .i64 b.ev.kind, .int .i64 b.ev.frm, .int .i64 b.ev.sinc, .int .i64 b.ev.sidx, .int .i64 b.ev.ord, .int .i64 b.ev.val]) ∧
    (l 4 = true → s5 = .pointer (some ⟨g5, 0, none⟩) ∧ w0.heap.size ≤ g5 ∧ g5 < wr.heap.size ∧ wr.there g5 0 9) ∧ (l 5 = true → s6 = .pointer (some ⟨g6, 0, none⟩) ∧ w0.heap.size ≤ g6 ∧ g6 < wr.heap.size ∧ wr.there g6 0 9) ∧ (l 4 = true → l 5 = true → g5 ≠ g6) ∧
    (l 6 = true → KeyR wr g5 a) ∧ (l 7 = true → KeyR wr g6 b) ∧ (l 6 = true → l 4 = true ∧ l 5 = true) ∧ (l 7 = true → l 5 = true ∧ l 6 = true)
theorem setCells_size (g : Nat) : ∀ (vs : List Value) (o : Nat) (w : World), (w.setCells g o vs).heap.size = w.heap.size
  | [], _, _ => rfl
  | v :: r, o, w => by rw [World.setCells, setCells_size g r]; simp
theorem there_ext {w w' : World} {g n : Nat} (h : w.there g 0 n) (hg : g < w.heap.size) (hE : Ext w w') : w'.there g 0 n := fun j hj => by
  rw [hE.cell (p := ⟨g, 0 + j, none⟩) hg, hE.frozen (p := ⟨g, 0 + j, none⟩) hg]; exact h j hj
theorem keyR_ext {w w' : World} {g : Nat} {a : Dt} (h : KeyR w g a) (hE : Ext w w') : KeyR w' g a := fun j v hv => by
  have := h j v hv
  rw [hE.cell (p := ⟨g, 0 + j, none⟩) (World.block_lt_of_cell? w _ this)]; exact this

set_option maxRecDepth 100000 in
set_option maxHeartbeats 1600000 in
theorem compare_sl (a b : Dt) (w : World) : Calls Try.prog 63 #[.agg #[.int .i64 a.proc, .int .i64 a.index, .int .i64 a.ev.kind, .int .i64 a.ev.inc, .int .i64 a.ev.frm, .int .i64 a.ev.sinc, .int .i64 a.ev.sidx, .int .i64 a.ev.ord, .int .i64 a.ev.val], .agg #[.int .i64 b.proc, .int .i64 b.index, .int .i64 b.ev.kind, .int .i64 b.ev.inc, .int .i64 b.ev.frm, .int .i64 b.ev.sinc, .int .i64 b.ev.sidx, .int .i64 b.ev.ord, .int .i64 b.ev.val]] w (ExtPost w (.int .i64 (cmpD a b))) := by
  have hBa : Blk ((w.alloc (.cells a.cells.toArray 32)).alloc (.cells b.cells.toArray 32)) w.heap.size 32 a.cells.toArray := (Blk.new w _ _).ext ((Ext.refl _).allocs _)
  have hBb : Blk ((w.alloc (.cells a.cells.toArray 32)).alloc (.cells b.cells.toArray 32)) (w.heap.size + 1) 32 b.cells.toArray := blk_newC (by simp)
  have hXX := ((Ext.refl w).allocs (.cells a.cells.toArray 32)).allocs (.cells b.cells.toArray 32)
  obtain ⟨w0, hw0⟩ : ∃ w0, (w.alloc (.cells a.cells.toArray 32)).alloc (.cells b.cells.toArray 32) = w0 := ⟨_, rfl⟩
  rw [hw0] at hBa hBb hXX
  have HW := Lib.hid hw0
  clear hw0
  go_enter Try.func63, Try.ntmps63
  go_upto_region 1 with fail
  have e := HW.out
  unfold Dt.cells at e
  rw [e]
  clear e HW
  go_cut [5, 6] (fun s5 s6 wx => CutRel w a b s5 s6 wx)
  case first =>
    refine wp_region_steps (by kernel_rfl) (by kernel_rfl) (CI w w0 a b) ?start ?fin ?steps
    case start =>
      exact ⟨undef, undef, undef, undef, undef, undef, 0, 0, rfl, Below.drew (Ext.refl w0), by simp, by simp, by simp, by simp, by simp, by simp, by simp, by simp, by simp, by simp, by simp⟩
    case fin =>
      rintro m ac wr ⟨s5, s6, s9, s10, s11, s12, g5, g6, rfl, hE, h0, h1, h2, h3, h4, h5, h45, h6, h7, e6, e7⟩ hall
      obtain ⟨rfl, _⟩ := h4 (hall 4 (by simp))
      obtain ⟨rfl, _⟩ := h5 (hall 5 (by simp))
      have r1 := h6 (hall 6 (by simp))
      have r2 := h7 (hall 7 (by simp))
      clear h0 h1 h2 h3 h4 h5 h45 h6 h7 e6 e7 hall
      go_wp2_with fail
      go_meet
      exact ⟨g5, g6, rfl, rfl, r1, r2, hXX.trans hE⟩
    case steps =>
      refine ⟨?s0, ?s1, ?s2, ?s3, ?s4, ?s5, ?s6, ?s7, trivial⟩
      case s0 =>
        rintro m ac wr ⟨s5, s6, s9, s10, s11, s12, g5, g6, rfl, hE, h0, h1, h2, h3, h4, h5, h45, h6, h7, e6, e7⟩ hl he
        clear he
        obtain ⟨b0, b1, b2, b3, b4, b5, b6, b7, b8⟩ := blk9 (hBa.ext hE)
        have H0_ := Lib.hid h0
        clear h0
        have H1_ := Lib.hid h1
        clear h1
        have H2_ := Lib.hid h2
        clear h2
        have H3_ := Lib.hid h3
        clear h3
        have H4_ := Lib.hid h4
        clear h4
        have H5_ := Lib.hid h5
        clear h5
        have H45_ := Lib.hid h45
        clear h45
        have H6_ := Lib.hid h6
        clear h6
        have H7_ := Lib.hid h7
        clear h7
        have E6_ := Lib.hid e6
        clear e6
        have E7_ := Lib.hid e7
        clear e7
        have HL_ := Lib.hid hl
        clear hl
        go_wp2_with fail
        refine ⟨s5, s6, _, s10, s11, s12, g5, g6, rfl, hE, fun _ => rfl, fun h => H1_.out h, fun h => H2_.out h, fun h => H3_.out h, fun h => (H4_.out h).imp_right fun q => ⟨q.1, Nat.lt_of_lt_of_le q.2.1 (Below.size (Ext.refl wr)), there_ext q.2.2 q.2.1 (Ext.refl wr)⟩, fun h => (H5_.out h).imp_right fun q => ⟨q.1, Nat.lt_of_lt_of_le q.2.1 (Below.size (Ext.refl wr)), there_ext q.2.2 q.2.1 (Ext.refl wr)⟩, fun h h' => H45_.out h h', fun h => keyR_ext (H6_.out h) (Ext.refl wr), fun h => keyR_ext (H7_.out h) (Ext.refl wr), fun h => E6_.out h, fun h => E7_.out h⟩
      case s1 =>
        rintro m ac wr ⟨s5, s6, s9, s10, s11, s12, g5, g6, rfl, hE, h0, h1, h2, h3, h4, h5, h45, h6, h7, e6, e7⟩ hl he
        simp [Region.binds] at he
        obtain rfl := h0 he
        have H0_ := Lib.hid h0
        clear h0
        have H1_ := Lib.hid h1
        clear h1
        have H2_ := Lib.hid h2
        clear h2
        have H3_ := Lib.hid h3
        clear h3
        have H4_ := Lib.hid h4
        clear h4
        have H5_ := Lib.hid h5
        clear h5
        have H45_ := Lib.hid h45
        clear h45
        have H6_ := Lib.hid h6
        clear h6
        have H7_ := Lib.hid h7
        clear h7
        have E6_ := Lib.hid e6
        clear e6
        have E7_ := Lib.hid e7
        clear e7
        have HL_ := Lib.hid hl
        clear hl
        go_wp2_with (go_at_call 76; refine (fields_any a _).mono ?_; rintro e w2 ⟨rfl, hE2⟩)
        refine ⟨s5, s6, _, _, s11, s12, g5, g6, rfl, hE.trans hE2, fun _ => rfl, fun _ => rfl, fun h => H2_.out h, fun h => H3_.out h, fun h => (H4_.out h).imp_right fun q => ⟨q.1, Nat.lt_of_lt_of_le q.2.1 (Below.size hE2), there_ext q.2.2 q.2.1 hE2⟩, fun h => (H5_.out h).imp_right fun q => ⟨q.1, Nat.lt_of_lt_of_le q.2.1 (Below.size hE2), there_ext q.2.2 q.2.1 hE2⟩, fun h h' => H45_.out h h', fun h => keyR_ext (H6_.out h) hE2, fun h => keyR_ext (H7_.out h) hE2, fun h => E6_.out h, fun h => E7_.out h⟩
      case s2 =>
        rintro m ac wr ⟨s5, s6, s9, s10, s11, s12, g5, g6, rfl, hE, h0, h1, h2, h3, h4, h5, h45, h6, h7, e6, e7⟩ hl he
        clear he
        obtain ⟨b0, b1, b2, b3, b4, b5, b6, b7, b8⟩ := blk9 (hBb.ext hE)
        have H0_ := Lib.hid h0
        clear h0
        have H1_ := Lib.hid h1
        clear h1
        have H2_ := Lib.hid h2
        clear h2
        have H3_ := Lib.hid h3
        clear h3
        have H4_ := Lib.hid h4
        clear h4
        have H5_ := Lib.hid h5
        clear h5
        have H45_ := Lib.hid h45
        clear h45
        have H6_ := Lib.hid h6
        clear h6
        have H7_ := Lib.hid h7
        clear h7
        have E6_ := Lib.hid e6
        clear e6
        have E7_ := Lib.hid e7
        clear e7
        have HL_ := Lib.hid hl
        clear hl
        go_wp2_with fail
        refine ⟨s5, s6, s9, s10, _, s12, g5, g6, rfl, hE, fun h => H0_.out h, fun h => H1_.out h, fun _ => rfl, fun h => H3_.out h, fun h => (H4_.out h).imp_right fun q => ⟨q.1, Nat.lt_of_lt_of_le q.2.1 (Below.size (Ext.refl wr)), there_ext q.2.2 q.2.1 (Ext.refl wr)⟩, fun h => (H5_.out h).imp_right fun q => ⟨q.1, Nat.lt_of_lt_of_le q.2.1 (Below.size (Ext.refl wr)), there_ext q.2.2 q.2.1 (Ext.refl wr)⟩, fun h h' => H45_.out h h', fun h => keyR_ext (H6_.out h) (Ext.refl wr), fun h => keyR_ext (H7_.out h) (Ext.refl wr), fun h => E6_.out h, fun h => E7_.out h⟩
      case s3 =>
        rintro m ac wr ⟨s5, s6, s9, s10, s11, s12, g5, g6, rfl, hE, h0, h1, h2, h3, h4, h5, h45, h6, h7, e6, e7⟩ hl he
        simp [Region.binds] at he
        obtain rfl := h2 he.1
        have H0_ := Lib.hid h0
        clear h0
        have H1_ := Lib.hid h1
        clear h1
        have H2_ := Lib.hid h2
        clear h2
        have H3_ := Lib.hid h3
        clear h3
        have H4_ := Lib.hid h4
        clear h4
        have H5_ := Lib.hid h5
        clear h5
        have H45_ := Lib.hid h45
        clear h45
        have H6_ := Lib.hid h6
        clear h6
        have H7_ := Lib.hid h7
        clear h7
        have E6_ := Lib.hid e6
        clear e6
        have E7_ := Lib.hid e7
        clear e7
        have HL_ := Lib.hid hl
        clear hl
        go_wp2_with (go_at_call 76; refine (fields_any b _).mono ?_; rintro e w2 ⟨rfl, hE2⟩)
        refine ⟨s5, s6, s9, s10, _, _, g5, g6, rfl, hE.trans hE2, fun h => H0_.out h, fun h => H1_.out h, fun _ => rfl, fun _ => rfl, fun h => (H4_.out h).imp_right fun q => ⟨q.1, Nat.lt_of_lt_of_le q.2.1 (Below.size hE2), there_ext q.2.2 q.2.1 hE2⟩, fun h => (H5_.out h).imp_right fun q => ⟨q.1, Nat.lt_of_lt_of_le q.2.1 (Below.size hE2), there_ext q.2.2 q.2.1 hE2⟩, fun h h' => H45_.out h h', fun h => keyR_ext (H6_.out h) hE2, fun h => keyR_ext (H7_.out h) hE2, fun h => E6_.out h, fun h => E7_.out h⟩
      case s4 =>
        rintro m ac wr ⟨s5, s6, s9, s10, s11, s12, g5, g6, rfl, hE, h0, h1, h2, h3, h4, h5, h45, h6, h7, e6, e7⟩ hl he
        clear he
        have H0_ := Lib.hid h0
        clear h0
        have H1_ := Lib.hid h1
        clear h1
        have H2_ := Lib.hid h2
        clear h2
        have H3_ := Lib.hid h3
        clear h3
        have H4_ := Lib.hid h4
        clear h4
        have H5_ := Lib.hid h5
        clear h5
        have H45_ := Lib.hid h45
        clear h45
        have H6_ := Lib.hid h6
        clear h6
        have H7_ := Lib.hid h7
        clear h7
        have E6_ := Lib.hid e6
        clear e6
        have E7_ := Lib.hid e7
        clear e7
        have HL_ := Lib.hid hl
        clear hl
        go_wp2_with fail
        refine ⟨_, s6, s9, s10, s11, s12, wr.heap.size, g6, rfl, hE.allocs _, fun h => H0_.out h, fun h => H1_.out h, fun h => H2_.out h, fun h => H3_.out h, fun _ => ⟨rfl, hE.size, by simp, (Blk.new wr 101 #[.int .i64 0, .int .i64 0, .int .i64 0, .int .i64 0, .int .i64 0, .int .i64 0, .int .i64 0, .int .i64 0, .int .i64 0]).there (Nat.le_refl 9)⟩, fun h => (H5_.out h).imp_right fun q => ⟨q.1, Nat.lt_of_lt_of_le q.2.1 (Below.size ((Ext.refl wr).allocs (.cells #[.int .i64 0, .int .i64 0, .int .i64 0, .int .i64 0, .int .i64 0, .int .i64 0, .int .i64 0, .int .i64 0, .int .i64 0] 101))), there_ext q.2.2 q.2.1 ((Ext.refl wr).allocs (.cells #[.int .i64 0, .int .i64 0, .int .i64 0, .int .i64 0, .int .i64 0, .int .i64 0, .int .i64 0, .int .i64 0, .int .i64 0] 101))⟩, fun _ h' => Nat.ne_of_gt (H5_.out h').2.2.1, fun h => absurd (E6_.out h).1 (by rw [HL_.out]; simp), fun h => keyR_ext (H7_.out h) ((Ext.refl wr).allocs (.cells #[.int .i64 0, .int .i64 0, .int .i64 0, .int .i64 0, .int .i64 0, .int .i64 0, .int .i64 0, .int .i64 0, .int .i64 0] 101)), fun h => ⟨rfl, (E6_.out h).2⟩, fun h => E7_.out h⟩
      case s5 =>
        rintro m ac wr ⟨s5, s6, s9, s10, s11, s12, g5, g6, rfl, hE, h0, h1, h2, h3, h4, h5, h45, h6, h7, e6, e7⟩ hl he
        clear he
        have H0_ := Lib.hid h0
        clear h0
        have H1_ := Lib.hid h1
        clear h1
        have H2_ := Lib.hid h2
        clear h2
        have H3_ := Lib.hid h3
        clear h3
        have H4_ := Lib.hid h4
        clear h4
        have H5_ := Lib.hid h5
        clear h5
        have H45_ := Lib.hid h45
        clear h45
        have H6_ := Lib.hid h6
        clear h6
        have H7_ := Lib.hid h7
        clear h7
        have E6_ := Lib.hid e6
        clear e6
        have E7_ := Lib.hid e7
        clear e7
        have HL_ := Lib.hid hl
        clear hl
        go_wp2_with fail
        refine ⟨s5, _, s9, s10, s11, s12, g5, wr.heap.size, rfl, hE.allocs _, fun h => H0_.out h, fun h => H1_.out h, fun h => H2_.out h, fun h => H3_.out h, fun h => (H4_.out h).imp_right fun q => ⟨q.1, Nat.lt_of_lt_of_le q.2.1 (Below.size ((Ext.refl wr).allocs (.cells #[.int .i64 0, .int .i64 0, .int .i64 0, .int .i64 0, .int .i64 0, .int .i64 0, .int .i64 0, .int .i64 0, .int .i64 0] 101))), there_ext q.2.2 q.2.1 ((Ext.refl wr).allocs (.cells #[.int .i64 0, .int .i64 0, .int .i64 0, .int .i64 0, .int .i64 0, .int .i64 0, .int .i64 0, .int .i64 0, .int .i64 0] 101))⟩, fun _ => ⟨rfl, hE.size, by simp, (Blk.new wr 101 #[.int .i64 0, .int .i64 0, .int .i64 0, .int .i64 0, .int .i64 0, .int .i64 0, .int .i64 0, .int .i64 0, .int .i64 0]).there (Nat.le_refl 9)⟩, fun h' _ => Nat.ne_of_lt (H4_.out h').2.2.1, fun h => keyR_ext (H6_.out h) ((Ext.refl wr).allocs (.cells #[.int .i64 0, .int .i64 0, .int .i64 0, .int .i64 0, .int .i64 0, .int .i64 0, .int .i64 0, .int .i64 0, .int .i64 0] 101)), fun h => absurd (E7_.out h).1 (by rw [HL_.out]; simp), fun h => ⟨(E6_.out h).1, rfl⟩, fun h => ⟨rfl, (E7_.out h).2⟩⟩
      case s6 =>
        rintro m ac wr ⟨s5, s6, s9, s10, s11, s12, g5, g6, rfl, hE, h0, h1, h2, h3, h4, h5, h45, h6, h7, e6, e7⟩ hl he
        simp [Region.binds] at he
        obtain ⟨he4, he1, _, _, _, _, he5⟩ := he
        obtain rfl := h1 he1
        obtain ⟨rfl, g51, g52, g53⟩ := h4 he4
        have q5 := h5 he5
        have hne := h45 he4 he5
        have H0_ := Lib.hid h0
        clear h0
        have H1_ := Lib.hid h1
        clear h1
        have H2_ := Lib.hid h2
        clear h2
        have H3_ := Lib.hid h3
        clear h3
        have H4_ := Lib.hid h4
        clear h4
        have H5_ := Lib.hid h5
        clear h5
        have H45_ := Lib.hid h45
        clear h45
        have H6_ := Lib.hid h6
        clear h6
        have H7_ := Lib.hid h7
        clear h7
        have E6_ := Lib.hid e6
        clear e6
        have E7_ := Lib.hid e7
        clear e7
        refine wpList_store_mid rfl 101 _ _ rfl g5 0 #[.int .i64 a.proc, .int .i64 a.index, .int .i64 a.ev.inc, .int .i64 a.ev.kind, .int .i64 a.ev.frm, .int .i64 a.ev.sinc, .int .i64 a.ev.sidx, .int .i64 a.ev.ord, .int .i64 a.ev.val] rfl rfl g53 (by kernel_rfl) (by simp [Value.oneCell']) ?_
        refine ⟨_, s6, s9, _, s11, s12, g5, g6, rfl, Ext.setCells g51 _ _ _ hE, fun h => H0_.out h, fun h => H1_.out h, fun h => H2_.out h, fun h => H3_.out h, fun _ => ⟨rfl, g51, ?_, World.there_setCells g53 _ _ _⟩, fun _ => ⟨q5.1, q5.2.1, ?_, World.there_setCells q5.2.2.2 _ _ _⟩, fun _ _ => hne, fun _ => World.rangeAt_setCells_same _ _ _ _ g53, fun h => absurd (E7_.out h).2 (by rw [hl]; simp), fun _ => ⟨he4, he5⟩, fun h => ⟨he5, rfl⟩⟩
        · rw [setCells_size]; exact g52
        · rw [setCells_size]; exact q5.2.2.1
      case s7 =>
        rintro m ac wr ⟨s5, s6, s9, s10, s11, s12, g5, g6, rfl, hE, h0, h1, h2, h3, h4, h5, h45, h6, h7, e6, e7⟩ hl he
        simp [Region.binds] at he
        obtain ⟨he5, he3, he6, _, _, _, _, he4, _, _⟩ := he
        obtain rfl := h3 he3
        obtain ⟨rfl, g61, g62, g63⟩ := h5 he5
        have q4 := h4 he4
        have q6 := h6 he6
        have hne := h45 he4 he5
        have H0_ := Lib.hid h0
        clear h0
        have H1_ := Lib.hid h1
        clear h1
        have H2_ := Lib.hid h2
        clear h2
        have H3_ := Lib.hid h3
        clear h3
        have H4_ := Lib.hid h4
        clear h4
        have H5_ := Lib.hid h5
        clear h5
        have H45_ := Lib.hid h45
        clear h45
        have H6_ := Lib.hid h6
        clear h6
        have H7_ := Lib.hid h7
        clear h7
        have E6_ := Lib.hid e6
        clear e6
        have E7_ := Lib.hid e7
        clear e7
        refine wpList_store_mid rfl 101 _ _ rfl g6 0 #[.int .i64 b.proc, .int .i64 b.index, .int .i64 b.ev.inc, .int .i64 b.ev.kind, .int .i64 b.ev.frm, .int .i64 b.ev.sinc, .int .i64 b.ev.sidx, .int .i64 b.ev.ord, .int .i64 b.ev.val] rfl rfl g63 (by kernel_rfl) (by simp [Value.oneCell']) ?_
        refine ⟨s5, _, s9, s10, s11, _, g5, g6, rfl, Ext.setCells g61 _ _ _ hE, fun h => H0_.out h, fun h => H1_.out h, fun h => H2_.out h, fun h => H3_.out h, fun _ => ⟨q4.1, q4.2.1, ?_, World.there_setCells q4.2.2.2 _ _ _⟩, fun _ => ⟨rfl, g61, ?_, World.there_setCells g63 _ _ _⟩, fun _ _ => hne, fun _ => World.rangeAt_setCells_apart q6 _ _ _ (.inl hne), fun _ => World.rangeAt_setCells_same _ _ _ _ g63, fun _ => ⟨he4, he5⟩, fun _ => ⟨he5, he6⟩⟩
        · rw [setCells_size]; exact q4.2.2.1
        · rw [setCells_size]; exact g62
  case rest =>
    obtain ⟨g5, g6, rfl, rfl, hB5, hB6, hX⟩ := hcut
    clear hBa hBb hXX
    go_wp2_with fail
    go_loopg [13] 9 (fun g i wr => CmpRelR w g5 g6 a b g i wr)
    case atStart => exact ⟨0, Nat.zero_le _, rfl, rfl, hB5, hB6, hX, rfl⟩
    case round =>
      clear hB5 hB6 hX
      obtain ⟨j, hj, rfl, rfl, hB5, hB6, hX, hEq⟩ := hrel
      have HQ := Lib.hid hEq
      clear hEq
      by_cases hlt : j < 9
      · have c5 := keysR_at hB5 hlt
        have c6 := keysR_at hB6 hlt
        have HS := Lib.hid (cmp_step a b j hlt)
        generalize a.keys[j]'hlt = x at *
        generalize b.keys[j]'hlt = y at *
        have hji : (j : Int) < 9 := by omega
        have hj0 : (0 : Int) ≤ (j : Int) := by omega
        go_wp2_with fail
        go_quiet ((go_at_call 77; exact Calls.quiet_of_same ((cmpInt_any x y _).mono fun _ _ h => ⟨h.1, h.2.symm⟩)))
        by_cases h0 : cmpI x y = 0
        · have h0' : (cmpI x y != 0) = false := by simp [h0]
          have H0 := Lib.hid h0
          clear h0
          generalize cmpI x y = z at *
          go_wp2_with fail
          go_roundg (9 - (j + 1))
          case measure => omega
          case rel => exact ⟨j + 1, by omega, by go_num, rfl, hB5, hB6, hX.drewN _, by rw [HQ.out, HS.out, if_pos H0.out]⟩
        · have h0' : (cmpI x y != 0) = true := by simp [h0]
          have H0 := Lib.hid h0
          clear h0
          generalize cmpI x y = z at *
          go_wp2_with fail
          go_ret
          refine ⟨ret_int ?_, hX.drewN _⟩
          show z = cmpL a.keys b.keys
          rw [HQ.out, HS.out, if_neg H0.out]
      · obtain rfl : j = 9 := by omega
        go_wp2_with fail
        go_ret
        refine ⟨ret_int ?_, hX⟩
        show 0 = cmpL a.keys b.keys
        rw [HQ.out]
        rfl
end Go.Proofs.Ytfnnoncdocghjaa
