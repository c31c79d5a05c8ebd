/- Rows of determinants and of known ones; spread, safe. No statement of the seat is proved here. -/
import Derived.Test.YtcljdkjlfciacaaHasC
import Derived.Test.YtcljdkjlfciacaaSched
import Derived.Shelf.Abstract
import Derived.Test.YtcljdkjlfciacaaSearch2
namespace Go.Proofs.Ytcljdkjlfciacaa
open Go.RowKit Go.Shelf
set_option linter.unusedVariables false

/-- a row of a list of lists -/
structure Gr (α : Type) where
  A : Option Addr
  c : Nat
  l : List α
def Gr.cells {α : Type} (r : Gr α) : List Value := [.slice r.A r.l.length r.c]
theorem Gr.len {α : Type} (r : Gr α) : r.cells.length = 1 := rfl
theorem Gr.one {α : Type} (r : Gr α) : ∀ u ∈ r.cells, u.oneCell' = true := by simp [Gr.cells, Value.oneCell']
def GSeg {α : Type} (f : α → List Value) (s : Nat) (W : World) (A : Option Addr) (R : List (Gr α)) : Prop := Seg W 1 A R.length (R.flatMap Gr.cells) ∧ ∀ r ∈ R, Seg W s r.A r.l.length (r.l.flatMap f) ∧ r.l.length ≤ r.c ∧ r.c ≤ maxLen
section
variable {α : Type} {f : α → List Value} {s : Nat} {W W' : World} {A : Option Addr} {R : List (Gr α)}
theorem GSeg.ext (h : GSeg f s W A R) (hE : Ext W W') : GSeg f s W' A R := ⟨h.1.ext hE, fun r hr => ⟨(h.2 r hr).1.ext hE, (h.2 r hr).2⟩⟩
theorem GSeg.at_ (h : GSeg f s W A R) {q : Nat} (hq : q < R.length) : ∃ b off, A = some ⟨b, off, none⟩ ∧ W.cell? ⟨b, off + q, none⟩ = some (.slice R[q].A R[q].l.length R[q].c) := by
  obtain ⟨b, off, hA, _, hc⟩ := Seg.at_ h.1 Gr.len hq
  have := hc 0 _ rfl
  exact ⟨b, off, hA, by simpa using this⟩
theorem GSeg.row (h : GSeg f s W A R) {q : Nat} (hq : q < R.length) : Seg W s R[q].A R[q].l.length (R[q].l.flatMap f) ∧ R[q].l.length ≤ R[q].c ∧ R[q].c ≤ maxLen := h.2 _ (List.getElem_mem hq)
theorem GSeg.nil : GSeg f s W none ([] : List (Gr α)) := ⟨Seg.nil, fun r hr => by cases hr⟩
end
/-- a determinant and who holds it -/
structure Kn where
  d : Dt
  h : Int
def Kn.cells (k : Kn) : List Value := [.int .i64 k.d.proc, .int .i64 k.d.index, .int .i64 k.d.ev.kind, .int .i64 k.d.ev.inc, .int .i64 k.d.ev.frm, .int .i64 k.d.ev.sinc, .int .i64 k.d.ev.sidx, .int .i64 k.d.ev.ord, .int .i64 k.d.ev.val, .int .u32 k.h]
theorem Kn.len (k : Kn) : k.cells.length = 10 := rfl
theorem Kn.one (k : Kn) : ∀ u ∈ k.cells, u.oneCell' = true := by simp [Kn.cells, Value.oneCell']
abbrev KnSeg (w : World) (A : Option Addr) (l : List Kn) : Prop := Seg w 10 A l.length (l.flatMap Kn.cells)
theorem Kn.at_ {w : World} {A : Option Addr} {l : List Kn} (h : KnSeg w A l) {j : Nat} (hj : j < l.length) :
    ∃ b off, A = some ⟨b, off, none⟩ ∧ w.cell? ⟨b, off + j * 10, none⟩ = some (.int .i64 l[j].d.proc) ∧ w.cell? ⟨b, off + j * 10 + 1, none⟩ = some (.int .i64 l[j].d.index) ∧ w.cell? ⟨b, off + j * 10 + 2, none⟩ = some (.int .i64 l[j].d.ev.kind) ∧ w.cell? ⟨b, off + j * 10 + 3, none⟩ = some (.int .i64 l[j].d.ev.inc) ∧ w.cell? ⟨b, off + j * 10 + 4, none⟩ = some (.int .i64 l[j].d.ev.frm) ∧ w.cell? ⟨b, off + j * 10 + 5, none⟩ = some (.int .i64 l[j].d.ev.sinc) ∧ w.cell? ⟨b, off + j * 10 + 6, none⟩ = some (.int .i64 l[j].d.ev.sidx) ∧ w.cell? ⟨b, off + j * 10 + 7, none⟩ = some (.int .i64 l[j].d.ev.ord) ∧ w.cell? ⟨b, off + j * 10 + 8, none⟩ = some (.int .i64 l[j].d.ev.val) ∧ w.cell? ⟨b, off + j * 10 + 9, none⟩ = some (.int .u32 l[j].h) := by
  obtain ⟨b, off, hA, _, hc⟩ := Seg.at_ h Kn.len hj
  exact ⟨b, off, hA, hc 0 _ rfl, hc 1 _ rfl, hc 2 _ rfl, hc 3 _ rfl, hc 4 _ rfl, hc 5 _ rfl, hc 6 _ rfl, hc 7 _ rfl, hc 8 _ rfl, hc 9 _ rfl⟩

/-- the first event that meets a condition -/
def FirstK (p : Kn → Bool) (es : List Kn) (i : Int) : Prop := (i = -1 ∧ ∀ e ∈ es, p e = false) ∨ ∃ j : Nat, i = (j : Int) ∧ j < es.length ∧ (∀ e, es[j]? = some e → p e = true) ∧ ∀ k e, k < j → es[k]? = some e → p e = false
def IdxPostK (p : Kn → Bool) (es : List Kn) (w : World) (e : Ending) (w' : World) : Prop := ∃ i : Int, e = .returned (.int .i64 i) ∧ FirstK p es i ∧ Ext w w'
set_option maxHeartbeats 1600000 in
theorem index_known (g : Nat) (cb : Array Value) (p : Kn → Bool) (A : Option Addr) (c : Nat) (es : List Kn) (w : World) (hs : KnSeg w A es) (hl : (es.length : Int) ≤ 9223372036854775807) (eg : ∀ args w, (callFunc g args).run Try.prog w = .ok (.enter g args) w)
    (hf : ∀ (W : World), Ext w W → ∀ e ∈ es, Calls Try.prog g (#[.agg #[.int .i64 e.d.proc, .int .i64 e.d.index, .int .i64 e.d.ev.kind, .int .i64 e.d.ev.inc, .int .i64 e.d.ev.frm, .int .i64 e.d.ev.sinc, .int .i64 e.d.ev.sidx, .int .i64 e.d.ev.ord, .int .i64 e.d.ev.val, .int .u32 e.h]] ++ cb) W (ExtPost W (.bool (p e)))) :
    Calls Try.prog 67 #[.slice A es.length c, .func (.func g) #[] cb] w (IdxPostK p es w) := by
  have HF := Lib.hid hf
  have HS := Lib.hid hs
  clear hf hs
  go_enter Try.func67, Try.ntmps67
  go_wp2_with fail
  go_loopg [8] es.length (fun gg iv wr => ∃ k : Nat, k ≤ es.length ∧ iv = .int .i64 k ∧ gg = es.length - k ∧ Ext w wr ∧ Hid (∀ j e, j < k → es[j]? = some e → p e = false))
  case atStart => exact ⟨0, Nat.zero_le _, rfl, rfl, Ext.refl w, fun j e h => absurd h (Nat.not_lt_zero _)⟩
  case round =>
    obtain ⟨k, hk, rfl, rfl, hE, HI⟩ := hrel
    by_cases hlt : k < es.length
    · obtain ⟨b, o, rfl, p0, p1, p2, p3, p4, p5, p6, p7, p8, p9⟩ := Kn.at_ (HS.out.ext hE) hlt
      have hmem := List.getElem_mem hlt
      have HEK : Hid (es[k]? = some es[k]) := List.getElem?_eq_getElem hlt
      have hc := HF.out wr hE _ hmem
      generalize es[k] = e at *
      have hk0 : (0 : Int) ≤ (k : Int) := by omega
      have hk1 : (k : Int) < (es.length : Int) := by omega
      cases hp : p e <;> rw [hp] at hc
      · have HN : Hid (∀ j e, j < k + 1 → es[j]? = some e → p e = false) := fun j e' hj he => by
          by_cases h : j = k
          · subst h
            rw [HEK.out] at he
            injection he with he
            rw [← he]; exact hp
          · exact HI.out j e' (by omega) he
        clear hp HI
        go_wp2_with (go_at_fn g; refine hc.mono ?_; rintro e w' ⟨rfl, hE'⟩)
        go_roundg (es.length - (k + 1))
        case measure => omega
        case rel => exact ⟨k + 1, by omega, by go_num, rfl, hE.trans hE', HN⟩
      · have HP : Hid (FirstK p es (k : Int)) := .inr ⟨k, rfl, hlt, fun e' he => by rw [HEK.out] at he; injection he with he; rw [← he]; exact hp, fun j e' hj he => HI.out j e' hj he⟩
        clear hp
        go_wp2_with (go_at_fn g; refine hc.mono ?_; rintro e w' ⟨rfl, hE'⟩)
        go_ret
        exact ⟨_, rfl, HP.out, hE.trans hE'⟩
    · go_wp2_with fail
      go_ret
      exact ⟨-1, rfl, .inl ⟨rfl, fun e he => by
        obtain ⟨j, hj⟩ := List.mem_iff_getElem?.1 he
        exact HI.out j e (by have := (List.getElem?_eq_some_iff.1 hj).1; omega) hj⟩, hE⟩


def hasK (l : List Kn) (d : Dt) : Bool := l.any fun k => k.d.same d
theorem first_any {p : Kn → Bool} {l : List Kn} {i : Int} (h : FirstK p l i) : decide (0 ≤ i) = l.any p := by
  rcases h with ⟨rfl, h⟩ | ⟨j, rfl, hj, hp, _⟩
  · rw [decide_eq_false (by omega)]
    symm
    rw [List.any_eq_false]
    intro x hx
    simp [h x hx]
  · rw [decide_eq_true (by omega)]
    symm
    rw [List.any_eq_true]
    exact ⟨l[j], List.getElem_mem hj, hp _ (List.getElem?_eq_getElem hj)⟩
set_option maxHeartbeats 1600000 in
theorem spread_closure (k : Kn) (b : Nat) (d : Dt) (w : World) (hB : Blk w b 72 d.cells.toArray) :
    Calls Try.prog 57 #[.agg #[.int .i64 k.d.proc, .int .i64 k.d.index, .int .i64 k.d.ev.kind, .int .i64 k.d.ev.inc, .int .i64 k.d.ev.frm, .int .i64 k.d.ev.sinc, .int .i64 k.d.ev.sidx, .int .i64 k.d.ev.ord, .int .i64 k.d.ev.val, .int .u32 k.h], .pointer (some ⟨b, 0, none⟩)] w (ExtPost w (.bool (k.d.same d))) := by
  have hX := (Ext.refl w).allocs (.cells #[.int .i64 k.d.proc, .int .i64 k.d.index, .int .i64 k.d.ev.kind, .int .i64 k.d.ev.inc, .int .i64 k.d.ev.frm, .int .i64 k.d.ev.sinc, .int .i64 k.d.ev.sidx, .int .i64 k.d.ev.ord, .int .i64 k.d.ev.val, .int .u32 k.h] 77)
  have heq := fun w => eql_det w k.d d
  unfold Dt.val at heq
  obtain ⟨b0, b1, b2, b3, b4, b5, b6, b7, b8⟩ := blk9 (hB.ext hX)
  obtain ⟨z, hz⟩ : ∃ z, k.d.same d = z := ⟨_, rfl⟩
  rw [hz] at heq ⊢
  clear hz
  go_enter Try.func57, Try.ntmps57
  go_wp2_with fail
  go_ret
  exact ⟨rfl, hX⟩
set_option maxHeartbeats 800000 in
theorem contains_known (g : Nat) (cb : Array Value) (p : Kn → Bool) (A : Option Addr) (c : Nat) (es : List Kn) (w : World) (hs : KnSeg w A es) (hl : (es.length : Int) ≤ 9223372036854775807) (eg : ∀ args w, (callFunc g args).run Try.prog w = .ok (.enter g args) w)
    (hf : ∀ (W : World), Ext w W → ∀ e ∈ es, Calls Try.prog g (#[.agg #[.int .i64 e.d.proc, .int .i64 e.d.index, .int .i64 e.d.ev.kind, .int .i64 e.d.ev.inc, .int .i64 e.d.ev.frm, .int .i64 e.d.ev.sinc, .int .i64 e.d.ev.sidx, .int .i64 e.d.ev.ord, .int .i64 e.d.ev.val, .int .u32 e.h]] ++ cb) W (ExtPost W (.bool (p e)))) :
    Calls Try.prog 56 #[.slice A es.length c, .func (.func g) #[] cb] w (ExtPost w (.bool (es.any p))) := by
  have HI := Lib.hid (index_known g cb p A c es w hs hl eg hf)
  obtain ⟨z, hz⟩ : ∃ z, es.any p = z := ⟨_, rfl⟩
  have HZ := Lib.hid hz
  rw [hz]
  clear hf hz hs
  go_enter Try.func56, Try.ntmps56
  go_wp2_with fail
  refine HI.out.mono ?_
  rintro e w1 ⟨i, rfl, hFi, hE⟩
  have hd := first_any hFi
  rw [HZ.out] at hd
  clear hFi HI
  go_wp2_with fail
  go_ret
  exact ⟨rfl, hE⟩
def cntK (K : List (Gr Kn)) (d : Dt) : Nat := (K.filter fun r => hasK r.l d).length
theorem cntK_take (K : List (Gr Kn)) (d : Dt) (j : Nat) (hj : j < K.length) : cntK (K.take (j + 1)) d = if hasK K[j].l d then cntK (K.take j) d + 1 else cntK (K.take j) d := by
  unfold cntK
  rw [List.take_succ_eq_append_getElem hj, List.filter_append]
  by_cases h : hasK K[j].l d = true
  · rw [if_pos h]; simp [h]
  · rw [if_neg h]; simp [h]
theorem cntK_le (K : List (Gr Kn)) (d : Dt) : cntK K d ≤ K.length := List.length_filter_le _ _
set_option maxRecDepth 100000 in
set_option maxHeartbeats 1600000 in
theorem spread_any (A : Option Addr) (cA : Nat) (K : List (Gr Kn)) (d : Dt) (faults : Int) (w : World) (hs : GSeg Kn.cells 10 w A K) (hn : K.length ≤ 1000) :
    Calls Try.prog 42 #[.slice A K.length cA, .agg #[.int .i64 d.proc, .int .i64 d.index, .int .i64 d.ev.kind, .int .i64 d.ev.inc, .int .i64 d.ev.frm, .int .i64 d.ev.sinc, .int .i64 d.ev.sidx, .int .i64 d.ev.ord, .int .i64 d.ev.val], .int .i64 faults] w (ExtPost w (.bool (decide (faults < (cntK K d : Int))))) := by
  have hX := (Ext.refl w).allocs (.cells #[.int .i64 d.proc, .int .i64 d.index, .int .i64 d.ev.kind, .int .i64 d.ev.inc, .int .i64 d.ev.frm, .int .i64 d.ev.sinc, .int .i64 d.ev.sidx, .int .i64 d.ev.ord, .int .i64 d.ev.val] 72)
  have hB : Blk (w.alloc (.cells #[.int .i64 d.proc, .int .i64 d.index, .int .i64 d.ev.kind, .int .i64 d.ev.inc, .int .i64 d.ev.frm, .int .i64 d.ev.sinc, .int .i64 d.ev.sidx, .int .i64 d.ev.ord, .int .i64 d.ev.val] 72)) w.heap.size 72 d.cells.toArray := Blk.new w _ _
  have HS := Lib.hid (hs.ext hX)
  obtain ⟨gb, hgb⟩ : ∃ gb, w.heap.size = gb := ⟨_, rfl⟩
  obtain ⟨w1, hw1⟩ : ∃ w1, w.alloc (.cells #[.int .i64 d.proc, .int .i64 d.index, .int .i64 d.ev.kind, .int .i64 d.ev.inc, .int .i64 d.ev.frm, .int .i64 d.ev.sinc, .int .i64 d.ev.sidx, .int .i64 d.ev.ord, .int .i64 d.ev.val] 72) = w1 := ⟨_, rfl⟩
  rw [hw1] at hX hB HS
  rw [hgb] at hB
  have HB := Lib.hid hB
  clear hs hB
  have eg : ∀ args w, (callFunc 57 args).run Try.prog w = .ok (.enter 57 args) w := enters_of Try.func57 (by kernel_rfl) rfl
  have HEG := Lib.hid eg
  clear eg
  go_enter Try.func42, Try.ntmps42
  go_upto_region 3 with fail
  try rw [hw1]
  try rw [hgb]
  have HX := Lib.hid hX
  clear hw1 hgb hX
  go_loopg [7, 12] K.length (fun g nv iv wr => ∃ j : Nat, j ≤ K.length ∧ nv = .int .i64 (cntK (K.take j) d : Nat) ∧ iv = .int .i64 j ∧ g = K.length - j ∧ Ext w1 wr)
  case atStart => exact ⟨0, Nat.zero_le _, rfl, rfl, rfl, Ext.refl w1⟩
  case round =>
    rename World => wl
    obtain ⟨j, hj, rfl, rfl, rfl, hE⟩ := hrel
    have hcl := cntK_le (K.take j) d
    rw [List.length_take] at hcl
    by_cases hlt : j < K.length
    · have HT := Lib.hid (cntK_take K d j hlt)
      obtain ⟨b, o, rfl, p0⟩ := (HS.out.ext hE).at_ hlt
      obtain ⟨hr, hrc, hrm⟩ := (HS.out.ext hE).row hlt
      unfold maxLen at hrm
      have HCN := Lib.hid (contains_known 57 #[.pointer (some ⟨gb, 0, none⟩)] (fun k => k.d.same d) K[j].A K[j].c K[j].l wl hr (by omega) HEG.out
        (fun W hE2 k _ => spread_closure k gb d W (HB.out.ext (hE.trans hE2))))
      have hh : K[j].l.any (fun k => k.d.same d) = hasK K[j].l d := rfl
      rw [hh] at HCN
      generalize hasK K[j].l d = z at *
      generalize K[j].A = Aj at *
      generalize K[j].c = cj at *
      generalize K[j].l.length = mj at *
      generalize cntK (K.take j) d = n at *
      have hj0 : (0 : Int) ≤ (j : Int) := by omega
      have hj1 : (j : Int) < (K.length : Int) := by omega
      clear hr hh
      cases z with
      | false =>
        rw [if_neg (by simp)] at HT
        go_wp2_with fail
        refine HCN.out.mono ?_
        rintro e w2 ⟨rfl, hE2⟩
        go_wp2_with fail
        go_roundg (K.length - (j + 1))
        case measure => omega
        case rel => exact ⟨j + 1, by omega, by rw [HT.out], by go_num, rfl, hE.trans hE2⟩
      | true =>
        rw [if_pos rfl] at HT
        go_wp2_with fail
        refine HCN.out.mono ?_
        rintro e w2 ⟨rfl, hE2⟩
        go_wp2_with fail
        go_roundg (K.length - (j + 1))
        case measure => omega
        case rel => exact ⟨j + 1, by omega, by rw [HT.out]; go_num, by go_num, rfl, hE.trans hE2⟩
    · obtain rfl : j = K.length := by omega
      rw [List.take_of_length_le (Nat.le_refl _)]
      go_wp2_with fail
      go_ret
      exact ⟨rfl, HX.out.trans hE⟩
end Go.Proofs.Ytcljdkjlfciacaa
