/- Determinants: their cells; Lineage, Same, SameInts. No statement of the seat is proved here. -/
import Derived.Test.YtfnnoncdocghjaaEventsK
import Derived.Test.YtfnnoncdocghjaaBase3
namespace Go.Proofs.Ytfnnoncdocghjaa
open Go.RowKit
set_option linter.unusedVariables false
set_option maxRecDepth 100000

structure Dt where
  proc : Int
  index : Int
  ev : Ev
def Dt.cells (d : Dt) : List Value := [.int .i64 d.proc, .int .i64 d.index, .int .i64 d.ev.kind, .int .i64 d.ev.inc, .int .i64 d.ev.frm, .int .i64 d.ev.sinc, .int .i64 d.ev.sidx, .int .i64 d.ev.ord, .int .i64 d.ev.val]
theorem Dt.len (d : Dt) : d.cells.length = 9 := rfl
theorem Dt.one (d : Dt) : ∀ u ∈ d.cells, u.oneCell' = true := by simp [Dt.cells, Value.oneCell']
theorem Dt.ones (l : List Dt) : ∀ u ∈ l.flatMap Dt.cells, u.oneCell' = true := by
  intro u hu
  obtain ⟨c, _, hc⟩ := List.mem_flatMap.1 hu
  exact Dt.one c u hc
abbrev DtSeg (w : World) (A : Option Addr) (l : List Dt) : Prop := Seg w 9 A l.length (l.flatMap Dt.cells)
def Dt.ok (d : Dt) : Prop := InI64 d.proc ∧ InI64 d.index ∧ d.ev.ok
/-- the value of a determinant -/
abbrev Dt.val (d : Dt) : Value := .agg #[.int .i64 d.proc, .int .i64 d.index, .int .i64 d.ev.kind, .int .i64 d.ev.inc, .int .i64 d.ev.frm, .int .i64 d.ev.sinc, .int .i64 d.ev.sidx, .int .i64 d.ev.ord, .int .i64 d.ev.val]

theorem Dt.at_ {w : World} {A : Option Addr} {l : List Dt} (h : DtSeg w A l) {j : Nat} (hj : j < l.length) :
    ∃ b off, A = some ⟨b, off, none⟩ ∧ w.cell? ⟨b, off + j * 9, none⟩ = some (.int .i64 l[j].proc) ∧ w.cell? ⟨b, off + j * 9 + 1, none⟩ = some (.int .i64 l[j].index) ∧ w.cell? ⟨b, off + j * 9 + 2, none⟩ = some (.int .i64 l[j].ev.kind) ∧ w.cell? ⟨b, off + j * 9 + 3, none⟩ = some (.int .i64 l[j].ev.inc) ∧ w.cell? ⟨b, off + j * 9 + 4, none⟩ = some (.int .i64 l[j].ev.frm) ∧ w.cell? ⟨b, off + j * 9 + 5, none⟩ = some (.int .i64 l[j].ev.sinc) ∧ w.cell? ⟨b, off + j * 9 + 6, none⟩ = some (.int .i64 l[j].ev.sidx) ∧ w.cell? ⟨b, off + j * 9 + 7, none⟩ = some (.int .i64 l[j].ev.ord) ∧ w.cell? ⟨b, off + j * 9 + 8, none⟩ = some (.int .i64 l[j].ev.val) := by
  obtain ⟨b, off, hA, _, hc⟩ := Seg.at_ h Dt.len hj
  exact ⟨b, off, hA, hc 0 _ rfl, hc 1 _ rfl, hc 2 _ rfl, hc 3 _ rfl, hc 4 _ rfl, hc 5 _ rfl, hc 6 _ rfl, hc 7 _ rfl, hc 8 _ rfl⟩

theorem Ev.at_ {w : World} {A : Option Addr} {l : List Ev} (h : EvSeg w A l) {j : Nat} (hj : j < l.length) :
    ∃ b off, A = some ⟨b, off, none⟩ ∧ w.cell? ⟨b, off + j * 7, none⟩ = some (.int .i64 l[j].kind) ∧ w.cell? ⟨b, off + j * 7 + 1, none⟩ = some (.int .i64 l[j].inc) ∧ w.cell? ⟨b, off + j * 7 + 2, none⟩ = some (.int .i64 l[j].frm) ∧ w.cell? ⟨b, off + j * 7 + 3, none⟩ = some (.int .i64 l[j].sinc) ∧ w.cell? ⟨b, off + j * 7 + 4, none⟩ = some (.int .i64 l[j].sidx) ∧ w.cell? ⟨b, off + j * 7 + 5, none⟩ = some (.int .i64 l[j].ord) ∧ w.cell? ⟨b, off + j * 7 + 6, none⟩ = some (.int .i64 l[j].val) := by
  obtain ⟨b, off, hA, _, hc⟩ := Seg.at_ h Ev.len hj
  exact ⟨b, off, hA, hc 0 _ rfl, hc 1 _ rfl, hc 2 _ rfl, hc 3 _ rfl, hc 4 _ rfl, hc 5 _ rfl, hc 6 _ rfl⟩

/-- the determinants of a lineage -/
def linFrom (p : Int) : List Ev → Nat → List Dt
  | [], _ => []
  | e :: es, i => ⟨p, (i : Int) + 1, e⟩ :: linFrom p es (i + 1)
def linV (p : Int) (es : List Ev) : List Dt := linFrom p es 0
theorem lin_len (p : Int) (es : List Ev) : ∀ i, (linFrom p es i).length = es.length := by
  induction es with
  | nil => intro i; rfl
  | cons e es ih => intro i; simp [linFrom, ih]
theorem lin_snoc (p : Int) (es : List Ev) (e : Ev) : ∀ i, linFrom p (es ++ [e]) i = linFrom p es i ++ [⟨p, ((i + es.length : Nat) : Int) + 1, e⟩] := by
  induction es with
  | nil => intro i; rfl
  | cons x es ih => intro i; simp only [List.cons_append, linFrom, ih, List.length_cons]; congr 4; omega
theorem linV_take (p : Int) (es : List Ev) (j : Nat) (hj : j < es.length) : linV p (es.take (j + 1)) = linV p (es.take j) ++ [⟨p, (j : Int) + 1, es[j]⟩] := by
  unfold linV
  rw [List.take_succ_eq_append_getElem hj, lin_snoc]
  congr 4
  simp; omega
theorem linV_get (p : Int) (es : List Ev) : ∀ (i j : Nat) (hj : j < es.length), (linFrom p es i)[j]? = some ⟨p, ((i + j : Nat) : Int) + 1, es[j]⟩ := by
  induction es with
  | nil => intro i j hj; simp at hj
  | cons e es ih =>
    intro i j hj
    cases j with
    | zero => simp [linFrom]
    | succ j =>
      simp only [linFrom, List.getElem?_cons_succ, List.getElem_cons_succ]
      rw [ih (i + 1) j (by simpa using hj)]
      congr 3; omega

def LRel (w : World) (p : Int) (es : List Ev) (g : Nat) (v i : Value) (wr : World) : Prop :=
  ∃ j : Nat, j ≤ es.length ∧ i = .int .i64 j ∧ g = es.length - j ∧ Ext w wr ∧ wr.ownsRow w.heap.size 32 9 v (linV p (es.take j)).length ((linV p (es.take j)).flatMap Dt.cells)

set_option maxHeartbeats 1600000 in
theorem lineage_sl (A : Option Addr) (c : Nat) (p : Int) (es : List Ev) (w : World) (hs : EvSeg w A es) (hn : es.length ≤ 1000) :
    Calls Try.prog 31 #[.int .i64 p, .slice A es.length c] w (RowPost w 32 9 (linV p es).length ((linV p es).flatMap Dt.cells)) := by
  go_enter Try.func31, Try.ntmps31
  go_wp2_with fail
  go_loopg [5, 10] es.length (fun g v i wr => LRel w p es g v i wr)
  case atStart => exact ⟨0, Nat.zero_le _, rfl, rfl, Ext.refl w, own_nil _ _ _ _ _⟩
  case round =>
    obtain ⟨j, hj, rfl, rfl, hE, hown⟩ := hrel
    by_cases hlt : j < es.length
    · obtain ⟨b, off, rfl, p0, p1, p2, p3, p4, p5, p6⟩ := Ev.at_ (hs.ext hE) hlt
      have HT := Lib.hid (linV_take p es j hlt)
      have HL : (linV p (es.take j)).length ≤ es.length := by unfold linV; rw [lin_len]; simp; omega
      obtain ⟨x, hx⟩ : ∃ x, es[j] = x := ⟨_, rfl⟩
      rw [hx] at p0 p1 p2 p3 p4 p5 p6 HT
      clear hx
      have hz := hE.size
      obtain ⟨L, hL⟩ : ∃ L, linV p (es.take j) = L := ⟨_, rfl⟩
      rw [hL] at HT HL hown
      clear hL
      go_wp2_with (at_builtin; refine wpList_push_at Dt.cells 9 72 Dt.len Dt.one (by omega) rfl _ _ _ rfl w.heap.size 32 Try.underlying56 (by kernel_rfl) u5 L ⟨p, (j : Int) + 1, x⟩ (wr.heap.size + 1) rfl (hown.alloc _) rfl (by first | rfl | simp) (by unfold maxLen; omega) (by omega) (by simp; omega) ?_; intro v' w6 hown6 hg6)
      have hE6 : Ext w w6 := Ext.own (hE.allocs _) (hown.alloc _) (Nat.le_refl _) hg6
      go_roundg (es.length - (j + 1))
      case measure => omega
      case rel => exact ⟨j + 1, by omega, by go_num, rfl, hE6, by rw [HT.out]; exact hown6⟩
    · obtain rfl : j = es.length := by omega
      rw [List.take_of_length_le (Nat.le_refl _)] at hown
      go_wp2_with fail
      go_ret
      exact ⟨_, rfl, hown, hE⟩

set_option maxHeartbeats 1600000 in
theorem sameDets (A B : Option Addr) (ca cb : Nat) (l : List Dt) (w : World) (ha : DtSeg w A l) (hb : DtSeg w B l) (hn : l.length ≤ 1000) :
    Calls Try.prog 32 #[.slice A l.length ca, .slice B l.length cb] w (StillPost w (.bool true)) := by
  go_enter Try.func32, Try.ntmps32
  go_wp2_with fail
  go_loopg [5] l.length (fun g i wr => StillRel w l.length g i wr)
  case atStart => exact ⟨0, 0, Nat.zero_le _, rfl, rfl, rfl⟩
  case round =>
    obtain ⟨j, q, hj, rfl, rfl, rfl⟩ := hrel
    by_cases hlt : j < l.length
    · obtain ⟨b, off, rfl, p0, p1, p2, p3, p4, p5, p6, p7, p8⟩ := Dt.at_ ha hlt
      obtain ⟨b', off', rfl, r0, r1, r2, r3, r4, r5, r6, r7, r8⟩ := Dt.at_ hb hlt
      generalize l[j].proc = x0 at *
      generalize l[j].index = x1 at *
      generalize l[j].ev.kind = x2 at *
      generalize l[j].ev.inc = x3 at *
      generalize l[j].ev.frm = x4 at *
      generalize l[j].ev.sinc = x5 at *
      generalize l[j].ev.sidx = x6 at *
      generalize l[j].ev.ord = x7 at *
      generalize l[j].ev.val = x8 at *
      clear ha hb
      go_wp2_with fail
      go_quiet (fail)
      go_wp2_with fail
      go_roundg (l.length - (j + 1))
      case measure => omega
      case rel => exact ⟨j + 1, _, by omega, by go_num, rfl, rfl⟩
    · go_wp2_with fail
      go_ret
      exact ⟨rfl, _, rfl⟩

end Go.Proofs.Ytfnnoncdocghjaa
