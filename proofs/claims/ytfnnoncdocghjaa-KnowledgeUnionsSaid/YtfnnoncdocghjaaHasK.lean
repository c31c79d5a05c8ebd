/- Has of the reference; the model's '==' on determinants. No statement of the seat is proved here. -/
import Derived.Test.YtfnnoncdocghjaaDetK
import Derived.Deep.QuietTactic
namespace Go.Proofs.Ytfnnoncdocghjaa
open Go.RowKit
set_option linter.unusedVariables false
set_option maxRecDepth 100000

def Dt.same (a b : Dt) : Bool := (a.proc == b.proc) && (a.index == b.index) && (a.ev.kind == b.ev.kind) && (a.ev.inc == b.ev.inc) && (a.ev.frm == b.ev.frm) && (a.ev.sinc == b.ev.sinc) && (a.ev.sidx == b.ev.sidx) && (a.ev.ord == b.ev.ord) && (a.ev.val == b.ev.val)
theorem Dt.same_iff (a b : Dt) : a.same b = true ↔ a = b := by
  obtain ⟨a0, a1, a2, a3, a4, a5, a6, a7, a8⟩ := a
  obtain ⟨b0, b1, b2, b3, b4, b5, b6, b7, b8⟩ := b
  simp [Dt.same, and_assoc]
theorem Dt.same_self (a : Dt) : a.same a = true := (Dt.same_iff a a).2 rfl
theorem Dt.same_ne {a b : Dt} (h : a ≠ b) : a.same b = false := by
  rcases hs : a.same b with _ | _
  · rfl
  · exact absurd ((Dt.same_iff a b).1 hs) h

set_option maxHeartbeats 800000 in
theorem eql_det (w : World) (a b : Dt) : (binOp .eql 32 a.val b.val).run Try.prog w = .ok (.bool (a.same b)) w := by
  obtain ⟨a0, a1, a2, a3, a4, a5, a6, a7, a8⟩ := a
  obtain ⟨b0, b1, b2, b3, b4, b5, b6, b7, b8⟩ := b
  unfold Dt.same Dt.val
  simp only [binOp]
  by_cases h0 : a0 = b0
  rotate_left
  · have g0 : (a0 == b0) = false := by simp [h0]
    simp [Op.equal, Op.maxDepth, go_sem, g0]
  subst h0
  by_cases h1 : a1 = b1
  rotate_left
  · have g1 : (a1 == b1) = false := by simp [h1]
    simp [Op.equal, Op.maxDepth, go_sem, g1]
  subst h1
  by_cases h2 : a2 = b2
  rotate_left
  · have g2 : (a2 == b2) = false := by simp [h2]
    simp [Op.equal, Op.maxDepth, go_sem, g2]
  subst h2
  by_cases h3 : a3 = b3
  rotate_left
  · have g3 : (a3 == b3) = false := by simp [h3]
    simp [Op.equal, Op.maxDepth, go_sem, g3]
  subst h3
  by_cases h4 : a4 = b4
  rotate_left
  · have g4 : (a4 == b4) = false := by simp [h4]
    simp [Op.equal, Op.maxDepth, go_sem, g4]
  subst h4
  by_cases h5 : a5 = b5
  rotate_left
  · have g5 : (a5 == b5) = false := by simp [h5]
    simp [Op.equal, Op.maxDepth, go_sem, g5]
  subst h5
  by_cases h6 : a6 = b6
  rotate_left
  · have g6 : (a6 == b6) = false := by simp [h6]
    simp [Op.equal, Op.maxDepth, go_sem, g6]
  subst h6
  by_cases h7 : a7 = b7
  rotate_left
  · have g7 : (a7 == b7) = false := by simp [h7]
    simp [Op.equal, Op.maxDepth, go_sem, g7]
  subst h7
  by_cases h8 : a8 = b8
  rotate_left
  · have g8 : (a8 == b8) = false := by simp [h8]
    simp [Op.equal, Op.maxDepth, go_sem, g8]
  subst h8
  simp [Op.equal, Op.maxDepth, go_sem]

theorem blk9 {w : World} {g : Nat} {t : TypeId} {d : Dt} (h : Blk w g t d.cells.toArray) : w.cell? ⟨g, 0, none⟩ = some (.int .i64 d.proc) ∧ w.cell? ⟨g, 1, none⟩ = some (.int .i64 d.index) ∧ w.cell? ⟨g, 2, none⟩ = some (.int .i64 d.ev.kind) ∧ w.cell? ⟨g, 3, none⟩ = some (.int .i64 d.ev.inc) ∧ w.cell? ⟨g, 4, none⟩ = some (.int .i64 d.ev.frm) ∧ w.cell? ⟨g, 5, none⟩ = some (.int .i64 d.ev.sinc) ∧ w.cell? ⟨g, 6, none⟩ = some (.int .i64 d.ev.sidx) ∧ w.cell? ⟨g, 7, none⟩ = some (.int .i64 d.ev.ord) ∧ w.cell? ⟨g, 8, none⟩ = some (.int .i64 d.ev.val) := by
  simp [h.cell, Dt.cells]
theorem blk9f {w : World} {g : Nat} {t : TypeId} {cs : Array Value} (h : Blk w g t cs) : w.frozen? ⟨g, 0, none⟩ = false ∧ w.frozen? ⟨g, 1, none⟩ = false ∧ w.frozen? ⟨g, 2, none⟩ = false ∧ w.frozen? ⟨g, 3, none⟩ = false ∧ w.frozen? ⟨g, 4, none⟩ = false ∧ w.frozen? ⟨g, 5, none⟩ = false ∧ w.frozen? ⟨g, 6, none⟩ = false ∧ w.frozen? ⟨g, 7, none⟩ = false ∧ w.frozen? ⟨g, 8, none⟩ = false := by
  simp [h.frozen]
def hasB (l : List Dt) (d : Dt) : Bool := l.any fun x => x.same d
theorem hasB_iff (l : List Dt) (d : Dt) : hasB l d = true ↔ d ∈ l := by
  unfold hasB
  rw [List.any_eq_true]
  constructor
  · rintro ⟨x, hx, hs⟩
    rw [← (Dt.same_iff x d).1 hs]; exact hx
  · intro h
    exact ⟨d, h, Dt.same_self d⟩
theorem hasB_take (l : List Dt) (d : Dt) (j : Nat) (hj : j < l.length) : hasB (l.take (j + 1)) d = (hasB (l.take j) d || l[j].same d) := by
  unfold hasB
  rw [List.take_succ_eq_append_getElem hj, List.any_append]
  simp
theorem hasB_hit (l : List Dt) (d : Dt) (j : Nat) (hj : j < l.length) (h : l[j].same d = true) : hasB l d = true := by
  unfold hasB
  rw [List.any_eq_true]
  exact ⟨l[j], List.getElem_mem hj, h⟩
def HRel (w1 : World) (l : List Dt) (d : Dt) (g : Nat) (i : Value) (wr : World) : Prop := ∃ j : Nat, j ≤ l.length ∧ i = .int .i64 j ∧ g = l.length - j ∧ Ext w1 wr ∧ hasB (l.take j) d = false

set_option maxHeartbeats 1600000 in
theorem has_ref (A : Option Addr) (c : Nat) (l : List Dt) (d : Dt) (w : World) (hs : DtSeg w A l) (hn : l.length ≤ 1000) :
    Calls Try.prog 29 #[.slice A l.length c, .agg #[.int .i64 d.proc, .int .i64 d.index, .int .i64 d.ev.kind, .int .i64 d.ev.inc, .int .i64 d.ev.frm, .int .i64 d.ev.sinc, .int .i64 d.ev.sidx, .int .i64 d.ev.ord, .int .i64 d.ev.val]] w (ExtPost w (.bool (hasB l d))) := by
  have hB := Blk.new w 32 d.cells.toArray
  have hs1 := hs.alloc (.cells d.cells.toArray 32)
  have hX := (Ext.refl w).allocs (.cells d.cells.toArray 32)
  obtain ⟨w1, hw1⟩ : ∃ w1, w.alloc (.cells d.cells.toArray 32) = w1 := ⟨_, rfl⟩
  rw [hw1] at hB hs1 hX
  have HW := Lib.hid hw1
  clear hw1 hs
  go_enter Try.func29, Try.ntmps29
  go_wp2_with fail
  have e := HW.out
  unfold Dt.cells at e
  rw [e]
  clear e HW
  go_loopg [5] l.length (fun g i wr => HRel w1 l d g i wr)
  case atStart => exact ⟨0, Nat.zero_le _, rfl, rfl, Ext.refl _, rfl⟩
  case round =>
    obtain ⟨j, hj, rfl, rfl, hE, hno⟩ := hrel
    have HN := Lib.hid hno
    clear hno
    by_cases hlt : j < l.length
    · obtain ⟨b, off, rfl, p0, p1, p2, p3, p4, p5, p6, p7, p8⟩ := Dt.at_ (hs1.ext hE) hlt
      obtain ⟨b0, b1, b2, b3, b4, b5, b6, b7, b8⟩ := blk9 (hB.ext hE)
      have HT := Lib.hid (hasB_take l d j hlt)
      have HH := Lib.hid (hasB_hit l d j hlt)
      have heq := fun w => eql_det w l[j] d
      unfold Dt.val at heq
      rcases hsm : l[j].same d with _ | _
      · rw [hsm] at heq HT
        generalize l[j] = x at *
        clear hsm
        go_wp2_with fail
        go_quiet (fail)
        go_wp2_with fail
        go_roundg (l.length - (j + 1))
        case measure => omega
        case rel => exact ⟨j + 1, by omega, by go_num, rfl, hE.drewN _, by rw [HT.out, HN.out]; rfl⟩
      · rw [hsm] at heq
        have HS := Lib.hid hsm
        clear hsm
        generalize l[j] = x at *
        go_wp2_with fail
        go_quiet (fail)
        go_wp2_with fail
        go_ret
        refine ⟨?_, hX.trans (hE.drewN _)⟩
        rw [HH.out HS.out]
        rfl
    · have HF : Hid (hasB l d = false) := by have := HN.out; rw [List.take_of_length_le (by omega)] at this; exact this
      go_wp2_with fail
      go_ret
      refine ⟨?_, hX.trans hE⟩
      rw [HF.out]
      rfl
end Go.Proofs.Ytfnnoncdocghjaa
