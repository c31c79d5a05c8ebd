/- The walk of the law DeterminantCompares. -/
import Derived.Test.YthadaahemhamdaaCompare3
import Derived.Test.YthadaahemhamdaaCmpLaws
import Derived.Test.YthadaahemhamdaaScene27
import Derived.Test.YthadaahemhamdaaAwake27t
import Derived.Lib.QuietBelow
import Derived.Test.YthadaahemhamdaaArgs27
namespace Go.Proofs.Ythadaahemhamdaa
open Go.RowKit Go.Sort
set_option linter.unusedVariables false

theorem grown9 {W : World} {g : Nat} {t : TypeId} {a : Dt} (h : Blk W g t a.cells.toArray) (d : Nat) (os : Array Obj) : (grow (redrawn W d) os).cell? ⟨g, 0, none⟩ = some (.int .i64 a.proc) ∧ (grow (redrawn W d) os).cell? ⟨g, 1, none⟩ = some (.int .i64 a.index) ∧ (grow (redrawn W d) os).cell? ⟨g, 2, none⟩ = some (.int .i64 a.ev.kind) ∧ (grow (redrawn W d) os).cell? ⟨g, 3, none⟩ = some (.int .i64 a.ev.inc) ∧ (grow (redrawn W d) os).cell? ⟨g, 4, none⟩ = some (.int .i64 a.ev.frm) ∧ (grow (redrawn W d) os).cell? ⟨g, 5, none⟩ = some (.int .i64 a.ev.sinc) ∧ (grow (redrawn W d) os).cell? ⟨g, 6, none⟩ = some (.int .i64 a.ev.sidx) ∧ (grow (redrawn W d) os).cell? ⟨g, 7, none⟩ = some (.int .i64 a.ev.ord) ∧ (grow (redrawn W d) os).cell? ⟨g, 8, none⟩ = some (.int .i64 a.ev.val) :=
  blk9 (h.ext (below_regrown W d os))
theorem call_grown {f : FuncId} {args : Array Value} {W : World} {d : Nat} {os : Array Obj} {v : Value} (h : ∀ X, Calls Try.prog f args X (ExtPost X v)) :
    Calls Try.prog f args (grow (redrawn W d) os) fun e w'' => e = .returned v ∧ ∃ p : Regrown, w'' = grow (redrawn W p.d) p.os := Calls.regrown_of (h _)

set_option maxRecDepth 100000 in
set_option maxHeartbeats 3200000 in
theorem compares_walk (a b : Dt) (field by_ : Int) (w : World) (ha : a.ok) (hb : b.ok) (hf : (Lit.int .i64 field).wf = true) (hby : (Lit.int .i64 by_).wf = true) :
    Calls Try.prog 4 #[.agg #[.int .i64 a.proc, .int .i64 a.index, .int .i64 a.ev.kind, .int .i64 a.ev.inc, .int .i64 a.ev.frm, .int .i64 a.ev.sinc, .int .i64 a.ev.sidx, .int .i64 a.ev.ord, .int .i64 a.ev.val], .agg #[.int .i64 b.proc, .int .i64 b.index, .int .i64 b.ev.kind, .int .i64 b.ev.inc, .int .i64 b.ev.frm, .int .i64 b.ev.sinc, .int .i64 b.ev.sidx, .int .i64 b.ev.ord, .int .i64 b.ev.val], .int .i64 field, .int .i64 by_] w fun e w' => e = .returned (.bool true) ∧ Below w.heap.size w w' := by
  have hi := inI_of hby
  clear hf hby hb
  have hBa : Blk ((w.alloc (.cells a.cells.toArray 39)).alloc (.cells b.cells.toArray 39)) w.heap.size 39 a.cells.toArray := (Blk.new w _ _).allocs _
  have hBb : Blk ((w.alloc (.cells a.cells.toArray 39)).alloc (.cells b.cells.toArray 39)) (w.heap.size + 1) 39 b.cells.toArray := Blk.newAt (by simp)
  have hXX := ((Ext.refl w).allocs (.cells a.cells.toArray 39)).allocs (.cells b.cells.toArray 39)
  obtain ⟨w0, hw0⟩ : ∃ w0, (w.alloc (.cells a.cells.toArray 39)).alloc (.cells b.cells.toArray 39) = w0 := ⟨_, rfl⟩
  rw [hw0] at hBa hBb hXX
  have HW := Lib.hid hw0
  clear hw0
  go_enter Try.func4, Try.ntmps4
  go_wp2_with fail
  have e := HW.out
  unfold Dt.cells at e
  rw [e]
  clear e HW
  refine (awake_any w0).mono ?_
  rintro e w1 ⟨rfl, hE1⟩
  have hBa1 := hBa.ext hE1
  have hBb1 := hBb.ext hE1
  obtain ⟨x0, x1, x2, x3, x4, x5, x6, x7, x8⟩ := blk9 hBa1
  go_wp2_with fail
  refine (near_any a field by_ w1 ha hi).mono ?_
  rintro e w2 ⟨c, rfl, hc, hE2⟩
  clear x0 x1 x2 x3 x4 x5 x6 x7 x8 hi ha hc
  have hBc := Blk.new w2 39 c.cells.toArray
  have hBa2 := (hBa1.ext hE2).allocs (.cells c.cells.toArray 39)
  have hBb2 := (hBb1.ext hE2).allocs (.cells c.cells.toArray 39)
  have hX2 := (hXX.trans (hE1.trans hE2)).allocs (.cells c.cells.toArray 39)
  go_upto_region 4 with fail
  obtain ⟨W, hW⟩ : ∃ W, w2.alloc (.cells c.cells.toArray 39) = W := ⟨_, rfl⟩
  rw [hW] at hBc hBa2 hBb2 hX2
  unfold Dt.cells at hW
  rw [hW]
  generalize w2.heap.size = g9 at *
  clear hW hBa1 hBb1 hBa hBb hE1 hE2 hXX
  have A_ := Lib.hid (fun d os => grown9 hBa2 d os)
  have fA := fun d os => A_.out d os
  have fB := fun d os => grown9 hBb2 d os
  have fC := fun d os => grown9 hBc d os
  have CAB := Lib.hid (compare_sl a b)
  have CAC := Lib.hid (compare_sl a c)
  have CCA := Lib.hid (compare_sl c a)
  have RAB := Lib.hid (compare_ref a b)
  have RAC := Lib.hid (compare_ref a c)
  rw [cmpD_anti a c] at CCA
  have hb1 := cmpD_bd a b
  have hb2 := cmpD_bd a c
  have hsame := cmpD_same a b
  have heq := fun w => eql_det w a b
  unfold Dt.val at heq
  obtain ⟨x1, ex1⟩ : ∃ x, cmpD a b = x := ⟨_, rfl⟩
  obtain ⟨x2, ex2⟩ : ∃ x, cmpD a c = x := ⟨_, rfl⟩
  rw [ex1] at CAB RAB hb1 hsame
  rw [ex2] at CAC CCA RAC hb2
  obtain ⟨s, es⟩ : ∃ s, a.same b = s := ⟨_, rfl⟩
  rw [es] at heq hsame
  clear ex1 ex2 es hBa2 hBb2 hBc A_
  refine wp_region_quiet_below (by kernel_rfl) (by kernel_rfl) ?_
  repeat (go_big_quiet_step (first | with_reducible exact call_grown CAB.out | with_reducible exact call_grown RAB.out | with_reducible exact call_grown CAC.out | with_reducible exact call_grown RAC.out | with_reducible exact call_grown CCA.out))
  refine wpQuiet_nil ?_
  intro _ hw'
  obtain ⟨⟨dq, osq⟩, hw''⟩ := hw'
  subst hw''
  go_wp2_with fail
  go_ret
  exact ⟨rfl, hX2.trans (below_regrown W dq osq)⟩
end Go.Proofs.Ythadaahemhamdaa
