/- The walk of the law DeterminantChains. -/
import Derived.Test.YthadaahemhamdaaCompares
namespace Go.Proofs.Ythadaahemhamdaa
open Go.RowKit Go.Sort
set_option linter.unusedVariables false

theorem keep3 {W : World} {g g' g'' : Nat} {t t' t'' : TypeId} {a b c : Dt} (h : Blk W g t a.cells.toArray) (h' : Blk W g' t' b.cells.toArray) (h'' : Blk W g'' t'' c.cells.toArray) :
    (W.cell? ⟨g, 0, none⟩ = some (.int .i64 a.proc) ∧ W.cell? ⟨g, 1, none⟩ = some (.int .i64 a.index) ∧ W.cell? ⟨g, 2, none⟩ = some (.int .i64 a.ev.kind) ∧ W.cell? ⟨g, 3, none⟩ = some (.int .i64 a.ev.inc) ∧ W.cell? ⟨g, 4, none⟩ = some (.int .i64 a.ev.frm) ∧ W.cell? ⟨g, 5, none⟩ = some (.int .i64 a.ev.sinc) ∧ W.cell? ⟨g, 6, none⟩ = some (.int .i64 a.ev.sidx) ∧ W.cell? ⟨g, 7, none⟩ = some (.int .i64 a.ev.ord) ∧ W.cell? ⟨g, 8, none⟩ = some (.int .i64 a.ev.val)) ∧ (W.cell? ⟨g', 0, none⟩ = some (.int .i64 b.proc) ∧ W.cell? ⟨g', 1, none⟩ = some (.int .i64 b.index) ∧ W.cell? ⟨g', 2, none⟩ = some (.int .i64 b.ev.kind) ∧ W.cell? ⟨g', 3, none⟩ = some (.int .i64 b.ev.inc) ∧ W.cell? ⟨g', 4, none⟩ = some (.int .i64 b.ev.frm) ∧ W.cell? ⟨g', 5, none⟩ = some (.int .i64 b.ev.sinc) ∧ W.cell? ⟨g', 6, none⟩ = some (.int .i64 b.ev.sidx) ∧ W.cell? ⟨g', 7, none⟩ = some (.int .i64 b.ev.ord) ∧ W.cell? ⟨g', 8, none⟩ = some (.int .i64 b.ev.val)) ∧ (W.cell? ⟨g'', 0, none⟩ = some (.int .i64 c.proc) ∧ W.cell? ⟨g'', 1, none⟩ = some (.int .i64 c.index) ∧ W.cell? ⟨g'', 2, none⟩ = some (.int .i64 c.ev.kind) ∧ W.cell? ⟨g'', 3, none⟩ = some (.int .i64 c.ev.inc) ∧ W.cell? ⟨g'', 4, none⟩ = some (.int .i64 c.ev.frm) ∧ W.cell? ⟨g'', 5, none⟩ = some (.int .i64 c.ev.sinc) ∧ W.cell? ⟨g'', 6, none⟩ = some (.int .i64 c.ev.sidx) ∧ W.cell? ⟨g'', 7, none⟩ = some (.int .i64 c.ev.ord) ∧ W.cell? ⟨g'', 8, none⟩ = some (.int .i64 c.ev.val)) := ⟨blk9 h, blk9 h', blk9 h''⟩
theorem grownR {W : World} {g : Nat} {L : List Dt} (h : DtSeg W (some ⟨g, 0, none⟩) L) {i : Nat} (hi : i < L.length) {x : Dt} (hx : L[i] = x) (d : Nat) (os : Array Obj) : (grow (redrawn W d) os).cell? ⟨g, i * 9, none⟩ = some (.int .i64 x.proc) ∧ (grow (redrawn W d) os).cell? ⟨g, i * 9 + 1, none⟩ = some (.int .i64 x.index) ∧ (grow (redrawn W d) os).cell? ⟨g, i * 9 + 2, none⟩ = some (.int .i64 x.ev.kind) ∧ (grow (redrawn W d) os).cell? ⟨g, i * 9 + 3, none⟩ = some (.int .i64 x.ev.inc) ∧ (grow (redrawn W d) os).cell? ⟨g, i * 9 + 4, none⟩ = some (.int .i64 x.ev.frm) ∧ (grow (redrawn W d) os).cell? ⟨g, i * 9 + 5, none⟩ = some (.int .i64 x.ev.sinc) ∧ (grow (redrawn W d) os).cell? ⟨g, i * 9 + 6, none⟩ = some (.int .i64 x.ev.sidx) ∧ (grow (redrawn W d) os).cell? ⟨g, i * 9 + 7, none⟩ = some (.int .i64 x.ev.ord) ∧ (grow (redrawn W d) os).cell? ⟨g, i * 9 + 8, none⟩ = some (.int .i64 x.ev.val) := by
  have := Dt.cells_at (h.ext (below_regrown W d os)) hi hx
  simpa only [Nat.zero_add] using this
theorem DtSeg.made (w : World) (t : TypeId) (L : List Dt) : DtSeg (w.alloc (.cells (L.flatMap Dt.cells).toArray t)) (some ⟨w.heap.size, 0, none⟩) L := by
  refine Seg.of_blk (Blk.new w t _) (by simp) ?_
  induction L with
  | nil => rfl
  | cons x L ih => rw [List.flatMap_cons, List.length_append, ih, List.length_cons, show x.cells.length = 9 from rfl]; omega
theorem five_list (a b c x y : Dt) : ∃ L : List Dt, L.length = 5 ∧ (#[.int .i64 a.proc, .int .i64 a.index, .int .i64 a.ev.kind, .int .i64 a.ev.inc, .int .i64 a.ev.frm, .int .i64 a.ev.sinc, .int .i64 a.ev.sidx, .int .i64 a.ev.ord, .int .i64 a.ev.val, .int .i64 b.proc, .int .i64 b.index, .int .i64 b.ev.kind, .int .i64 b.ev.inc, .int .i64 b.ev.frm, .int .i64 b.ev.sinc, .int .i64 b.ev.sidx, .int .i64 b.ev.ord, .int .i64 b.ev.val, .int .i64 c.proc, .int .i64 c.index, .int .i64 c.ev.kind, .int .i64 c.ev.inc, .int .i64 c.ev.frm, .int .i64 c.ev.sinc, .int .i64 c.ev.sidx, .int .i64 c.ev.ord, .int .i64 c.ev.val, .int .i64 x.proc, .int .i64 x.index, .int .i64 x.ev.kind, .int .i64 x.ev.inc, .int .i64 x.ev.frm, .int .i64 x.ev.sinc, .int .i64 x.ev.sidx, .int .i64 x.ev.ord, .int .i64 x.ev.val, .int .i64 y.proc, .int .i64 y.index, .int .i64 y.ev.kind, .int .i64 y.ev.inc, .int .i64 y.ev.frm, .int .i64 y.ev.sinc, .int .i64 y.ev.sidx, .int .i64 y.ev.ord, .int .i64 y.ev.val] : Array Value) = (L.flatMap Dt.cells).toArray :=
  ⟨[a, b, c, x, y], rfl, by simp only [List.flatMap_cons, List.flatMap_nil, Dt.cells, List.cons_append, List.nil_append, List.append_nil]⟩
def ChRel (w : World) (g : Nat) (L : List Dt) (k : Nat) (i : Value) (wr : World) : Prop := ∃ j : Nat, j ≤ 5 ∧ i = .int .i64 j ∧ k = 5 - j ∧ Ext w wr ∧ DtSeg wr (some ⟨g, 0, none⟩) L

set_option maxRecDepth 100000 in
set_option maxHeartbeats 6400000 in
theorem chains_walk (a b c : Dt) (field by_ : Int) (w : World) (ha : a.ok) (hb : b.ok) (hc : c.ok) (hf : (Lit.int .i64 field).wf = true) (hby : (Lit.int .i64 by_).wf = true) :
    Calls Try.prog 5 #[.agg #[.int .i64 a.proc, .int .i64 a.index, .int .i64 a.ev.kind, .int .i64 a.ev.inc, .int .i64 a.ev.frm, .int .i64 a.ev.sinc, .int .i64 a.ev.sidx, .int .i64 a.ev.ord, .int .i64 a.ev.val], .agg #[.int .i64 b.proc, .int .i64 b.index, .int .i64 b.ev.kind, .int .i64 b.ev.inc, .int .i64 b.ev.frm, .int .i64 b.ev.sinc, .int .i64 b.ev.sidx, .int .i64 b.ev.ord, .int .i64 b.ev.val], .agg #[.int .i64 c.proc, .int .i64 c.index, .int .i64 c.ev.kind, .int .i64 c.ev.inc, .int .i64 c.ev.frm, .int .i64 c.ev.sinc, .int .i64 c.ev.sidx, .int .i64 c.ev.ord, .int .i64 c.ev.val], .int .i64 field, .int .i64 by_] w fun e w' => e = .returned (.bool true) ∧ Below w.heap.size w w' := by
  have hi := inI_of hby
  clear hf hby hc
  have hBa : Blk (((w.alloc (.cells a.cells.toArray 39)).alloc (.cells b.cells.toArray 39)).alloc (.cells c.cells.toArray 39)) w.heap.size 39 a.cells.toArray := ((Blk.new w _ _).allocs _).allocs _
  have hBb : Blk (((w.alloc (.cells a.cells.toArray 39)).alloc (.cells b.cells.toArray 39)).alloc (.cells c.cells.toArray 39)) (w.heap.size + 1) 39 b.cells.toArray := Blk.allocs (Blk.newAt (by simp)) _
  have hBc : Blk (((w.alloc (.cells a.cells.toArray 39)).alloc (.cells b.cells.toArray 39)).alloc (.cells c.cells.toArray 39)) (w.heap.size + 2) 39 c.cells.toArray := Blk.newAt (by simp)
  have hXX := (((Ext.refl w).allocs (.cells a.cells.toArray 39)).allocs (.cells b.cells.toArray 39)).allocs (.cells c.cells.toArray 39)
  obtain ⟨w0, hw0⟩ : ∃ w0, ((w.alloc (.cells a.cells.toArray 39)).alloc (.cells b.cells.toArray 39)).alloc (.cells c.cells.toArray 39) = w0 := ⟨_, rfl⟩
  rw [hw0] at hBa hBb hBc hXX
  have HW := Lib.hid hw0
  clear hw0
  go_enter Try.func5, Try.ntmps5
  go_wp2_with fail
  have e := HW.out
  unfold Dt.cells at e
  rw [e]
  clear e HW
  refine (awake_any w0).mono ?_
  rintro e w1 ⟨rfl, hE1⟩
  have hBa1 := hBa.ext hE1
  have hBb1 := hBb.ext hE1
  have hBc1 := hBc.ext hE1
  have hX1 := Ext.trans hXX hE1
  clear hBa hBb hBc hXX hE1
  have tok : True := trivial
  go_upto_region 3 with fail
  go_region_held3 (fun w' => (w'.cell? ⟨w.heap.size, 0, none⟩ = some (.int .i64 a.proc) ∧ w'.cell? ⟨w.heap.size, 1, none⟩ = some (.int .i64 a.index) ∧ w'.cell? ⟨w.heap.size, 2, none⟩ = some (.int .i64 a.ev.kind) ∧ w'.cell? ⟨w.heap.size, 3, none⟩ = some (.int .i64 a.ev.inc) ∧ w'.cell? ⟨w.heap.size, 4, none⟩ = some (.int .i64 a.ev.frm) ∧ w'.cell? ⟨w.heap.size, 5, none⟩ = some (.int .i64 a.ev.sinc) ∧ w'.cell? ⟨w.heap.size, 6, none⟩ = some (.int .i64 a.ev.sidx) ∧ w'.cell? ⟨w.heap.size, 7, none⟩ = some (.int .i64 a.ev.ord) ∧ w'.cell? ⟨w.heap.size, 8, none⟩ = some (.int .i64 a.ev.val)) ∧ (w'.cell? ⟨w.heap.size + 1, 0, none⟩ = some (.int .i64 b.proc) ∧ w'.cell? ⟨w.heap.size + 1, 1, none⟩ = some (.int .i64 b.index) ∧ w'.cell? ⟨w.heap.size + 1, 2, none⟩ = some (.int .i64 b.ev.kind) ∧ w'.cell? ⟨w.heap.size + 1, 3, none⟩ = some (.int .i64 b.ev.inc) ∧ w'.cell? ⟨w.heap.size + 1, 4, none⟩ = some (.int .i64 b.ev.frm) ∧ w'.cell? ⟨w.heap.size + 1, 5, none⟩ = some (.int .i64 b.ev.sinc) ∧ w'.cell? ⟨w.heap.size + 1, 6, none⟩ = some (.int .i64 b.ev.sidx) ∧ w'.cell? ⟨w.heap.size + 1, 7, none⟩ = some (.int .i64 b.ev.ord) ∧ w'.cell? ⟨w.heap.size + 1, 8, none⟩ = some (.int .i64 b.ev.val)) ∧ (w'.cell? ⟨w.heap.size + 2, 0, none⟩ = some (.int .i64 c.proc) ∧ w'.cell? ⟨w.heap.size + 2, 1, none⟩ = some (.int .i64 c.index) ∧ w'.cell? ⟨w.heap.size + 2, 2, none⟩ = some (.int .i64 c.ev.kind) ∧ w'.cell? ⟨w.heap.size + 2, 3, none⟩ = some (.int .i64 c.ev.inc) ∧ w'.cell? ⟨w.heap.size + 2, 4, none⟩ = some (.int .i64 c.ev.frm) ∧ w'.cell? ⟨w.heap.size + 2, 5, none⟩ = some (.int .i64 c.ev.sinc) ∧ w'.cell? ⟨w.heap.size + 2, 6, none⟩ = some (.int .i64 c.ev.sidx) ∧ w'.cell? ⟨w.heap.size + 2, 7, none⟩ = some (.int .i64 c.ev.ord) ∧ w'.cell? ⟨w.heap.size + 2, 8, none⟩ = some (.int .i64 c.ev.val)))
    (first | (refine keep3 (t := 39) (t' := 39) (t'' := 39) ?_ ?_ ?_ <;> (repeat (first | with_reducible exact hBa1 | with_reducible exact hBb1 | with_reducible exact hBc1 | with_reducible refine Blk.allocs ?_ _ | with_reducible refine Blk.drews ?_ | with_reducible refine Blk.drewNs ?_ _ | with_reducible refine Blk.ext ?_ hE4 | with_reducible refine Blk.ext ?_ hE2))))
    (first
      | (go_at_call 20; have _t := tok; refine (near_any a _ by_ _ ha hi).mono ?_; rintro e w2 ⟨x1, rfl, hok1, hE2⟩; clear tok)
      | (go_at_call 20; refine (near_any b _ by_ _ hb hi).mono ?_; rintro e w4 ⟨x2, rfl, hok2, hE4⟩))
  rename_i hHeld_
  clear hHeld_
  obtain ⟨L, hLen, hL⟩ := five_list a b c x1 x2
  rw [hL]
  have hD := DtSeg.made w4 39 L
  have hX : Ext w (w4.alloc (.cells (L.flatMap Dt.cells).toArray 39)) := Ext.allocs (Ext.trans (Ext.trans (Below.drew hX1) hE2) hE4) _
  obtain ⟨W, hW⟩ : ∃ W, w4.alloc (.cells (L.flatMap Dt.cells).toArray 39) = W := ⟨_, rfl⟩
  rw [hW] at hD hX ⊢
  obtain ⟨g, hg⟩ : ∃ g, w4.heap.size = g := ⟨_, rfl⟩
  rw [hg] at hD ⊢
  clear hg
  clear hW hL hBa1 hBb1 hBc1 hX1 hE2 hE4 hok1 hok2 ha hb hi
  go_wp2_with fail
  go_loopg [12] 5 (fun k i wr => ChRel w g L k i wr)
  case atStart => exact ⟨0, by omega, rfl, rfl, hX, hD⟩
  case round =>
    clear hX hD
    obtain ⟨i, hi5, rfl, rfl, hX, hD⟩ := hrel
    by_cases hi : i < 5
    · have hi0 : (0 : Int) ≤ (i : Int) := by omega
      have hi1 : (i : Int) < 5 := by omega
      go_wp2_with fail
      go_loopg [13] 5 (fun k j wr => ChRel w g L k j wr)
      case atStart => exact ⟨0, by omega, rfl, rfl, hX, hD⟩
      case round =>
        clear hX hD
        obtain ⟨j, hj5, rfl, rfl, hX, hD⟩ := hrel
        by_cases hj : j < 5
        · have hj0 : (0 : Int) ≤ (j : Int) := by omega
          have hj1 : (j : Int) < 5 := by omega
          go_wp2_with fail
          go_loopg [14] 5 (fun k j wr => ChRel w g L k j wr)
          case atStart => exact ⟨0, by omega, rfl, rfl, hX, hD⟩
          case round =>
            clear hX hD
            obtain ⟨k, hk5, rfl, rfl, hX, hD⟩ := hrel
            by_cases hk : k < 5
            · have hk0 : (0 : Int) ≤ (k : Int) := by omega
              have hk1 : (k : Int) < 5 := by omega
              go_upto_region 13 with fail
              obtain ⟨x, hx⟩ : ∃ x, L[i]'(by omega) = x := ⟨_, rfl⟩
              obtain ⟨y, hy⟩ : ∃ y, L[j]'(by omega) = y := ⟨_, rfl⟩
              obtain ⟨z, hz⟩ : ∃ z, L[k]'(by omega) = z := ⟨_, rfl⟩
              have fX := fun d os => grownR hD (by omega) hx d os
              have fY := fun d os => grownR hD (by omega) hy d os
              have fZ := fun d os => grownR hD (by omega) hz d os
              have CXY := Lib.hid (compare_sl x y)
              have CYZ := Lib.hid (compare_sl y z)
              have CXZ := Lib.hid (compare_sl x z)
              have hb1 := cmpD_bd x y
              have hb2 := cmpD_bd y z
              have hb3 := cmpD_bd x z
              have htr := cmpD_trans x y z
              obtain ⟨v1, e1⟩ : ∃ v, cmpD x y = v := ⟨_, rfl⟩
              obtain ⟨v2, e2⟩ : ∃ v, cmpD y z = v := ⟨_, rfl⟩
              obtain ⟨v3, e3⟩ : ∃ v, cmpD x z = v := ⟨_, rfl⟩
              rw [e1] at CXY hb1 htr
              rw [e2] at CYZ hb2 htr
              rw [e3] at CXZ hb3 htr
              have HD := Lib.hid hD
              have HX := Lib.hid hX
              clear e1 e2 e3 hx hy hz hD hX
              by_cases q1 : v1 ≤ 0
              · have d1 : decide (v1 ≤ 0) = true := decide_eq_true q1
                by_cases q2 : v2 ≤ 0
                · have d2 : decide (v2 ≤ 0) = true := decide_eq_true q2
                  have q3 : ¬ 0 < v3 := by have := htr q1 q2; omega
                  have d3 : decide (0 < v3) = false := decide_eq_false q3
                  clear htr
                  refine wp_region_quiet_below (by kernel_rfl) (by kernel_rfl) ?_
                  repeat (go_big_quiet_step (first | with_reducible exact call_grown CXY.out | with_reducible exact call_grown CYZ.out | with_reducible exact call_grown CXZ.out))
                  refine wpQuiet_nil ?_
                  intro _ hw'
                  obtain ⟨⟨dq, osq⟩, hw''⟩ := hw'
                  subst hw''
                  go_wp2_with fail
                  go_roundg (5 - (k + 1))
                  case measure => omega
                  case rel => exact ⟨k + 1, by omega, by go_num, rfl, HX.out.trans (below_regrown wr dq osq), Seg.ext HD.out (below_regrown wr dq osq)⟩
                · have d2 : decide (v2 ≤ 0) = false := decide_eq_false q2
                  clear htr
                  refine wp_region_quiet_below (by kernel_rfl) (by kernel_rfl) ?_
                  repeat (go_big_quiet_step (first | with_reducible exact call_grown CXY.out | with_reducible exact call_grown CYZ.out | with_reducible exact call_grown CXZ.out))
                  refine wpQuiet_nil ?_
                  intro _ hw'
                  obtain ⟨⟨dq, osq⟩, hw''⟩ := hw'
                  subst hw''
                  go_wp2_with fail
                  go_roundg (5 - (k + 1))
                  case measure => omega
                  case rel => exact ⟨k + 1, by omega, by go_num, rfl, HX.out.trans (below_regrown wr dq osq), Seg.ext HD.out (below_regrown wr dq osq)⟩
              · have d1 : decide (v1 ≤ 0) = false := decide_eq_false q1
                clear htr
                refine wp_region_quiet_below (by kernel_rfl) (by kernel_rfl) ?_
                repeat (go_big_quiet_step (first | with_reducible exact call_grown CXY.out | with_reducible exact call_grown CYZ.out | with_reducible exact call_grown CXZ.out))
                refine wpQuiet_nil ?_
                intro _ hw'
                obtain ⟨⟨dq, osq⟩, hw''⟩ := hw'
                subst hw''
                go_wp2_with fail
                go_roundg (5 - (k + 1))
                case measure => omega
                case rel => exact ⟨k + 1, by omega, by go_num, rfl, HX.out.trans (below_regrown wr dq osq), Seg.ext HD.out (below_regrown wr dq osq)⟩
            · have hk' : ¬ (k : Int) < 5 := by omega
              go_wp2_with fail
              go_roundg (5 - (j + 1))
              case measure => omega
              case rel => exact ⟨j + 1, by omega, by go_num, rfl, hX, hD⟩
        · have hj' : ¬ (j : Int) < 5 := by omega
          go_wp2_with fail
          go_roundg (5 - (i + 1))
          case measure => omega
          case rel => exact ⟨i + 1, by omega, by go_num, rfl, hX, hD⟩
    · have hi' : ¬ (i : Int) < 5 := by omega
      go_wp2_with fail
      go_ret
      exact ⟨rfl, hX⟩
end Go.Proofs.Ythadaahemhamdaa
