/- Has of package determinant. No statement of the seat is proved here. -/
import Derived.Test.YthadaahemhamdaaStock27
namespace Go.Proofs.Ythadaahemhamdaa
open Go.RowKit
set_option linter.unusedVariables false

set_option maxRecDepth 100000 in
set_option maxHeartbeats 1600000 in
theorem has_code (A : Option Addr) (c : Nat) (l : List Dt) (d : Dt) (w : World) (hs : DtSeg w A l) (hn : l.length ≤ 1000) :
    Calls Try.prog 34 #[.slice A l.length c, .agg #[.int .i64 d.proc, .int .i64 d.index, .int .i64 d.ev.kind, .int .i64 d.ev.inc, .int .i64 d.ev.frm, .int .i64 d.ev.sinc, .int .i64 d.ev.sidx, .int .i64 d.ev.ord, .int .i64 d.ev.val]] w (ExtPost w (.bool (hasB l d))) := by
  have hn' : (l.length : Int) ≤ 1000 := by omega
  have hB := Blk.new w 39 d.cells.toArray
  have hs1 := hs.alloc (.cells d.cells.toArray 39)
  have hX := (Ext.refl w).allocs (.cells d.cells.toArray 39)
  obtain ⟨w1, hw1⟩ : ∃ w1, w.alloc (.cells d.cells.toArray 39) = w1 := ⟨_, rfl⟩
  rw [hw1] at hB hs1 hX
  have HW := Lib.hid hw1
  clear hw1 hs
  go_enter Try.func34, Try.ntmps34
  go_wp2_with fail
  have e := HW.out
  unfold Dt.cells at e
  rw [e]
  clear e HW
  go_loopg [9] l.length (fun g i wr => HRel w1 l d g i wr)
  case atStart => exact ⟨0, Nat.zero_le _, rfl, rfl, Ext.refl _, rfl⟩
  case round =>
    obtain ⟨j, hj, rfl, rfl, hE, hno⟩ := hrel
    have HN := Lib.hid hno
    clear hno
    by_cases hlt : j < l.length
    · obtain ⟨b, off, rfl, p0, p1, p2, p3, p4, p5, p6, p7, p8⟩ := Dt.at_ (hs1.ext hE) hlt
      have HT := Lib.hid (hasB_take l d j hlt)
      have HH := Lib.hid (hasB_hit l d j hlt)
      have heq := fun w => eql_det w l[j] d
      unfold Dt.val at heq
      have hE2 := hE.allocs (.cells l[j].cells.toArray 39)
      obtain ⟨b0, b1, b2, b3, b4, b5, b6, b7, b8⟩ := blk9 (hB.ext hE2)
      obtain ⟨t0, t1, t2, t3, t4, t5, t6, t7, t8⟩ := blk9 (Blk.new wr 39 l[j].cells.toArray)
      obtain ⟨w2, hw2⟩ : ∃ w2, wr.alloc (.cells l[j].cells.toArray 39) = w2 := ⟨_, rfl⟩
      rw [hw2] at hE2 b0 b1 b2 b3 b4 b5 b6 b7 b8 t0 t1 t2 t3 t4 t5 t6 t7 t8
      have HW2 := Lib.hid hw2
      clear hw2
      rcases hsm : l[j].same d with _ | _
      · rw [hsm] at heq HT
        clear hsm
        generalize l[j] = x at *
        go_upto_region 4 with fail
        have e := HW2.out
        unfold Dt.cells at e
        try rw [e]
        clear e HW2
        go_wp2_with fail
        go_roundg (l.length - (j + 1))
        case measure => omega
        case rel => exact ⟨j + 1, by omega, by go_num, rfl, hE2, by rw [HT.out, HN.out]; rfl⟩
      · rw [hsm] at heq
        have HS := Lib.hid hsm
        clear hsm
        generalize l[j] = x at *
        go_upto_region 4 with fail
        have e := HW2.out
        unfold Dt.cells at e
        try rw [e]
        clear e HW2
        go_wp2_with fail
        go_ret
        refine ⟨?_, hX.trans (hE2)⟩
        rw [HH.out HS.out]
        rfl
    · have HF : Hid (hasB l d = false) := by have := HN.out; rw [List.take_of_length_le (by omega)] at this; exact this
      go_wp2_with fail
      go_ret
      refine ⟨?_, hX.trans hE⟩
      rw [HF.out]
      rfl
end Go.Proofs.Ythadaahemhamdaa
