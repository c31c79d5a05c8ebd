/- Compare of package determinant and of the reference. No statement of the seat is proved here. -/
import Derived.Test.YtfnnoncdocghjaaHasK
import Derived.Deep.RegionHeld3
import Derived.Deep.DeepCutAuto
namespace Go.Proofs.Ytfnnoncdocghjaa
open Go.RowKit
set_option linter.unusedVariables false
set_option maxRecDepth 100000

def cmpI (a b : Int) : Int := if a < b then -1 else if b < a then 1 else 0
def cmpL : List Int → List Int → Int
  | x :: xs, y :: ys => if cmpI x y = 0 then cmpL xs ys else cmpI x y
  | _, _ => 0
def Dt.keys (d : Dt) : List Int := [d.proc, d.index, d.ev.inc, d.ev.kind, d.ev.frm, d.ev.sinc, d.ev.sidx, d.ev.ord, d.ev.val]
def cmpD (a b : Dt) : Int := cmpL a.keys b.keys
theorem cmpI_bd (a b : Int) : -1 ≤ cmpI a b ∧ cmpI a b ≤ 1 := by unfold cmpI; split <;> (try split) <;> omega
theorem cmpL_bd : ∀ xs ys : List Int, -1 ≤ cmpL xs ys ∧ cmpL xs ys ≤ 1
  | [], _ => by simp [cmpL]
  | _ :: _, [] => by simp [cmpL]
  | x :: xs, y :: ys => by
    rw [cmpL]
    split
    · exact cmpL_bd xs ys
    · exact cmpI_bd x y

set_option maxHeartbeats 400000 in
theorem cmpInt_any (a b : Int) (w : World) : Calls Try.prog 77 #[.int .i64 a, .int .i64 b] w fun e w' => e = .returned (.int .i64 (cmpI a b)) ∧ w = w' := by
  have HV : Hid (cmpI a b = if a < b then -1 else if b < a then 1 else 0) := rfl
  have hn : ∀ z : Int, (z != z) = false := fun z => by simp
  by_cases h1 : a < b
  · go_enter Try.func77, Try.ntmps77
    go_wp2
    go_ret
    exact ⟨ret_int (by rw [HV.out, if_pos h1]), rfl⟩
  · by_cases h2 : b < a
    · go_enter Try.func77, Try.ntmps77
      go_wp2
      go_ret
      exact ⟨ret_int (by rw [HV.out, if_neg (by omega), if_pos h2]), rfl⟩
    · go_enter Try.func77, Try.ntmps77
      go_wp2
      go_ret
      exact ⟨ret_int (by rw [HV.out, if_neg (by omega), if_neg (by omega)]), rfl⟩

set_option maxHeartbeats 400000 in
theorem less_any (a b : Int) (w : World) : Calls Try.prog 64 #[.int .i64 a, .int .i64 b] w fun e w' => e = .returned (.int .i64 (cmpI a b)) ∧ w = w' := by
  have HV : Hid (cmpI a b = if a < b then -1 else if b < a then 1 else 0) := rfl
  by_cases h1 : a < b
  · go_enter Try.func64, Try.ntmps64
    go_wp2
    go_ret
    exact ⟨ret_int (by rw [HV.out, if_pos h1]), rfl⟩
  · by_cases h2 : b < a
    · go_enter Try.func64, Try.ntmps64
      go_wp2
      go_ret
      exact ⟨ret_int (by rw [HV.out, if_neg (by omega), if_pos h2]), rfl⟩
    · go_enter Try.func64, Try.ntmps64
      go_wp2
      go_ret
      exact ⟨ret_int (by rw [HV.out, if_neg (by omega), if_neg (by omega)]), rfl⟩

set_option maxHeartbeats 800000 in
theorem fields_any (d : Dt) (w : World) : Calls Try.prog 76 #[.agg #[.int .i64 d.proc, .int .i64 d.index, .int .i64 d.ev.kind, .int .i64 d.ev.inc, .int .i64 d.ev.frm, .int .i64 d.ev.sinc, .int .i64 d.ev.sidx, .int .i64 d.ev.ord, .int .i64 d.ev.val]] w fun e w' => e = .returned (.agg #[.int .i64 d.proc, .int .i64 d.index, .int .i64 d.ev.inc, .int .i64 d.ev.kind, .int .i64 d.ev.frm, .int .i64 d.ev.sinc, .int .i64 d.ev.sidx, .int .i64 d.ev.ord, .int .i64 d.ev.val]) ∧ Ext w w' := by
  go_enter Try.func76, Try.ntmps76
  go_wp2_with fail
  refine bodyPost_ret (v := .agg #[.int .i64 d.proc, .int .i64 d.index, .int .i64 d.ev.inc, .int .i64 d.ev.kind, .int .i64 d.ev.frm, .int .i64 d.ev.sinc, .int .i64 d.ev.sidx, .int .i64 d.ev.ord, .int .i64 d.ev.val]) (by simp [results, Try.results76, go_sem]) rfl ?_
  exact ⟨rfl, (((Ext.refl w).allocs _).allocs _).allocs _⟩

/-- the loop over the nine numbers -/
def CmpRel (w : World) (g5 g6 : Nat) (a b : Dt) (g : Nat) (i : Value) (wr : World) : Prop :=
  ∃ j : Nat, j ≤ 9 ∧ i = .int .i64 j ∧ g = 9 - j ∧ Blk wr g5 101 (a.keys.map (Value.int .i64)).toArray ∧ Blk wr g6 101 (b.keys.map (Value.int .i64)).toArray ∧ Ext w wr ∧ cmpL a.keys b.keys = cmpL (a.keys.drop j) (b.keys.drop j)
theorem keys_at {W : World} {g : Nat} {t : TypeId} {a : Dt} (h : Blk W g t (a.keys.map (Value.int .i64)).toArray) {j : Nat} (hj : j < 9) : W.cell? ⟨g, j, none⟩ = some (.int .i64 (a.keys[j]'hj)) := by
  rw [h.cell]
  have hl : j < a.keys.length := hj
  show (a.keys.map (Value.int .i64)).toArray[j]? = _
  rw [List.getElem?_toArray, List.getElem?_map, List.getElem?_eq_getElem hl]
  rfl
theorem cmp_step (a b : Dt) (j : Nat) (hj : j < 9) : cmpL (a.keys.drop j) (b.keys.drop j) = if cmpI (a.keys[j]'hj) (b.keys[j]'hj) = 0 then cmpL (a.keys.drop (j + 1)) (b.keys.drop (j + 1)) else cmpI (a.keys[j]'hj) (b.keys[j]'hj) := by
  rw [List.drop_eq_getElem_cons (show j < a.keys.length from hj), List.drop_eq_getElem_cons (show j < b.keys.length from hj), cmpL]
  rfl


set_option maxRecDepth 100000 in
set_option maxHeartbeats 3200000 in
theorem compare_ref (a b : Dt) (w : World) : Calls Try.prog 46 #[.agg #[.int .i64 a.proc, .int .i64 a.index, .int .i64 a.ev.kind, .int .i64 a.ev.inc, .int .i64 a.ev.frm, .int .i64 a.ev.sinc, .int .i64 a.ev.sidx, .int .i64 a.ev.ord, .int .i64 a.ev.val], .agg #[.int .i64 b.proc, .int .i64 b.index, .int .i64 b.ev.kind, .int .i64 b.ev.inc, .int .i64 b.ev.frm, .int .i64 b.ev.sinc, .int .i64 b.ev.sidx, .int .i64 b.ev.ord, .int .i64 b.ev.val]] w (ExtPost w (.int .i64 (cmpD a b))) := by
  go_enter Try.func46, Try.ntmps46
  go_wp2_with fail
  have hB5 := ((Blk.new ((w.alloc (.cells a.cells.toArray 32)).alloc (.cells b.cells.toArray 32)) 101 (a.keys.map (Value.int .i64)).toArray)).ext ((Ext.refl _).allocs (.cells (b.keys.map (Value.int .i64)).toArray 101))
  have hB6 := Blk.new (((w.alloc (.cells a.cells.toArray 32)).alloc (.cells b.cells.toArray 32)).alloc (.cells (a.keys.map (Value.int .i64)).toArray 101)) 101 (b.keys.map (Value.int .i64)).toArray
  have hX := ((((Ext.refl w).allocs (.cells a.cells.toArray 32)).allocs (.cells b.cells.toArray 32)).allocs (.cells (a.keys.map (Value.int .i64)).toArray 101)).allocs (.cells (b.keys.map (Value.int .i64)).toArray 101)
  rw [show ((w.alloc (.cells a.cells.toArray 32)).alloc (.cells b.cells.toArray 32)).heap.size = w.heap.size + 2 by simp] at hB5
  rw [show (((w.alloc (.cells a.cells.toArray 32)).alloc (.cells b.cells.toArray 32)).alloc (.cells (a.keys.map (Value.int .i64)).toArray 101)).heap.size = w.heap.size + 3 by simp] at hB6
  obtain ⟨W, hW⟩ : ∃ W, (((w.alloc (.cells a.cells.toArray 32)).alloc (.cells b.cells.toArray 32)).alloc (.cells (a.keys.map (Value.int .i64)).toArray 101)).alloc (.cells (b.keys.map (Value.int .i64)).toArray 101) = W := ⟨_, rfl⟩
  rw [hW] at hB5 hB6 hX
  obtain ⟨g5, hg5⟩ : ∃ g5, w.heap.size + 2 = g5 := ⟨_, rfl⟩
  obtain ⟨g6, hg6⟩ : ∃ g6, w.heap.size + 3 = g6 := ⟨_, rfl⟩
  rw [hg5] at hB5
  rw [hg6] at hB6
  have e := hW
  simp only [Dt.cells, Dt.keys, List.map_cons, List.map_nil] at e
  rw [e, show w.heap.size + 1 + 1 = g5 from hg5, show g5 + 1 = g6 by omega]
  clear e hW
  clear hg5 hg6
  go_loopg [7] 9 (fun g i wr => CmpRel w g5 g6 a b g i wr)
  case atStart => exact ⟨0, Nat.zero_le _, rfl, rfl, hB5, hB6, hX, rfl⟩
  case round =>
    clear hB5 hB6 hX
    obtain ⟨j, hj, rfl, rfl, hB5, hB6, hX, hEq⟩ := hrel
    have HQ := Lib.hid hEq
    clear hEq
    by_cases hlt : j < 9
    · have c5 := keys_at hB5 hlt
      have c6 := keys_at hB6 hlt
      have HS := Lib.hid (cmp_step a b j hlt)
      generalize a.keys[j]'hlt = x at *
      generalize b.keys[j]'hlt = y at *
      have hji : (j : Int) < 9 := by omega
      have hj0 : (0 : Int) ≤ (j : Int) := by omega
      go_wp2_with fail
      go_quiet ((go_at_call 64; exact Calls.quiet_of_same ((less_any x y _).mono fun _ _ h => ⟨h.1, h.2.symm⟩)))
      by_cases h0 : cmpI x y = 0
      · have h0' : (cmpI x y != 0) = false := by simp [h0]
        have H0 := Lib.hid h0
        clear h0
        generalize cmpI x y = z at *
        go_wp2_with fail
        go_roundg (9 - (j + 1))
        case measure => omega
        case rel => exact ⟨j + 1, by omega, by go_num, rfl, hB5, hB6, hX.drewN _, by rw [HQ.out, HS.out, if_pos H0.out]⟩
      · have h0' : (cmpI x y != 0) = true := by simp [h0]
        have H0 := Lib.hid h0
        clear h0
        generalize cmpI x y = z at *
        go_wp2_with fail
        go_ret
        refine ⟨ret_int ?_, hX.drewN _⟩
        show z = cmpL a.keys b.keys
        rw [HQ.out, HS.out, if_neg H0.out]
    · obtain rfl : j = 9 := by omega
      go_wp2_with fail
      go_ret
      refine ⟨ret_int ?_, hX⟩
      show 0 = cmpL a.keys b.keys
      rw [HQ.out]
      rfl
end Go.Proofs.Ytfnnoncdocghjaa
