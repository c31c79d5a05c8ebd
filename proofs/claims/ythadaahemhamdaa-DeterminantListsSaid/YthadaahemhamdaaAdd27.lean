/- Add of package determinant. No statement of the seat is proved here. -/
import Derived.Test.YthadaahemhamdaaBin27
import Derived.Test.YthadaahemhamdaaRMerge2
namespace Go.Proofs.Ythadaahemhamdaa
open Go.RowKit Go.Sort
set_option linter.unusedVariables false

set_option maxRecDepth 100000 in
set_option maxHeartbeats 3200000 in
theorem add_any (A : Option Addr) (c : Nat) (l : List Dt) (d : Dt) (w : World) (hs : DtSeg w A l) (hn : l.length ≤ 900) :
    Calls Try.prog 32 #[.slice A l.length c, .agg #[.int .i64 d.proc, .int .i64 d.index, .int .i64 d.ev.kind, .int .i64 d.ev.inc, .int .i64 d.ev.frm, .int .i64 d.ev.sinc, .int .i64 d.ev.sidx, .int .i64 d.ev.ord, .int .i64 d.ev.val]] w (SegPost (stockV (l ++ [d])) w) := by
  have hB := Blk.new w 39 d.cells.toArray
  have hs1 := hs.alloc (.cells d.cells.toArray 39)
  have hX := (Ext.refl w).allocs (.cells d.cells.toArray 39)
  have hz1 : w.heap.size < (w.alloc (.cells d.cells.toArray 39)).heap.size := by simp
  obtain ⟨w1, hw1⟩ : ∃ w1, w.alloc (.cells d.cells.toArray 39) = w1 := ⟨_, rfl⟩
  rw [hw1] at hB hs1 hX hz1
  have HW := Lib.hid hw1
  have HSL := cpt_len (sortD l)
  rw [sortD_len] at HSL
  have hsl : (stockV l).length ≤ l.length := HSL
  have HA := Lib.hid (stock_asc l)
  have HH := Lib.hid (fun h => add_has (l := l) (d := d) h)
  have HN := Lib.hid (fun i hi hs h => add_new (l := l) (d := d) (i := i) hi hs h)
  have HST := Lib.hid (stock_own A c l w1 hs1 (by omega))
  clear hw1 hs HSL
  obtain ⟨out, hout⟩ : ∃ out, stockV l = out := ⟨_, rfl⟩
  rw [hout] at hsl HA HH HN HST
  obtain ⟨res, hres⟩ : ∃ res, stockV (l ++ [d]) = res := ⟨_, rfl⟩
  rw [hres] at HH HN ⊢
  clear hout hres hs1
  go_enter Try.func32, Try.ntmps32
  go_wp2_with fail
  have e := HW.out
  unfold Dt.cells at e
  rw [e]
  clear e HW
  refine HST.out.mono ?_
  rintro e w2 ⟨v, rfl, hown, hE2⟩
  obtain ⟨A2, c2, rfl, hs2, hc2, hc2m⟩ := own_slice hown
  have hB2 := hB.ext hE2
  have HOWN := Lib.hid hown
  clear hown HST
  obtain ⟨b0, b1, b2, b3, b4, b5, b6, b7, b8⟩ := blk9 hB2
  go_wp2_with fail
  refine (bsearch_any A2 c2 out d w2 hs2 HA.out (by omega)).mono ?_
  rintro e w3 ⟨k, hk, hsp, rfl, hE3⟩
  have HSP := Lib.hid hsp
  have hB3 := hB2.ext hE3
  have hX3 := Ext.trans hX (Ext.trans hE2 hE3)
  clear hsp b0 b1 b2 b3 b4 b5 b6 b7 b8
  rcases hh : hasB out d with _ | _
  · have HRES : Hid (out.take k ++ d :: out.drop k = res) := HN.out k hk HSP.out hh
    clear hh
    go_wp2_with (at_builtin; refine wpList_pushD _ rfl _ _ rfl w1.heap.size _ out rfl (own_extD HOWN.out hE3) rfl (by omega) (Below.size (Ext.trans hE2 hE3)) ?_; intro g6 cap6 w6 hown6 hc6 hc6m hg6 hblk6)
    have HVQ : Hid (∀ q, (Value.slice A2 out.length c2).ownBlock = some q → w1.heap.size ≤ q) := fun q hq => (HOWN.out.lt q hq).1
    have hE6 : Ext w1 w6 := Ext.own (Ext.trans hE2 hE3) (own_extD HOWN.out hE3) (Nat.le_refl _) hg6
    have hB6 : Blk w6 w.heap.size 39 d.cells.toArray := (hg6.block w.heap.size (Blk.lt hB3) (fun e => absurd (HVQ.out w.heap.size e.symm) (by omega))).trans hB3
    have hne6 : g6 ≠ w.heap.size := by
      intro e
      rcases hblk6 with h | h
      · have := HVQ.out g6 h; omega
      · exact absurd (Nat.lt_trans (Blk.lt hB3) h) (by rw [e]; exact Nat.lt_irrefl _)
    have hRow6 := (row_of_own hown6).1
    have hgw6 := (row_of_own hown6).2
    obtain ⟨X, hX⟩ : ∃ X, out ++ [zDt] = X := ⟨_, rfl⟩
    have hXl : X.length = out.length + 1 := by rw [← hX, List.length_append]; rfl
    rw [hX] at hown6 hRow6
    have HXE := Lib.hid hX
    clear hX hg6 hblk6
    have hkI : (k : Int) ≤ (out.length : Int) := by omega
    have hkI1 : (k : Int) < (out.length : Int) + 1 := by omega
    have hkI0 : (0 : Int) ≤ (k : Int) := by omega
    have hwk : IntKind.i64.wrap ((k : Int) + 1) = (k : Int) + 1 := IntWalk.i64_in _ (by omega)
    have hkJ : (0 : Int) ≤ (k : Int) + 1 := by omega
    have hkJ1 : (k : Int) + 1 ≤ (out.length : Int) + 1 := by omega
    go_upto_region 6 with fail
    have hR7 : Row w6.drew g6 X := hRow6
    have hB7 : Blk w6.drew w.heap.size 39 d.cells.toArray := hB6
    have hE7 : Ext w1 w6.drew := Below.drew hE6
    have hown7 : w6.drew.ownsRow w1.heap.size 39 9 (.slice (some ⟨g6, 0, none⟩) (out.length + 1) cap6) (out.length + 1) (X.flatMap Dt.cells) := hown6
    by_cases hkn : k = out.length
    · have HK : Hid (X.set k d = out.take k ++ d :: out.drop k) := by
        show X.set k d = _
        rw [← HXE.out, hkn, List.take_length, List.drop_length, List.set_append_right _ _ (Nat.le_refl _), Nat.sub_self]
        rfl
      have hsl1 := fun w => run_from w g6 (out.length + 1) cap6 (k + 1) ((k : Int) + 1) (by omega) (by omega)
      have hsl2 := fun w => run_from w g6 (out.length + 1) cap6 k (k : Int) rfl (by omega)
      rw [show out.length + 1 - (k + 1) = 0 by omega] at hsl1
      generalize (if cap6 = k + 1 then (⟨g6, 0, none⟩ : Addr) else ⟨g6, (k + 1) * 9, none⟩) = D1 at hsl1
      generalize (if cap6 = k then (⟨g6, 0, none⟩ : Addr) else ⟨g6, k * 9, none⟩) = S1 at hsl2
      have hcp := fun w d s dc sl sc => run_copy_none w 3 d s dc sl sc
      have HKN := Lib.hid hkn
      clear hkn
      go_still_tail 7, (by kernel_rfl)
      change wpList _ _ _ _ _ w6.drew
      have hkX : k < X.length := by omega
      have HO8 : Hid ((w6.drew.setCells g6 (k * 9) d.cells).ownsRow w1.heap.size 39 9 (.slice (some ⟨g6, 0, none⟩) (out.length + 1) cap6) (out.length + 1) ((X.set k d).flatMap Dt.cells)) := by
        have := own_sets hown7 (o := k * 9) (vs := d.cells) (by rw [flat_len Dt.cells 9 Dt.len, Dt.len]; omega)
        rw [setAll_flat Dt.cells 9 (by omega) Dt.len X k d hkX] at this
        exact this
      have HE8 : Hid (Ext w1 (w6.drew.setCells g6 (k * 9) d.cells)) := Ext.grownRow hE7 hgw6 (grownRow_sets _ _ _ _)
      obtain ⟨c0, c1, c2, c3, c4, c5, c6, c7, c8⟩ := Row.at_ hR7 hkX
      obtain ⟨f0, f1, f2, f3, f4, f5, f6, f7, f8⟩ := Row.frz hR7 hkX
      obtain ⟨t0, t1, t2, t3, t4, t5, t6, t7, t8⟩ := blk9 hB7
      generalize X[k] = zz at c0 c1 c2 c3 c4 c5 c6 c7 c8
      clear hR7 hB7 hE7 hown7 hown6 hRow6 hB6 hE6
      generalize w6.drew = w7 at *
      go_wp2_with fail
      go_ret
      have hrl : res.length = out.length + 1 := by rw [← HRES.out, ← HK.out, List.length_set, hXl]
      have hO := HO8.out
      rw [HK.out, HRES.out] at hO
      refine ⟨some ⟨g6, 0, none⟩, cap6, by rw [hrl]; rfl, ?_, by rw [hrl]; exact hc6, hc6m, Ext.trans hX HE8.out⟩
      unfold DtSeg
      rw [hrl]
      exact Seg.of_own hO
    · have hkn' : k < out.length := by omega
      have HK : Hid ((X.take (k + 1) ++ (X.drop k).take (out.length - k)).set k d = out.take k ++ d :: out.drop k) := by
        show (X.take (k + 1) ++ (X.drop k).take (out.length - k)).set k d = _
        have e1 : (out ++ [zDt]).take (k + 1) = out.take (k + 1) := List.take_append_of_le_length (by omega)
        have e2 : ((out ++ [zDt]).drop k).take (out.length - k) = out.drop k := by rw [List.drop_append_of_le_length (by omega), List.take_append_of_le_length (by rw [List.length_drop]; omega), List.take_of_length_le (by rw [List.length_drop]; omega)]
        rw [← HXE.out, e1, e2]
        exact ins_list d hkn'
      have hsl1 := fun w => run_from w g6 (out.length + 1) cap6 (k + 1) ((k : Int) + 1) (by omega) (by omega)
      have hsl2 := fun w => run_from w g6 (out.length + 1) cap6 k (k : Int) rfl (by omega)
      rw [show out.length + 1 - (k + 1) = out.length - k by omega, if_neg (show ¬ cap6 = k + 1 by omega)] at hsl1
      rw [if_neg (show ¬ cap6 = k by omega)] at hsl2
      have hcp := run_copy_det w6.drew 3 g6 k out.length (cap6 - (k + 1)) (cap6 - k) X hR7 hXl hkn'
      have hYl : ((X.drop k).take (out.length - k)).length = out.length - k := by rw [List.length_take, List.length_drop]; omega
      have hO8 : (w6.drew.setCells g6 ((k + 1) * 9) (((X.drop k).take (out.length - k)).flatMap Dt.cells)).ownsRow w1.heap.size 39 9 (.slice (some ⟨g6, 0, none⟩) (out.length + 1) cap6) (out.length + 1) ((X.take (k + 1) ++ (X.drop k).take (out.length - k)).flatMap Dt.cells) := by
        have := own_sets hown7 (o := (k + 1) * 9) (vs := ((X.drop k).take (out.length - k)).flatMap Dt.cells) (by rw [flat_len Dt.cells 9 Dt.len, flat_len Dt.cells 9 Dt.len, hYl]; omega)
        rw [setAll_flats X ((X.drop k).take (out.length - k)) (k + 1) (by rw [hYl]; omega), hYl, show X.drop (k + 1 + (out.length - k)) = [] from List.drop_eq_nil_of_le (by omega), List.append_nil] at this
        exact this
      have hE8 : Ext w1 (w6.drew.setCells g6 ((k + 1) * 9) (((X.drop k).take (out.length - k)).flatMap Dt.cells)) := Ext.grownRow hE7 hgw6 (grownRow_sets _ _ _ _)
      have hB8 : Blk (w6.drew.setCells g6 ((k + 1) * 9) (((X.drop k).take (out.length - k)).flatMap Dt.cells)) w.heap.size 39 d.cells.toArray := (World.heap_setCells_other _ g6 _ _ hB7.lt (fun e => hne6 e.symm)).trans hB7
      obtain ⟨Y, hY⟩ : ∃ Y, X.take (k + 1) ++ (X.drop k).take (out.length - k) = Y := ⟨_, rfl⟩
      have hYY : Y.length = out.length + 1 := by rw [← hY, List.length_append, hYl, List.length_take]; omega
      rw [hY] at HK hO8
      have HKN := Lib.hid hkn
      clear hkn hY hYl
      go_still_tail 7, (by kernel_rfl)
      change wpList _ _ _ _ _ w6.drew
      obtain ⟨w8, hw8⟩ : ∃ w8, w6.drew.setCells g6 ((k + 1) * 9) (((X.drop k).take (out.length - k)).flatMap Dt.cells) = w8 := ⟨_, rfl⟩
      rw [hw8] at hcp hO8 hE8 hB8
      clear hw8
      have hkX : k < Y.length := by omega
      have hR8 := (row_of_own hO8).1
      have HO9 : Hid ((w8.setCells g6 (k * 9) d.cells).ownsRow w1.heap.size 39 9 (.slice (some ⟨g6, 0, none⟩) (out.length + 1) cap6) (out.length + 1) ((Y.set k d).flatMap Dt.cells)) := by
        have := own_sets hO8 (o := k * 9) (vs := d.cells) (by rw [flat_len Dt.cells 9 Dt.len, Dt.len]; omega)
        rw [setAll_flat Dt.cells 9 (by omega) Dt.len Y k d hkX] at this
        exact this
      have HE9 : Hid (Ext w1 (w8.setCells g6 (k * 9) d.cells)) := Ext.grownRow hE8 hgw6 (grownRow_sets _ _ _ _)
      obtain ⟨c0, c1, c2, c3, c4, c5, c6, c7, c8⟩ := Row.at_ hR8 hkX
      obtain ⟨f0, f1, f2, f3, f4, f5, f6, f7, f8⟩ := Row.frz hR8 hkX
      obtain ⟨t0, t1, t2, t3, t4, t5, t6, t7, t8⟩ := blk9 hB8
      generalize Y[k] = zz at c0 c1 c2 c3 c4 c5 c6 c7 c8
      clear hR7 hB7 hE7 hown7 hown6 hRow6 hB6 hE6 hO8 hE8 hB8 hR8
      generalize w6.drew = w7 at *
      go_wp2_with fail
      go_ret
      have hrl : res.length = out.length + 1 := by rw [← HRES.out, ← HK.out, List.length_set, hYY]
      have hO := HO9.out
      rw [HK.out, HRES.out] at hO
      refine ⟨some ⟨g6, 0, none⟩, cap6, by rw [hrl]; rfl, ?_, by rw [hrl]; exact hc6, hc6m, Ext.trans hX HE9.out⟩
      unfold DtSeg
      rw [hrl]
      exact Seg.of_own hO
  · have HV : Hid (out = res) := HH.out hh
    clear hh
    go_wp2_with fail
    go_ret
    exact ⟨A2, c2, by rw [← HV.out]; rfl, by rw [← HV.out]; exact hs2.ext hE3, by rw [← HV.out]; exact hc2, hc2m, hX3⟩
end Go.Proofs.Ythadaahemhamdaa
