/- Cut, Discard and Add of the reference of chapter 27. No statement of the seat is proved here. -/
import Derived.Test.YthadaahemhamdaaCuts27
import Derived.Test.YthadaahemhamdaaRMerge2
import Derived.Test.YthadaahemhamdaaUnionPlain
namespace Go.Proofs.Ythadaahemhamdaa
open Go.RowKit
set_option linter.unusedVariables false

set_option maxRecDepth 100000 in
set_option maxHeartbeats 1600000 in
theorem rcut_any (A : Option Addr) (c : Nat) (l : List Dt) (p k : Int) (w : World) (hs : DtSeg w A l) (hn : l.length ≤ 1000) :
    Calls Try.prog 36 #[.slice A l.length c, .int .i64 p, .int .i64 k] w (OwnPost (l.filter (keepC p k)) w) := by
  have hn' : (l.length : Int) ≤ 1000 := by omega
  go_enter Try.func36, Try.ntmps36
  go_wp2_with fail
  go_loopg [7, 8] l.length (fun g v i wr => FtRel w l (keepC p k) g v i wr)
  case atStart => exact ⟨0, Nat.zero_le _, rfl, rfl, Ext.refl w, own_nil _ _ _ _ _⟩
  case round =>
    obtain ⟨j, hj, rfl, rfl, hE, hown⟩ := hrel
    by_cases hlt : j < l.length
    · obtain ⟨b, off, rfl, p0, p1, p2, p3, p4, p5, p6, p7, p8⟩ := Dt.at_ (hs.ext hE) hlt
      have HT := Lib.hid (filter_take l (keepC p k) j hlt)
      have HL := List.length_filter_le (keepC p k) (l.take j)
      rw [List.length_take] at HL
      obtain ⟨x, hx⟩ : ∃ x, l[j] = x := ⟨_, rfl⟩
      rw [hx] at p0 p1 p2 p3 p4 p5 p6 p7 p8 HT
      clear hx
      have hz := hE.size
      obtain ⟨L, hL⟩ : ∃ L, (l.take j).filter (keepC p k) = L := ⟨_, rfl⟩
      rw [hL] at HT HL hown
      clear hL
      have HKD : Hid (keepC p k x = ((x.proc != p) || decide (x.index ≤ k))) := rfl
      by_cases hp : x.proc = p
      · have hp' : (x.proc != p) = false := by simp [hp]
        by_cases hi : x.index ≤ k
        · have hi' : decide (x.index ≤ k) = true := decide_eq_true hi
          have HK : Hid (keepC p k x = true) := by show keepC p k x = true; rw [HKD.out, hp', hi']; rfl
          clear HKD hp
          go_wp2_with (at_builtin; refine wpList_push_at Dt.cells 9 72 Dt.len Dt.one (by omega) rfl _ _ _ rfl w.heap.size 39 Try.underlying24 (by kernel_rfl) u7 L x wr.heap.size rfl hown rfl rfl (by unfold maxLen; omega) (by omega) (by omega) ?_; intro v' w6 hown6 hg6)
          have hE6 : Ext w w6 := Ext.own hE hown (Nat.le_refl _) hg6
          go_roundg (l.length - (j + 1))
          case measure => omega
          case rel => exact ⟨j + 1, by omega, by go_num, rfl, hE6, by rw [HT.out, HK.out]; exact hown6⟩
        · have hi' : decide (x.index ≤ k) = false := decide_eq_false hi
          have HK : Hid (keepC p k x = false) := by show keepC p k x = false; rw [HKD.out, hp', hi']; rfl
          clear HKD hp
          go_wp2_with fail
          go_roundg (l.length - (j + 1))
          case measure => omega
          case rel => exact ⟨j + 1, by omega, by go_num, rfl, hE, by rw [HT.out, HK.out]; exact hown⟩
      · have hp' : (x.proc != p) = true := by simp [hp]
        have HK : Hid (keepC p k x = true) := by show keepC p k x = true; rw [HKD.out, hp']; rfl
        clear HKD hp
        go_wp2_with (at_builtin; refine wpList_push_at Dt.cells 9 72 Dt.len Dt.one (by omega) rfl _ _ _ rfl w.heap.size 39 Try.underlying24 (by kernel_rfl) u7 L x wr.heap.size rfl hown rfl rfl (by unfold maxLen; omega) (by omega) (by omega) ?_; intro v' w6 hown6 hg6)
        have hE6 : Ext w w6 := Ext.own hE hown (Nat.le_refl _) hg6
        go_roundg (l.length - (j + 1))
        case measure => omega
        case rel => exact ⟨j + 1, by omega, by go_num, rfl, hE6, by rw [HT.out, HK.out]; exact hown6⟩
    · obtain rfl : j = l.length := by omega
      rw [List.take_of_length_le (Nat.le_refl _)] at hown
      go_wp2_with fail
      go_ret
      exact ⟨_, rfl, hown, hE⟩

set_option maxRecDepth 100000 in
set_option maxHeartbeats 1600000 in
theorem rdiscard_any (A : Option Addr) (c : Nat) (l : List Dt) (p k : Int) (w : World) (hs : DtSeg w A l) (hn : l.length ≤ 1000) :
    Calls Try.prog 37 #[.slice A l.length c, .int .i64 p, .int .i64 k] w (OwnPost (l.filter (keepD p k)) w) := by
  have hn' : (l.length : Int) ≤ 1000 := by omega
  go_enter Try.func37, Try.ntmps37
  go_wp2_with fail
  go_loopg [7, 8] l.length (fun g v i wr => FtRel w l (keepD p k) g v i wr)
  case atStart => exact ⟨0, Nat.zero_le _, rfl, rfl, Ext.refl w, own_nil _ _ _ _ _⟩
  case round =>
    obtain ⟨j, hj, rfl, rfl, hE, hown⟩ := hrel
    by_cases hlt : j < l.length
    · obtain ⟨b, off, rfl, p0, p1, p2, p3, p4, p5, p6, p7, p8⟩ := Dt.at_ (hs.ext hE) hlt
      have HT := Lib.hid (filter_take l (keepD p k) j hlt)
      have HL := List.length_filter_le (keepD p k) (l.take j)
      rw [List.length_take] at HL
      obtain ⟨x, hx⟩ : ∃ x, l[j] = x := ⟨_, rfl⟩
      rw [hx] at p0 p1 p2 p3 p4 p5 p6 p7 p8 HT
      clear hx
      have hz := hE.size
      obtain ⟨L, hL⟩ : ∃ L, (l.take j).filter (keepD p k) = L := ⟨_, rfl⟩
      rw [hL] at HT HL hown
      clear hL
      have HKD : Hid (keepD p k x = ((x.proc != p) || decide (k < x.index))) := rfl
      by_cases hp : x.proc = p
      · have hp' : (x.proc != p) = false := by simp [hp]
        by_cases hi : k < x.index
        · have hi' : decide (k < x.index) = true := decide_eq_true hi
          have HK : Hid (keepD p k x = true) := by show keepD p k x = true; rw [HKD.out, hp', hi']; rfl
          clear HKD hp
          go_wp2_with (at_builtin; refine wpList_push_at Dt.cells 9 72 Dt.len Dt.one (by omega) rfl _ _ _ rfl w.heap.size 39 Try.underlying24 (by kernel_rfl) u7 L x wr.heap.size rfl hown rfl rfl (by unfold maxLen; omega) (by omega) (by omega) ?_; intro v' w6 hown6 hg6)
          have hE6 : Ext w w6 := Ext.own hE hown (Nat.le_refl _) hg6
          go_roundg (l.length - (j + 1))
          case measure => omega
          case rel => exact ⟨j + 1, by omega, by go_num, rfl, hE6, by rw [HT.out, HK.out]; exact hown6⟩
        · have hi' : decide (k < x.index) = false := decide_eq_false hi
          have HK : Hid (keepD p k x = false) := by show keepD p k x = false; rw [HKD.out, hp', hi']; rfl
          clear HKD hp
          go_wp2_with fail
          go_roundg (l.length - (j + 1))
          case measure => omega
          case rel => exact ⟨j + 1, by omega, by go_num, rfl, hE, by rw [HT.out, HK.out]; exact hown⟩
      · have hp' : (x.proc != p) = true := by simp [hp]
        have HK : Hid (keepD p k x = true) := by show keepD p k x = true; rw [HKD.out, hp']; rfl
        clear HKD hp
        go_wp2_with (at_builtin; refine wpList_push_at Dt.cells 9 72 Dt.len Dt.one (by omega) rfl _ _ _ rfl w.heap.size 39 Try.underlying24 (by kernel_rfl) u7 L x wr.heap.size rfl hown rfl rfl (by unfold maxLen; omega) (by omega) (by omega) ?_; intro v' w6 hown6 hg6)
        have hE6 : Ext w w6 := Ext.own hE hown (Nat.le_refl _) hg6
        go_roundg (l.length - (j + 1))
        case measure => omega
        case rel => exact ⟨j + 1, by omega, by go_num, rfl, hE6, by rw [HT.out, HK.out]; exact hown6⟩
    · obtain rfl : j = l.length := by omega
      rw [List.take_of_length_le (Nat.le_refl _)] at hown
      go_wp2_with fail
      go_ret
      exact ⟨_, rfl, hown, hE⟩

set_option maxRecDepth 100000 in
set_option maxHeartbeats 1600000 in
theorem radd_any (A : Option Addr) (c : Nat) (l : List Dt) (d : Dt) (w : World) (hs : DtSeg w A l) (hn : l.length ≤ 500) :
    Calls Try.prog 33 #[.slice A l.length c, .agg #[.int .i64 d.proc, .int .i64 d.index, .int .i64 d.ev.kind, .int .i64 d.ev.inc, .int .i64 d.ev.frm, .int .i64 d.ev.sinc, .int .i64 d.ev.sidx, .int .i64 d.ev.ord, .int .i64 d.ev.val]] w (SegPost (stockV (l ++ [d])) w) := by
  have hB := Blk.new w 39 d.cells.toArray
  have hs1 := hs.alloc (.cells d.cells.toArray 39)
  have hX := (Ext.refl w).allocs (.cells d.cells.toArray 39)
  obtain ⟨w1, hw1⟩ : ∃ w1, w.alloc (.cells d.cells.toArray 39) = w1 := ⟨_, rfl⟩
  have hz0 : w1.heap.size = w.heap.size + 1 := by rw [← hw1]; simp
  rw [hw1] at hB hs1 hX
  have HW := Lib.hid hw1
  clear hw1 hs
  obtain ⟨b0, b1, b2, b3, b4, b5, b6, b7, b8⟩ := blk9 hB
  have HONE := Lib.hid (own_one w1 d)
  have hX2 := (Ext.refl w1).allocs (.cells d.cells.toArray 39)
  obtain ⟨w2, hw2⟩ : ∃ w2, w1.alloc (.cells d.cells.toArray 39) = w2 := ⟨_, rfl⟩
  rw [hw2] at hX2 HONE
  have HW2 := Lib.hid hw2
  clear hw2
  have HS2 : Hid (DtSeg w2 (some ⟨w1.heap.size, 0, none⟩) [d]) := Seg.of_own HONE.out
  have hs2 := hs1.ext hX2
  clear HONE
  obtain ⟨z1, hz1⟩ : ∃ z1, w1.heap.size = z1 := ⟨_, rfl⟩
  rw [hz1] at HS2 hz0
  have HZ1 := Lib.hid hz0.symm
  clear hz1 hz0
  have HM := Lib.hid (rmerge_any A (some ⟨z1, 0, none⟩) c 1 l [d] w2 hs2 HS2.out (by omega) (by simp))
  generalize stockV (l ++ [d]) = out at *
  go_enter Try.func33, Try.ntmps33
  go_wp2_with fail
  have e := HW.out
  unfold Dt.cells at e
  rw [e]
  clear e HW
  have e := HW2.out
  unfold Dt.cells at e
  rw [e]
  clear e HW2
  rw [HZ1.out]
  refine HM.out.mono ?_
  rintro e w3 ⟨A3, c3, rfl, hs3, hc3, hm3, hE3⟩
  go_wp2_with fail
  go_ret
  exact ⟨A3, c3, rfl, hs3, hc3, hm3, Ext.trans hX (Ext.trans hX2 hE3)⟩
end Go.Proofs.Ythadaahemhamdaa
