/- Cut and Discard of known determinants. No statement of the seat is proved here. -/
import Derived.Test.YtfnnoncdocghjaaKnSort
namespace Go.Proofs.Ytfnnoncdocghjaa
open Go.RowKit
set_option linter.unusedVariables false

def OwnPostK (l : List Kn) (w : World) (e : Ending) (w' : World) : Prop := ∃ v, e = .returned v ∧ w'.ownsRow w.heap.size 34 10 v l.length (l.flatMap Kn.cells) ∧ Ext w w'
def keepC (p k : Int) (d : Kn) : Bool := (d.d.proc != p) || decide (d.d.index ≤ k)
def keepD (p k : Int) (d : Kn) : Bool := (d.d.proc != p) || decide (k < d.d.index)
theorem filter_take (l : List Kn) (f : Kn → Bool) (j : Nat) (hj : j < l.length) : (l.take (j + 1)).filter f = if f l[j] then (l.take j).filter f ++ [l[j]] else (l.take j).filter f := by
  rw [List.take_succ_eq_append_getElem hj, List.filter_append]
  by_cases h : f l[j] = true
  · rw [if_pos h]; simp [h]
  · rw [if_neg h]; simp [h]
def FtRel (w : World) (l : List Kn) (f : Kn → Bool) (g : Nat) (v i : Value) (wr : World) : Prop := ∃ j : Nat, j ≤ l.length ∧ i = .int .i64 j ∧ g = l.length - j ∧ Ext w wr ∧ wr.ownsRow w.heap.size 34 10 v ((l.take j).filter f).length (((l.take j).filter f).flatMap Kn.cells)

set_option maxRecDepth 100000 in
set_option maxHeartbeats 1600000 in
theorem cut_any (A : Option Addr) (c : Nat) (l : List Kn) (p k : Int) (w : World) (hs : KnSeg w A l) (hn : l.length ≤ 1000) :
    Calls Try.prog 38 #[.slice A l.length c, .int .i64 p, .int .i64 k] w (OwnPostK (l.filter (keepC p k)) w) := by
  have hn' : (l.length : Int) ≤ 1000 := by omega
  go_enter Try.func38, Try.ntmps38
  go_wp2_with fail
  go_loopg [7, 12] l.length (fun g v i wr => FtRel w l (keepC p k) g v i wr)
  case atStart => exact ⟨0, Nat.zero_le _, rfl, rfl, Ext.refl w, own_nil _ _ _ _ _⟩
  case round =>
    obtain ⟨j, hj, rfl, rfl, hE, hown⟩ := hrel
    by_cases hlt : j < l.length
    · obtain ⟨b, off, rfl, p0, p1, p2, p3, p4, p5, p6, p7, p8, p9⟩ := Kn.at_ (hs.ext hE) hlt
      have HT := Lib.hid (filter_take l (keepC p k) j hlt)
      have HL := List.length_filter_le (keepC p k) (l.take j)
      rw [List.length_take] at HL
      obtain ⟨x, hx⟩ : ∃ x, l[j] = x := ⟨_, rfl⟩
      rw [hx] at p0 p1 p2 p3 p4 p5 p6 p7 p8 p9 HT
      clear hx
      have hz := hE.size
      obtain ⟨L, hL⟩ : ∃ L, (l.take j).filter (keepC p k) = L := ⟨_, rfl⟩
      rw [hL] at HT HL hown
      clear hL
      have HKD : Hid (keepC p k x = ((x.d.proc != p) || decide (x.d.index ≤ k))) := rfl
      by_cases hp : x.d.proc = p
      · have hp' : (x.d.proc != p) = false := by simp [hp]
        by_cases hi : x.d.index ≤ k
        · have hi' : decide (x.d.index ≤ k) = true := decide_eq_true hi
          have HK : Hid (keepC p k x = true) := by show keepC p k x = true; rw [HKD.out, hp', hi']; rfl
          clear HKD hp
          go_wp2_with (at_builtin; refine wpList_push_at Kn.cells 10 80 Kn.len Kn.one (by omega) rfl _ _ _ rfl w.heap.size 34 Try.underlying26 (by kernel_rfl) u7 L x (wr.heap.size + 1) rfl (hown.alloc _) rfl (by first | rfl | simp) (by unfold maxLen; omega) (by omega) (by simp; omega) ?_; intro v' w6 hown6 hg6)
          have hE6 : Ext w w6 := Ext.own (hE.allocs _) (hown.alloc _) (Nat.le_refl _) hg6
          go_roundg (l.length - (j + 1))
          case measure => omega
          case rel => exact ⟨j + 1, by omega, by go_num, rfl, hE6, by rw [HT.out, HK.out]; exact hown6⟩
        · have hi' : decide (x.d.index ≤ k) = false := decide_eq_false hi
          have HK : Hid (keepC p k x = false) := by show keepC p k x = false; rw [HKD.out, hp', hi']; rfl
          clear HKD hp
          go_wp2_with fail
          go_roundg (l.length - (j + 1))
          case measure => omega
          case rel => exact ⟨j + 1, by omega, by go_num, rfl, hE.allocs _, by rw [HT.out, HK.out]; exact hown.alloc _⟩
      · have hp' : (x.d.proc != p) = true := by simp [hp]
        have HK : Hid (keepC p k x = true) := by show keepC p k x = true; rw [HKD.out, hp']; rfl
        clear HKD hp
        go_wp2_with (at_builtin; refine wpList_push_at Kn.cells 10 80 Kn.len Kn.one (by omega) rfl _ _ _ rfl w.heap.size 34 Try.underlying26 (by kernel_rfl) u7 L x (wr.heap.size + 1) rfl (hown.alloc _) rfl (by first | rfl | simp) (by unfold maxLen; omega) (by omega) (by simp; omega) ?_; intro v' w6 hown6 hg6)
        have hE6 : Ext w w6 := Ext.own (hE.allocs _) (hown.alloc _) (Nat.le_refl _) hg6
        go_roundg (l.length - (j + 1))
        case measure => omega
        case rel => exact ⟨j + 1, by omega, by go_num, rfl, hE6, by rw [HT.out, HK.out]; exact hown6⟩
    · obtain rfl : j = l.length := by omega
      rw [List.take_of_length_le (Nat.le_refl _)] at hown
      go_wp2_with fail
      go_ret
      exact ⟨_, rfl, hown, hE⟩

set_option maxRecDepth 100000 in
set_option maxHeartbeats 1600000 in
theorem discard_any (A : Option Addr) (c : Nat) (l : List Kn) (p k : Int) (w : World) (hs : KnSeg w A l) (hn : l.length ≤ 1000) :
    Calls Try.prog 40 #[.slice A l.length c, .int .i64 p, .int .i64 k] w (OwnPostK (l.filter (keepD p k)) w) := by
  have hn' : (l.length : Int) ≤ 1000 := by omega
  go_enter Try.func40, Try.ntmps40
  go_wp2_with fail
  go_loopg [7, 12] l.length (fun g v i wr => FtRel w l (keepD p k) g v i wr)
  case atStart => exact ⟨0, Nat.zero_le _, rfl, rfl, Ext.refl w, own_nil _ _ _ _ _⟩
  case round =>
    obtain ⟨j, hj, rfl, rfl, hE, hown⟩ := hrel
    by_cases hlt : j < l.length
    · obtain ⟨b, off, rfl, p0, p1, p2, p3, p4, p5, p6, p7, p8, p9⟩ := Kn.at_ (hs.ext hE) hlt
      have HT := Lib.hid (filter_take l (keepD p k) j hlt)
      have HL := List.length_filter_le (keepD p k) (l.take j)
      rw [List.length_take] at HL
      obtain ⟨x, hx⟩ : ∃ x, l[j] = x := ⟨_, rfl⟩
      rw [hx] at p0 p1 p2 p3 p4 p5 p6 p7 p8 p9 HT
      clear hx
      have hz := hE.size
      obtain ⟨L, hL⟩ : ∃ L, (l.take j).filter (keepD p k) = L := ⟨_, rfl⟩
      rw [hL] at HT HL hown
      clear hL
      have HKD : Hid (keepD p k x = ((x.d.proc != p) || decide (k < x.d.index))) := rfl
      by_cases hp : x.d.proc = p
      · have hp' : (x.d.proc != p) = false := by simp [hp]
        by_cases hi : k < x.d.index
        · have hi' : decide (k < x.d.index) = true := decide_eq_true hi
          have HK : Hid (keepD p k x = true) := by show keepD p k x = true; rw [HKD.out, hp', hi']; rfl
          clear HKD hp
          go_wp2_with (at_builtin; refine wpList_push_at Kn.cells 10 80 Kn.len Kn.one (by omega) rfl _ _ _ rfl w.heap.size 34 Try.underlying26 (by kernel_rfl) u7 L x (wr.heap.size + 1) rfl (hown.alloc _) rfl (by first | rfl | simp) (by unfold maxLen; omega) (by omega) (by simp; omega) ?_; intro v' w6 hown6 hg6)
          have hE6 : Ext w w6 := Ext.own (hE.allocs _) (hown.alloc _) (Nat.le_refl _) hg6
          go_roundg (l.length - (j + 1))
          case measure => omega
          case rel => exact ⟨j + 1, by omega, by go_num, rfl, hE6, by rw [HT.out, HK.out]; exact hown6⟩
        · have hi' : decide (k < x.d.index) = false := decide_eq_false hi
          have HK : Hid (keepD p k x = false) := by show keepD p k x = false; rw [HKD.out, hp', hi']; rfl
          clear HKD hp
          go_wp2_with fail
          go_roundg (l.length - (j + 1))
          case measure => omega
          case rel => exact ⟨j + 1, by omega, by go_num, rfl, hE.allocs _, by rw [HT.out, HK.out]; exact hown.alloc _⟩
      · have hp' : (x.d.proc != p) = true := by simp [hp]
        have HK : Hid (keepD p k x = true) := by show keepD p k x = true; rw [HKD.out, hp']; rfl
        clear HKD hp
        go_wp2_with (at_builtin; refine wpList_push_at Kn.cells 10 80 Kn.len Kn.one (by omega) rfl _ _ _ rfl w.heap.size 34 Try.underlying26 (by kernel_rfl) u7 L x (wr.heap.size + 1) rfl (hown.alloc _) rfl (by first | rfl | simp) (by unfold maxLen; omega) (by omega) (by simp; omega) ?_; intro v' w6 hown6 hg6)
        have hE6 : Ext w w6 := Ext.own (hE.allocs _) (hown.alloc _) (Nat.le_refl _) hg6
        go_roundg (l.length - (j + 1))
        case measure => omega
        case rel => exact ⟨j + 1, by omega, by go_num, rfl, hE6, by rw [HT.out, HK.out]; exact hown6⟩
    · obtain rfl : j = l.length := by omega
      rw [List.take_of_length_le (Nat.le_refl _)] at hown
      go_wp2_with fail
      go_ret
      exact ⟨_, rfl, hown, hE⟩
set_option maxRecDepth 100000 in
set_option maxHeartbeats 1600000 in
theorem rcut_any (A : Option Addr) (c : Nat) (l : List Kn) (p k : Int) (w : World) (hs : KnSeg w A l) (hn : l.length ≤ 1000) :
    Calls Try.prog 39 #[.slice A l.length c, .int .i64 p, .int .i64 k] w (OwnPostK (l.filter (keepC p k)) w) := by
  have hn' : (l.length : Int) ≤ 1000 := by omega
  go_enter Try.func39, Try.ntmps39
  go_wp2_with fail
  go_loopg [7, 8] l.length (fun g v i wr => FtRel w l (keepC p k) g v i wr)
  case atStart => exact ⟨0, Nat.zero_le _, rfl, rfl, Ext.refl w, own_nil _ _ _ _ _⟩
  case round =>
    obtain ⟨j, hj, rfl, rfl, hE, hown⟩ := hrel
    by_cases hlt : j < l.length
    · obtain ⟨b, off, rfl, p0, p1, p2, p3, p4, p5, p6, p7, p8, p9⟩ := Kn.at_ (hs.ext hE) hlt
      have HT := Lib.hid (filter_take l (keepC p k) j hlt)
      have HL := List.length_filter_le (keepC p k) (l.take j)
      rw [List.length_take] at HL
      obtain ⟨x, hx⟩ : ∃ x, l[j] = x := ⟨_, rfl⟩
      rw [hx] at p0 p1 p2 p3 p4 p5 p6 p7 p8 p9 HT
      clear hx
      have hz := hE.size
      obtain ⟨L, hL⟩ : ∃ L, (l.take j).filter (keepC p k) = L := ⟨_, rfl⟩
      rw [hL] at HT HL hown
      clear hL
      have HKD : Hid (keepC p k x = ((x.d.proc != p) || decide (x.d.index ≤ k))) := rfl
      by_cases hp : x.d.proc = p
      · have hp' : (x.d.proc != p) = false := by simp [hp]
        by_cases hi : x.d.index ≤ k
        · have hi' : decide (x.d.index ≤ k) = true := decide_eq_true hi
          have HK : Hid (keepC p k x = true) := by show keepC p k x = true; rw [HKD.out, hp', hi']; rfl
          clear HKD hp
          go_wp2_with (at_builtin; refine wpList_push_at Kn.cells 10 80 Kn.len Kn.one (by omega) rfl _ _ _ rfl w.heap.size 34 Try.underlying26 (by kernel_rfl) u7 L x wr.heap.size rfl hown rfl rfl (by unfold maxLen; omega) (by omega) (by omega) ?_; intro v' w6 hown6 hg6)
          have hE6 : Ext w w6 := Ext.own hE hown (Nat.le_refl _) hg6
          go_roundg (l.length - (j + 1))
          case measure => omega
          case rel => exact ⟨j + 1, by omega, by go_num, rfl, hE6, by rw [HT.out, HK.out]; exact hown6⟩
        · have hi' : decide (x.d.index ≤ k) = false := decide_eq_false hi
          have HK : Hid (keepC p k x = false) := by show keepC p k x = false; rw [HKD.out, hp', hi']; rfl
          clear HKD hp
          go_wp2_with fail
          go_roundg (l.length - (j + 1))
          case measure => omega
          case rel => exact ⟨j + 1, by omega, by go_num, rfl, hE, by rw [HT.out, HK.out]; exact hown⟩
      · have hp' : (x.d.proc != p) = true := by simp [hp]
        have HK : Hid (keepC p k x = true) := by show keepC p k x = true; rw [HKD.out, hp']; rfl
        clear HKD hp
        go_wp2_with (at_builtin; refine wpList_push_at Kn.cells 10 80 Kn.len Kn.one (by omega) rfl _ _ _ rfl w.heap.size 34 Try.underlying26 (by kernel_rfl) u7 L x wr.heap.size rfl hown rfl rfl (by unfold maxLen; omega) (by omega) (by omega) ?_; intro v' w6 hown6 hg6)
        have hE6 : Ext w w6 := Ext.own hE hown (Nat.le_refl _) hg6
        go_roundg (l.length - (j + 1))
        case measure => omega
        case rel => exact ⟨j + 1, by omega, by go_num, rfl, hE6, by rw [HT.out, HK.out]; exact hown6⟩
    · obtain rfl : j = l.length := by omega
      rw [List.take_of_length_le (Nat.le_refl _)] at hown
      go_wp2_with fail
      go_ret
      exact ⟨_, rfl, hown, hE⟩

set_option maxRecDepth 100000 in
set_option maxHeartbeats 1600000 in
theorem rdiscard_any (A : Option Addr) (c : Nat) (l : List Kn) (p k : Int) (w : World) (hs : KnSeg w A l) (hn : l.length ≤ 1000) :
    Calls Try.prog 41 #[.slice A l.length c, .int .i64 p, .int .i64 k] w (OwnPostK (l.filter (keepD p k)) w) := by
  have hn' : (l.length : Int) ≤ 1000 := by omega
  go_enter Try.func41, Try.ntmps41
  go_wp2_with fail
  go_loopg [7, 8] l.length (fun g v i wr => FtRel w l (keepD p k) g v i wr)
  case atStart => exact ⟨0, Nat.zero_le _, rfl, rfl, Ext.refl w, own_nil _ _ _ _ _⟩
  case round =>
    obtain ⟨j, hj, rfl, rfl, hE, hown⟩ := hrel
    by_cases hlt : j < l.length
    · obtain ⟨b, off, rfl, p0, p1, p2, p3, p4, p5, p6, p7, p8, p9⟩ := Kn.at_ (hs.ext hE) hlt
      have HT := Lib.hid (filter_take l (keepD p k) j hlt)
      have HL := List.length_filter_le (keepD p k) (l.take j)
      rw [List.length_take] at HL
      obtain ⟨x, hx⟩ : ∃ x, l[j] = x := ⟨_, rfl⟩
      rw [hx] at p0 p1 p2 p3 p4 p5 p6 p7 p8 p9 HT
      clear hx
      have hz := hE.size
      obtain ⟨L, hL⟩ : ∃ L, (l.take j).filter (keepD p k) = L := ⟨_, rfl⟩
      rw [hL] at HT HL hown
      clear hL
      have HKD : Hid (keepD p k x = ((x.d.proc != p) || decide (k < x.d.index))) := rfl
      by_cases hp : x.d.proc = p
      · have hp' : (x.d.proc != p) = false := by simp [hp]
        by_cases hi : k < x.d.index
        · have hi' : decide (k < x.d.index) = true := decide_eq_true hi
          have HK : Hid (keepD p k x = true) := by show keepD p k x = true; rw [HKD.out, hp', hi']; rfl
          clear HKD hp
          go_wp2_with (at_builtin; refine wpList_push_at Kn.cells 10 80 Kn.len Kn.one (by omega) rfl _ _ _ rfl w.heap.size 34 Try.underlying26 (by kernel_rfl) u7 L x wr.heap.size rfl hown rfl rfl (by unfold maxLen; omega) (by omega) (by omega) ?_; intro v' w6 hown6 hg6)
          have hE6 : Ext w w6 := Ext.own hE hown (Nat.le_refl _) hg6
          go_roundg (l.length - (j + 1))
          case measure => omega
          case rel => exact ⟨j + 1, by omega, by go_num, rfl, hE6, by rw [HT.out, HK.out]; exact hown6⟩
        · have hi' : decide (k < x.d.index) = false := decide_eq_false hi
          have HK : Hid (keepD p k x = false) := by show keepD p k x = false; rw [HKD.out, hp', hi']; rfl
          clear HKD hp
          go_wp2_with fail
          go_roundg (l.length - (j + 1))
          case measure => omega
          case rel => exact ⟨j + 1, by omega, by go_num, rfl, hE, by rw [HT.out, HK.out]; exact hown⟩
      · have hp' : (x.d.proc != p) = true := by simp [hp]
        have HK : Hid (keepD p k x = true) := by show keepD p k x = true; rw [HKD.out, hp']; rfl
        clear HKD hp
        go_wp2_with (at_builtin; refine wpList_push_at Kn.cells 10 80 Kn.len Kn.one (by omega) rfl _ _ _ rfl w.heap.size 34 Try.underlying26 (by kernel_rfl) u7 L x wr.heap.size rfl hown rfl rfl (by unfold maxLen; omega) (by omega) (by omega) ?_; intro v' w6 hown6 hg6)
        have hE6 : Ext w w6 := Ext.own hE hown (Nat.le_refl _) hg6
        go_roundg (l.length - (j + 1))
        case measure => omega
        case rel => exact ⟨j + 1, by omega, by go_num, rfl, hE6, by rw [HT.out, HK.out]; exact hown6⟩
    · obtain rfl : j = l.length := by omega
      rw [List.take_of_length_le (Nat.le_refl _)] at hown
      go_wp2_with fail
      go_ret
      exact ⟨_, rfl, hown, hE⟩

end Go.Proofs.Ytfnnoncdocghjaa
