/- Carry and Dets of known determinants, of the code and of the reference. No statement of the seat is proved here. -/
import Derived.Test.YtfnnoncdocghjaaSelK
import Derived.Test.YtfnnoncdocghjaaCount
import Derived.Test.YtfnnoncdocghjaaMemPlain
namespace Go.Proofs.Ytfnnoncdocghjaa
open Go.RowKit
set_option linter.unusedVariables false
set_option maxRecDepth 100000

def keepF (n : Int) (k : Kn) : Bool := decide ((cnt k.h : Int) ≤ n)
set_option maxHeartbeats 1600000 in
theorem carry_any (A : Option Addr) (c : Nat) (l : List Kn) (n : Int) (w : World) (hs : KnSeg w A l) (hn : l.length ≤ 1000) (hok : ∀ k ∈ l, okH k.h) :
    Calls Try.prog 34 #[.slice A l.length c, .int .i64 n] w (OwnPostK (l.filter (keepF n)) w) := by
  have hn' : (l.length : Int) ≤ 1000 := by omega
  have HOK := Lib.hid hok
  clear hok
  go_enter Try.func34, Try.ntmps34
  go_wp2_with fail
  go_loopg [5, 10] l.length (fun g v i wr => FtRel w l (keepF n) g v i wr)
  case atStart => exact ⟨0, Nat.zero_le _, rfl, rfl, Ext.refl w, own_nil _ _ _ _ _⟩
  case round =>
    obtain ⟨j, hj, rfl, rfl, hE, hown⟩ := hrel
    by_cases hlt : j < l.length
    · obtain ⟨b, off, rfl, p0, p1, p2, p3, p4, p5, p6, p7, p8, p9⟩ := Kn.at_ (hs.ext hE) hlt
      have HT := Lib.hid (filter_take l (keepF n) j hlt)
      have hk := HOK.out _ (List.getElem_mem hlt)
      have HL := List.length_filter_le (keepF n) (l.take j)
      rw [List.length_take] at HL
      obtain ⟨x, hx⟩ : ∃ x, l[j] = x := ⟨_, rfl⟩
      rw [hx] at p0 p1 p2 p3 p4 p5 p6 p7 p8 p9 HT hk
      clear hx
      have hz := hE.size
      obtain ⟨L, hL⟩ : ∃ L, (l.take j).filter (keepF n) = L := ⟨_, rfl⟩
      rw [hL] at HT HL hown
      clear hL
      have hc := cnt_le x.h
      have HC := Lib.hid (fun w => count_any x.h w hk.1 hk.2)
      obtain ⟨cx, hcx⟩ : ∃ cx, cnt x.h = cx := ⟨_, rfl⟩
      have HKD : Hid (keepF n x = decide ((cx : Int) ≤ n)) := by show keepF n x = _; unfold keepF; rw [hcx]
      rw [hcx] at hc HC
      clear hk hcx
      by_cases hi : (cx : Int) ≤ n
      · have HK : Hid (keepF n x = true) := by show keepF n x = true; rw [HKD.out]; exact decide_eq_true hi
        clear HKD
        go_wp2_with fail
        refine (HC.out _).mono ?_
        rintro e w2 ⟨rfl, rfl⟩
        go_wp2_with (at_builtin; refine wpList_push_at Kn.cells 10 80 Kn.len Kn.one (by omega) rfl _ _ _ rfl w.heap.size 34 Try.underlying26 (by kernel_rfl) u5 L x (wr.heap.size + 1) rfl (hown.alloc _) rfl (by first | rfl | simp) (by unfold maxLen; omega) (by omega) (by simp; omega) ?_; intro v' w6 hown6 hg6)
        have hE6 : Ext w w6 := Ext.own (hE.allocs _) (hown.alloc _) (Nat.le_refl _) hg6
        go_roundg (l.length - (j + 1))
        case measure => omega
        case rel => exact ⟨j + 1, by omega, by go_num, rfl, hE6, by rw [HT.out, HK.out]; exact hown6⟩
      · have HK : Hid (keepF n x = false) := by show keepF n x = false; rw [HKD.out]; exact decide_eq_false hi
        have hi' : decide ((cx : Int) ≤ n) = false := decide_eq_false hi
        clear HKD
        go_wp2_with fail
        refine (HC.out _).mono ?_
        rintro e w2 ⟨rfl, rfl⟩
        go_wp2_with fail
        go_roundg (l.length - (j + 1))
        case measure => omega
        case rel => exact ⟨j + 1, by omega, by go_num, rfl, hE.allocs _, by rw [HT.out, HK.out]; exact hown.alloc _⟩
    · obtain rfl : j = l.length := by omega
      rw [List.take_of_length_le (Nat.le_refl _)] at hown
      go_wp2_with fail
      go_ret
      exact ⟨_, rfl, hown, hE⟩
def DsRel (w : World) (l : List Kn) (g : Nat) (v i : Value) (wr : World) : Prop := ∃ j : Nat, j ≤ l.length ∧ i = .int .i64 j ∧ g = l.length - j ∧ Ext w wr ∧ wr.ownsRow w.heap.size 32 9 v ((l.take j).map Kn.d).length (((l.take j).map Kn.d).flatMap Dt.cells)
theorem map_take_succ (l : List Kn) (j : Nat) (hj : j < l.length) : (l.take (j + 1)).map Kn.d = (l.take j).map Kn.d ++ [l[j].d] := by
  rw [List.take_succ_eq_append_getElem hj, List.map_append]
  rfl
set_option maxHeartbeats 1600000 in
theorem dets_any (A : Option Addr) (c : Nat) (l : List Kn) (w : World) (hs : KnSeg w A l) (hn : l.length ≤ 1000) :
    Calls Try.prog 33 #[.slice A l.length c] w (RowPost w 32 9 (l.map Kn.d).length ((l.map Kn.d).flatMap Dt.cells)) := by
  have hn' : (l.length : Int) ≤ 1000 := by omega
  go_enter Try.func33, Try.ntmps33
  go_wp2_with fail
  go_loopg [3, 8] l.length (fun g v i wr => DsRel w l g v i wr)
  case atStart => exact ⟨0, Nat.zero_le _, rfl, rfl, Ext.refl w, own_nil _ _ _ _ _⟩
  case round =>
    obtain ⟨j, hj, rfl, rfl, hE, hown⟩ := hrel
    by_cases hlt : j < l.length
    · obtain ⟨b, off, rfl, p0, p1, p2, p3, p4, p5, p6, p7, p8, p9⟩ := Kn.at_ (hs.ext hE) hlt
      have HT := Lib.hid (map_take_succ l j hlt)
      have HL : ((l.take j).map Kn.d).length ≤ l.length := by rw [List.length_map, List.length_take]; omega
      obtain ⟨x, hx⟩ : ∃ x, l[j] = x := ⟨_, rfl⟩
      rw [hx] at p0 p1 p2 p3 p4 p5 p6 p7 p8 p9 HT
      clear hx
      have hz := hE.size
      obtain ⟨L, hL⟩ : ∃ L, (l.take j).map Kn.d = L := ⟨_, rfl⟩
      rw [hL] at HT HL hown
      clear hL
      go_wp2_with (at_builtin; refine wpList_push_at Dt.cells 9 72 Dt.len Dt.one (by omega) rfl _ _ _ rfl w.heap.size 32 Try.underlying56 (by kernel_rfl) u3 L x.d (wr.heap.size + 1) rfl (hown.alloc _) rfl (by first | rfl | simp) (by unfold maxLen; omega) (by omega) (by simp; omega) ?_; intro v' w6 hown6 hg6)
      have hE6 : Ext w w6 := Ext.own (hE.allocs _) (hown.alloc _) (Nat.le_refl _) hg6
      go_roundg (l.length - (j + 1))
      case measure => omega
      case rel => exact ⟨j + 1, by omega, by go_num, rfl, hE6, by rw [HT.out]; exact hown6⟩
    · obtain rfl : j = l.length := by omega
      rw [List.take_of_length_le (Nat.le_refl _)] at hown
      go_wp2_with fail
      go_ret
      exact ⟨_, rfl, hown, hE⟩
end Go.Proofs.Ytfnnoncdocghjaa
