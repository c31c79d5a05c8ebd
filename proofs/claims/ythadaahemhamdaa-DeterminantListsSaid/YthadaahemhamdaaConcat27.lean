/- slices.Grow and slices.Concat at determinants. No statement of the seat is proved here. -/
import Derived.Test.YthadaahemhamdaaClone27
import Derived.Test.YthadaahemhamdaaGrowLay27
namespace Go.Proofs.Ythadaahemhamdaa
open Go.RowKit
set_option linter.unusedVariables false

theorem zero_size (n : Nat) : (Builtin.zeroCells (Value.agg #[.int .i64 0, .int .i64 0, .int .i64 0, .int .i64 0, .int .i64 0, .int .i64 0, .int .i64 0, .int .i64 0, .int .i64 0]).cells n).size = n * 9 := by
  simp [Builtin.zeroCells, Value.cells]
theorem grow_any (n : Nat) (hn : n ≤ 2000) (w : World) : Calls Try.prog 52 #[.slice none 0 0, .int .i64 n] w (OwnPost [] w) := by
  obtain ⟨i0, hi, hz0, hz1, hz2⟩ := info_parts infoDet
  by_cases h0 : n = 0
  · subst h0
    refine Calls.mono (Any8.slices_Grow_room Try.growDet none 0 0 0 w (by omega) (by omega) (by omega) (by omega)) ?_
    rintro e w' ⟨rfl, rfl⟩
    exact ⟨_, rfl, World.ownsRow_nil _ _ _ _, Ext.refl _⟩
  · refine Calls.mono (Any8.slices_Grow_grow Try.growDet i0 _ hi hz0 (by rw [hz1]; omega) none 0 0 n [] w (by omega) (by omega) (by rw [hz2]; omega) (by omega) (by simp) (fun _ => rfl) (fun a h => by cases h)) ?_
    rintro e w' ⟨rfl, rfl⟩
    have hge := grownCap_ge w (0 + n) 0 39
    have hcm := grownCap_le_maxLen w (0 + n) 0 39 (by unfold maxLen; omega)
    refine ⟨_, rfl, ?_, Ext.allocs (Below.drew (Ext.refl w)) _⟩
    refine World.ownsRow_made (base := w.heap.size) (e := 39) (size := 9) w.drew _ _ (Nat.le_refl _) hcm ?_
    rw [Array.size_append, Array.size_append, zero_size, zero_size]
    simp only [List.size_toArray, List.length_nil]
    show 0 + (0 + n - 0) * 9 + (grownCap w (0 + n) 0 39 - (0 + n)) * 9 = grownCap w (0 + n) 0 39 * 9
    omega
def CcRel (w : World) (a b : List Dt) (g : Nat) (sv iv : Value) (wr : World) : Prop := ∃ k : Nat, k ≤ 2 ∧ iv = .int .i64 k ∧ g = 2 - k ∧ wr = w ∧ sv = .int .i64 ((if k = 0 then 0 else if k = 1 then a.length else a.length + b.length : Nat) : Int)
def CdRel (w : World) (gS : Nat) (cs : Array Value) (a b : List Dt) (g : Nat) (v iv : Value) (wr : World) : Prop := ∃ k : Nat, k ≤ 2 ∧ iv = .int .i64 k ∧ g = 2 - k ∧ Ext w wr ∧ wr.ownsRow w.heap.size 39 9 v (if k = 0 then [] else if k = 1 then a else a ++ b).length ((if k = 0 then [] else if k = 1 then a else a ++ b).flatMap Dt.cells)
set_option maxRecDepth 100000 in
set_option maxHeartbeats 1600000 in
theorem concat_two (gS : Nat) (A B : Option Addr) (ca cb : Nat) (a b : List Dt) (w : World) (hS : Blk w gS 24 #[.slice A a.length ca, .slice B b.length cb]) (ha : DtSeg w A a) (hb : DtSeg w B b) (hla : a.length ≤ 500) (hlb : b.length ≤ 500) :
    Calls Try.prog 45 #[.slice (some ⟨gS, 0, none⟩) 2 2] w (OwnPost (a ++ b) w) := by
  have hla' : (a.length : Int) ≤ 500 := by omega
  have hlb' : (b.length : Int) ≤ 500 := by omega
  have s0 := hS.cell 0
  have s1 := hS.cell 1
  simp only [List.getElem?_toArray, List.getElem?_cons_zero, List.getElem?_cons_succ] at s0 s1
  go_enter Try.func45, Try.ntmps45
  go_wp2_with fail
  go_loopg [3, 11] 2 (fun g sv iv wr => CcRel w a b g sv iv wr)
  case atStart => exact ⟨0, by omega, rfl, rfl, rfl, rfl⟩
  case round =>
    obtain ⟨k, hk, rfl, rfl, rfl, rfl⟩ := hrel
    have hk3 : k = 0 ∨ k = 1 ∨ k = 2 := by omega
    rcases hk3 with rfl | rfl | rfl
    · simp only [if_true]
      go_wp2_with fail
      go_roundg (2 - (0 + 1))
      case measure => omega
      case rel => exact ⟨1, by omega, rfl, rfl, rfl, by simp⟩
    · simp only [if_true, if_neg (show ¬ (1 : Nat) = 0 by omega)]
      go_wp2_with fail
      go_roundg (2 - (1 + 1))
      case measure => omega
      case rel => exact ⟨2, by omega, rfl, rfl, rfl, by go_num⟩
    · simp only [if_neg (show ¬ (2 : Nat) = 0 by omega), if_neg (show ¬ (2 : Nat) = 1 by omega)]
      have hg := grow_any (a.length + b.length) (by omega) wr
      simp only [Int.natCast_add] at hg
      go_wp2_with fail
      refine hg.mono ?_
      rintro e w2 ⟨v, rfl, hown, hE2⟩
      have hsz := hE2.size
      have HS := Lib.hid hS
      clear hg s0 s1 hS
      obtain ⟨w0, hw0⟩ : ∃ w0, wr = w0 := ⟨_, rfl⟩
      rw [hw0] at hE2 hown hsz HS ha hb ⊢
      have HW0 := Lib.hid hw0
      clear hw0
      go_wp2_with fail
      go_loopg [6, 27] 2 (fun g v iv wr => CdRel w0 gS #[] a b g v iv wr)
      case atStart => exact ⟨0, by omega, rfl, rfl, hE2, hown⟩
      case round =>
        clear hown hE2
        obtain ⟨k, hk, rfl, rfl, hE, hown⟩ := hrel
        have hsz2 := hE.size
        have s0 := (HS.out.ext hE).cell 0
        have s1 := (HS.out.ext hE).cell 1
        simp only [List.getElem?_toArray, List.getElem?_cons_zero, List.getElem?_cons_succ] at s0 s1
        have hk3 : k = 0 ∨ k = 1 ∨ k = 2 := by omega
        rcases hk3 with rfl | rfl | rfl
        · simp only [if_true] at hown
          have HOWN := Lib.hid hown
          clear hown
          go_wp2_with (at_builtin; refine wpList_cat _ rfl _ _ rfl w0.heap.size _ [] a rfl HOWN.out A ca rfl (ha.ext hE) (by simp; omega) hsz2 ?_; intro v' w' hown' hg')
          have hE' : Ext w0 w' := Ext.own hE HOWN.out (Nat.le_refl _) hg'
          go_roundg (2 - (0 + 1))
          case measure => omega
          case rel => exact ⟨1, by omega, rfl, rfl, hE', by simpa using hown'⟩
        · simp only [if_true, if_neg (show ¬ (1 : Nat) = 0 by omega)] at hown
          have HOWN := Lib.hid hown
          clear hown
          go_wp2_with (at_builtin; refine wpList_cat _ rfl _ _ rfl w0.heap.size _ a b rfl HOWN.out B cb rfl (hb.ext hE) (by omega) hsz2 ?_; intro v' w' hown' hg')
          have hE' : Ext w0 w' := Ext.own hE HOWN.out (Nat.le_refl _) hg'
          go_roundg (2 - (1 + 1))
          case measure => omega
          case rel => exact ⟨2, by omega, rfl, rfl, hE', hown'⟩
        · simp only [if_neg (show ¬ (2 : Nat) = 0 by omega), if_neg (show ¬ (2 : Nat) = 1 by omega)] at hown
          go_wp2_with fail
          go_ret
          exact ⟨_, rfl, by rw [HW0.out]; exact hown, by rw [HW0.out]; exact hE⟩
end Go.Proofs.Ythadaahemhamdaa
