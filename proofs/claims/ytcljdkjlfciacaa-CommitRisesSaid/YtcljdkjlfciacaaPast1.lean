/- Small functions of chapter 35: lists of ints compared, labels. No statement of the seat is proved here. -/
import Derived.Test.YtcljdkjlfciacaaLin
import Derived.Test.YtcljdkjlfciacaaPastPlain2
import Derived.Deep.LoopGhost
import Derived.Deep.CutRange
import Derived.Deep.RegionHeld3
import Derived.Lib.QuietBelow
namespace Go.Proofs.Ytcljdkjlfciacaa
open Go.RowKit
set_option linter.unusedVariables false

def SmRel (w : World) (a : List Int) (g : Nat) (i : Value) (wr : World) : Prop := ∃ j : Nat, j ≤ a.length ∧ i = .int .i64 j ∧ g = a.length - j ∧ Ext w wr
set_option maxHeartbeats 800000 in
theorem same_ints (A B : Option Addr) (ca cb : Nat) (a : List Int) (w : World) (ha : IntSeg w A a) (hb : IntSeg w B a) (hn : a.length ≤ 1000) :
    Calls Try.prog 14 #[.slice A a.length ca, .slice B a.length cb] w (ExtPost w (.bool true)) := by
  have hn' : (a.length : Int) ≤ 1000 := by omega
  have hne : ((a.length : Int) != (a.length : Int)) = false := by simp
  go_enter Try.func14, Try.ntmps14
  go_wp2_with fail
  go_loopg [5] a.length (fun g i wr => SmRel w a g i wr)
  case atStart => exact ⟨0, Nat.zero_le _, rfl, rfl, Ext.refl _⟩
  case round =>
    obtain ⟨j, hj, rfl, rfl, hE⟩ := hrel
    by_cases hlt : j < a.length
    · obtain ⟨ba, oa, rfl, p0⟩ := Iv.at_ (ha.ext hE) hlt
      obtain ⟨bb, ob, rfl, p1⟩ := Iv.at_ (hb.ext hE) hlt
      have hj0 : (0 : Int) ≤ (j : Int) := by omega
      have hja : (j : Int) < (a.length : Int) := by omega
      generalize a[j] = x at *
      have hxy : (x != x) = false := by simp
      go_wp2_with fail
      go_quiet (fail)
      go_wp2_with fail
      go_roundg (a.length - (j + 1))
      case measure => omega
      case rel => exact ⟨j + 1, by omega, by go_num, rfl, hE.drewN _⟩
    · go_wp2_with fail
      go_ret
      exact ⟨rfl, hE⟩


def EqRel (w : World) (a b : List Int) (g : Nat) (i : Value) (wr : World) : Prop := ∃ j q : Nat, j ≤ a.length ∧ i = .int .i64 j ∧ g = a.length - j ∧ wr = w.drewN q ∧ ∀ k, k < j → elX a k = elX b k
theorem elX_at {X : List Int} {q : Nat} (h : q < X.length) : elX X q = X[q] := by unfold elX; rw [List.getD_eq_getElem?_getD, List.getElem?_eq_getElem h]; rfl
set_option maxHeartbeats 1600000 in
theorem equal_any (A B : Option Addr) (ca cb n : Nat) (a b : List Int) (w : World) (ha : IntSeg w A a) (hb : IntSeg w B b) (hl : a.length = n) (hl' : b.length = n) (hn : n ≤ 1000) :
    Calls Try.prog 32 #[.slice A n ca, .slice B n cb] w (StillPost w (.bool (decide (a = b)))) := by
  have hn' : (n : Int) ≤ 1000 := by omega
  have hne : ((n : Int) != (n : Int)) = false := by simp
  go_enter Try.func32, Try.ntmps32
  go_wp2_with fail
  go_loopg [13] n (fun g i wr => ∃ j q : Nat, j ≤ n ∧ i = .int .i64 j ∧ g = n - j ∧ Hid (wr = w.drewN q) ∧ Hid (∀ k, k < j → elX a k = elX b k))
  case atStart => exact ⟨0, 0, Nat.zero_le _, rfl, rfl, (rfl : w = w.drewN 0), fun k hk => absurd hk (Nat.not_lt_zero _)⟩
  case round =>
    obtain ⟨j, q, hj, rfl, rfl, HW, HI⟩ := hrel
    have ha' : IntSeg wr A a := by rw [HW.out]; exact ha.drewN q
    have hb' : IntSeg wr B b := by rw [HW.out]; exact hb.drewN q
    by_cases hlt : j < n
    · obtain ⟨ba, oa, rfl, p0⟩ := Iv.at_ ha' (show j < a.length by omega)
      obtain ⟨bb, ob, rfl, p1⟩ := Iv.at_ hb' (show j < b.length by omega)
      have hj0 : (0 : Int) ≤ (j : Int) := by omega
      have hja : (j : Int) < (n : Int) := by omega
      by_cases he : a[j]'(by omega) = b[j]'(by omega)
      · have hxy : (a[j]'(by omega) != b[j]'(by omega)) = false := by simp [he]
        have HI2 : Hid (∀ k, k < j + 1 → elX a k = elX b k) := fun k hk => by
          by_cases e : k = j
          · subst e; rw [elX_at (by omega), elX_at (by omega)]; exact he
          · exact HI.out k (by omega)
        generalize a[j]'(by omega) = x at *
        generalize b[j]'(by omega) = y at *
        clear he HI
        go_wp2_with fail
        go_quiet (fail)
        go_wp2_with fail
        go_roundg (n - (j + 1))
        case measure => omega
        case rel => exact ⟨j + 1, q + nq, by omega, by go_num, rfl, (show _ = _ by rw [HW.out, World.drewN_drewN]), HI2.out⟩
      · have hxy : (a[j]'(by omega) != b[j]'(by omega)) = true := by simp [he]
        have HN : Hid (decide (a = b) = false) := by
          show decide (a = b) = false
          apply decide_eq_false
          intro e
          subst e
          exact he rfl
        generalize a[j]'(by omega) = x at *
        generalize b[j]'(by omega) = y at *
        clear he HI
        go_wp2_with fail
        go_quiet (fail)
        go_wp2_with fail
        go_ret
        exact ⟨by rw [HN.out]; rfl, q + nq, by rw [HW.out, World.drewN_drewN]⟩
    · have HN : Hid (decide (a = b) = true) := by
        show decide (a = b) = true
        apply decide_eq_true
        exact elX_ext (by omega) fun k hk => HI.out k (by omega)
      clear HI
      go_wp2_with fail
      go_ret
      exact ⟨by rw [HN.out]; rfl, q, HW.out⟩

theorem blk2 {w : World} {g : Nat} {t : TypeId} {a b : Value} (h : Blk w g t #[a, b]) : w.cell? ⟨g, 0, none⟩ = some a ∧ w.cell? ⟨g, 1, none⟩ = some b := by simp [h.cell]
set_option maxHeartbeats 1600000 in
theorem labelled_any (A : Option Addr) (c : Nat) (es : List Ev) (inc idx : Int) (w : World) (hs : EvSeg w A es) (hc : es.length ≤ c) (hm : c ≤ maxLen) :
    Calls Try.prog 34 #[.slice A es.length c, .agg #[.int .i64 inc, .int .i64 idx]] w (ExtPost w (.bool (labB es inc idx))) := by
  unfold maxLen at hm
  have HL : Hid (labB es inc idx = if idx = 0 then inc == 0 else (decide (0 < idx) && (decide (idx ≤ (es.length : Int)) && ((es.getD (idx - 1).toNat zEv).inc == inc)))) := rfl
  have hX := (Ext.refl w).allocs (.cells #[.int .i64 inc, .int .i64 idx] 59)
  by_cases h0 : idx = 0
  · subst h0
    rw [if_pos rfl] at HL
    go_enter Try.func34, Try.ntmps34
    go_wp2_with fail
    go_ret
    exact ⟨by rw [HL.out]; rfl, hX⟩
  · rw [if_neg h0] at HL
    have h0' : (idx == 0) = false := by simp [h0]
    by_cases h1 : 0 < idx
    · have d1 : decide (0 < idx) = true := decide_eq_true h1
      by_cases h2 : idx ≤ (es.length : Int)
      · have d2 : decide (idx ≤ (es.length : Int)) = true := decide_eq_true h2
        obtain ⟨k, hk⟩ : ∃ k : Nat, idx = (k : Int) + 1 := ⟨(idx - 1).toNat, by omega⟩
        have hkl : k < es.length := by omega
        obtain ⟨b, off, rfl, p0, p1, p2, p3, p4, p5, p6⟩ := Ev.at_ (hs.ext hX) hkl
        have HK : Hid ((es.getD (idx - 1).toNat zEv).inc = es[k].inc) := by
          show (es.getD (idx - 1).toNat zEv).inc = es[k].inc
          rw [show (idx - 1).toNat = k by omega, List.getD_eq_getElem?_getD, List.getElem?_eq_getElem hkl]; rfl
        rw [HK.out, d1, d2] at HL
        generalize es[k] = x at *
        subst hk
        clear p0 p2 p3 p4 p5 p6 d1 d2 h0 hs HK
        have d1 : decide ((0 : Int) < (k : Int) + 1) = true := decide_eq_true (by omega)
        have d2 : decide ((k : Int) + 1 ≤ (es.length : Int)) = true := decide_eq_true (by omega)
        have hb := Blk.new w 59 #[.int .i64 inc, .int .i64 ((k : Int) + 1)]
        obtain ⟨b0, b1⟩ := blk2 hb
        have hw1 : IntKind.i64.wrap ((k : Int) + 1 - 1) = (k : Int) := by rw [show (k : Int) + 1 - 1 = (k : Int) by omega]; exact IntWalk.i64_in _ (by omega)
        obtain ⟨w1, e1⟩ : ∃ w1, w.alloc (.cells #[.int .i64 inc, .int .i64 ((k : Int) + 1)] 59) = w1 := ⟨_, rfl⟩
        have HW := Lib.hid e1
        rw [e1] at b0 b1 p1 hX
        clear e1 hb
        go_enter Try.func34, Try.ntmps34
        go_upto_region 3 with fail
        rw [HW.out]
        go_quiet (fail)
        go_wp2_with fail
        go_ret
        exact ⟨by rw [HL.out]; rfl, hX.drewN _⟩
      · have d1' : decide (0 < idx) = true := d1
        have d2 : decide (idx ≤ (es.length : Int)) = false := decide_eq_false h2
        rw [d1, d2] at HL
        have hb := Blk.new w 59 #[.int .i64 inc, .int .i64 idx]
        obtain ⟨b0, b1⟩ := blk2 hb
        obtain ⟨w1, e1⟩ : ∃ w1, w.alloc (.cells #[.int .i64 inc, .int .i64 idx] 59) = w1 := ⟨_, rfl⟩
        have HW := Lib.hid e1
        rw [e1] at b0 b1 hX
        clear e1 hb
        go_enter Try.func34, Try.ntmps34
        go_upto_region 3 with fail
        rw [HW.out]
        go_quiet (fail)
        go_wp2_with fail
        go_ret
        exact ⟨by rw [HL.out]; rfl, hX.drewN _⟩
    · have d1 : decide (0 < idx) = false := decide_eq_false h1
      rw [d1] at HL
      have hb := Blk.new w 59 #[.int .i64 inc, .int .i64 idx]
      obtain ⟨b0, b1⟩ := blk2 hb
      obtain ⟨w1, e1⟩ : ∃ w1, w.alloc (.cells #[.int .i64 inc, .int .i64 idx] 59) = w1 := ⟨_, rfl⟩
      have HW := Lib.hid e1
      rw [e1] at b0 b1 hX
      clear e1 hb
      go_enter Try.func34, Try.ntmps34
      go_upto_region 3 with fail
      rw [HW.out]
      go_quiet (fail)
      go_wp2_with fail
      go_ret
      exact ⟨by rw [HL.out]; rfl, hX.drewN _⟩

/-- what process.Label gives -/
def lblV (es : List Ev) (idx : Int) : Int × Int × Bool := if idx < 0 ∨ (es.length : Int) < idx then (0, 0, false) else if idx = 0 then (0, 0, true) else ((es.getD (idx - 1).toNat zEv).inc, idx, true)
def LblPost (es : List Ev) (idx : Int) (w : World) (e : Ending) (w' : World) : Prop := e = .returned (.tuple #[.agg #[.int .i64 (lblV es idx).1, .int .i64 (lblV es idx).2.1], .bool (lblV es idx).2.2]) ∧ Ext w w'
set_option maxHeartbeats 1600000 in
theorem label_any (A : Option Addr) (c : Nat) (es : List Ev) (idx : Int) (w : World) (hs : EvSeg w A es) (hc : es.length ≤ c) (hm : c ≤ maxLen) :
    Calls Try.prog 53 #[.agg #[.slice none 0 0, .slice A es.length c, .slice none 0 0, .slice none 0 0], .int .i64 idx] w (LblPost es idx w) := by
  unfold maxLen at hm
  have HL : Hid (lblV es idx = if idx < 0 ∨ (es.length : Int) < idx then (0, 0, false) else if idx = 0 then (0, 0, true) else ((es.getD (idx - 1).toNat zEv).inc, idx, true)) := rfl
  have HP : Hid (∀ e w', LblPost es idx w e w' = (e = .returned (.tuple #[.agg #[.int .i64 (lblV es idx).1, .int .i64 (lblV es idx).2.1], .bool (lblV es idx).2.2]) ∧ Ext w w')) := fun _ _ => rfl
  by_cases h1 : idx < 0
  · rw [if_pos (.inl h1)] at HL
    have d1 : decide (idx < 0) = true := decide_eq_true h1
    go_enter Try.func53, Try.ntmps53
    go_wp2_with fail
    refine bodyPost_ret (v := .tuple #[.agg #[.int .i64 0, .int .i64 0], .bool false]) (by simp [results, Try.results53, go_sem, *]) rfl ?_
    exact ⟨by rw [HL.out], ((Ext.refl w).allocs _).allocs _⟩
  · have d1 : decide (idx < 0) = false := decide_eq_false h1
    by_cases h2 : (es.length : Int) < idx
    · rw [if_pos (.inr h2)] at HL
      have d2 : decide ((es.length : Int) < idx) = true := decide_eq_true h2
      go_enter Try.func53, Try.ntmps53
      go_wp2_with fail
      refine bodyPost_ret (v := .tuple #[.agg #[.int .i64 0, .int .i64 0], .bool false]) (by simp [results, Try.results53, go_sem, *]) rfl ?_
      exact ⟨by rw [HL.out], ((Ext.refl w).allocs _).allocs _⟩
    · have d2 : decide ((es.length : Int) < idx) = false := decide_eq_false h2
      rw [if_neg (by omega)] at HL
      by_cases h0 : idx = 0
      · subst h0
        rw [if_pos rfl] at HL
        go_enter Try.func53, Try.ntmps53
        go_wp2_with fail
        refine bodyPost_ret (v := .tuple #[.agg #[.int .i64 0, .int .i64 0], .bool true]) (by simp [results, Try.results53, go_sem, *]) rfl ?_
        exact ⟨by rw [HL.out], ((Ext.refl w).allocs _).allocs _⟩
      · rw [if_neg h0] at HL
        have h0' : (idx == 0) = false := by simp [h0]
        obtain ⟨k, hk⟩ : ∃ k : Nat, idx = (k : Int) + 1 := ⟨(idx - 1).toNat, by omega⟩
        have hkl : k < es.length := by omega
        have hX := ((Ext.refl w).allocs (.cells #[.slice none 0 0, .slice A es.length c, .slice none 0 0, .slice none 0 0] 98)).allocs (.cells #[.int .i64 0, .int .i64 0] 59)
        obtain ⟨b, off, rfl, p0, p1, p2, p3, p4, p5, p6⟩ := Ev.at_ (hs.ext hX) hkl
        have HK : Hid ((es.getD (idx - 1).toNat zEv).inc = es[k].inc) := by
          show (es.getD (idx - 1).toNat zEv).inc = es[k].inc
          rw [show (idx - 1).toNat = k by omega, List.getD_eq_getElem?_getD, List.getElem?_eq_getElem hkl]; rfl
        rw [HK.out] at HL
        generalize es[k] = x at *
        subst hk
        clear p0 p2 p3 p4 p5 p6 h0 hs HK
        have hw1 : IntKind.i64.wrap ((k : Int) + 1 - 1) = (k : Int) := by rw [show (k : Int) + 1 - 1 = (k : Int) by omega]; exact IntWalk.i64_in _ (by omega)
        go_enter Try.func53, Try.ntmps53
        go_wp2_with fail
        refine bodyPost_ret (v := .tuple #[.agg #[.int .i64 x.inc, .int .i64 ((k : Int) + 1)], .bool true]) (by simp [results, Try.results53, go_sem, *]) rfl ?_
        exact ⟨by rw [HL.out], by repeat (first | with_reducible exact Ext.refl _ | with_reducible refine Ext.allocs ?_ _ | with_reducible refine Ext.set ?_ (by simp) _)⟩
end Go.Proofs.Ytcljdkjlfciacaa
