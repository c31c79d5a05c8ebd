/- Chapter 38: the reference's better of two plans. No statement of the seat is proved here. -/
import Derived.Test.YtddcgholnhhcoaaRLess
namespace Go.Proofs.Ytddcgholnhhcoaa
open Go.RowKit
set_option linter.unusedVariables false

theorem blk3 {w : World} {g : Nat} {t : TypeId} {v0 v1 v2 : Value} (h : Blk w g t #[v0, v1, v2]) :
    w.cell? ⟨g, 0, none⟩ = some v0 ∧ w.cell? ⟨g, 1, none⟩ = some v1 ∧ w.cell? ⟨g, 2, none⟩ = some v2 ∧ w.frozen? ⟨g, 0, none⟩ = false ∧ w.frozen? ⟨g, 1, none⟩ = false ∧ w.frozen? ⟨g, 2, none⟩ = false :=
  ⟨h.cell 0, h.cell 1, h.cell 2, h.frozen 0, h.frozen 1, h.frozen 2⟩
theorem Blk.set3 {w : World} {g : Nat} {t : TypeId} {u0 u1 u2 : Value} (h : Blk w g t #[u0, u1, u2]) (v0 v1 v2 : Value) :
    Blk (((w.setCell ⟨g, 0, none⟩ v0).setCell ⟨g, 1, none⟩ v1).setCell ⟨g, 2, none⟩ v2) g t #[v0, v1, v2] := Blk.sets (w := w) [v0, v1, v2] 0 w [u0, u1, u2] h
/-- does the second plan win -/
def rbV (p : Bool) (c : Int) (a : List Int) (q : Bool) (d : Int) (b : List Int) : Bool := !p || (q && (decide (d < c) || (decide (d = c) && betV b a)))
set_option maxHeartbeats 1600000 in
theorem rbetter_any (A B : Option Addr) (ca cb : Nat) (p q : Bool) (c d : Int) (a b : List Int) (w : World) (ha : IntSeg w A a) (hb : IntSeg w B b) (hn : a.length ≤ 1000) (hm : b.length ≤ 1000) :
    Calls Try.prog 57 #[.agg #[.bool p, .int .i64 c, .slice A a.length ca], .agg #[.bool q, .int .i64 d, .slice B b.length cb]] w
      (ExtPost w (if rbV p c a q d b then .agg #[.bool q, .int .i64 d, .slice B b.length cb] else .agg #[.bool p, .int .i64 c, .slice A a.length ca])) := by
  cases p
  · have HV : Hid (rbV false c a q d b = true) := rfl
    rw [HV.out]
    go_enter Try.func57, Try.ntmps57
    go_wp2_with fail
    refine bodyPost_ret (v := .agg #[.bool q, .int .i64 d, .slice B b.length cb]) (by simp [results, Try.results57, go_sem]) rfl ?_
    exact ⟨rfl, (((Ext.refl w).allocs _).allocs _).allocs _⟩
  · cases q
    · have HV : Hid (rbV true c a false d b = false) := rfl
      rw [HV.out]
      go_enter Try.func57, Try.ntmps57
      go_wp2_with fail
      refine bodyPost_ret (v := .agg #[.bool true, .int .i64 c, .slice A a.length ca]) (by simp [results, Try.results57, go_sem]) rfl ?_
      exact ⟨rfl, (((Ext.refl w).allocs _).allocs _).allocs _⟩
    · by_cases h1 : d < c
      · have HV : Hid (rbV true c a true d b = true) := by show rbV true c a true d b = true; simp [rbV, h1]
        rw [HV.out]
        go_enter Try.func57, Try.ntmps57
        go_wp2_with fail
        refine bodyPost_ret (v := .agg #[.bool true, .int .i64 d, .slice B b.length cb]) (by simp [results, Try.results57, go_sem]) rfl ?_
        exact ⟨rfl, (((Ext.refl w).allocs _).allocs _).allocs _⟩
      · by_cases h2 : d = c
        · have HV : Hid (rbV true c a true d b = betV b a) := by show rbV true c a true d b = _; simp [rbV, h2]
          rw [HV.out]
          have h2' : (d == c) = true := by simp [h2]
          clear h2 HV
          have HC := fun w' (h : Ext w w') => rless_any B A cb ca b a w' (hb.ext h) (ha.ext h) hm hn
          have HX : Hid (Ext w (((w.alloc (.cells #[.bool true, .int .i64 c, .slice A a.length ca] 67)).alloc (.cells #[.bool true, .int .i64 d, .slice B b.length cb] 67)).alloc (.cells #[.bool false, .int .i64 0, .slice none 0 0] 67))) := (((Ext.refl w).allocs _).allocs _).allocs _
          have b0 : Hid (Blk (((w.alloc (.cells #[.bool true, .int .i64 c, .slice A a.length ca] 67)).alloc (.cells #[.bool true, .int .i64 d, .slice B b.length cb] 67)).alloc (.cells #[.bool false, .int .i64 0, .slice none 0 0] 67)) w.heap.size 67 #[.bool true, .int .i64 c, .slice A a.length ca]) := ((Blk.new w _ _).allocs _).allocs _
          have b1 : Hid (Blk (((w.alloc (.cells #[.bool true, .int .i64 c, .slice A a.length ca] 67)).alloc (.cells #[.bool true, .int .i64 d, .slice B b.length cb] 67)).alloc (.cells #[.bool false, .int .i64 0, .slice none 0 0] 67)) (w.heap.size + 1) 67 #[.bool true, .int .i64 d, .slice B b.length cb]) := (Blk.newAt (by simp)).allocs _
          have b2 : Hid (Blk (((w.alloc (.cells #[.bool true, .int .i64 c, .slice A a.length ca] 67)).alloc (.cells #[.bool true, .int .i64 d, .slice B b.length cb] 67)).alloc (.cells #[.bool false, .int .i64 0, .slice none 0 0] 67)) (w.heap.size + 1 + 1) 67 #[.bool false, .int .i64 0, .slice none 0 0]) := Blk.newAt (by simp)
          generalize betV b a = t at *
          cases t
          · go_enter Try.func57, Try.ntmps57
            go_wp2_with fail
            refine (HC _ HX.out).mono ?_
            rintro e w4 ⟨rfl, hE4⟩
            have HE5 := Lib.hid (Ext.trans HX.out hE4)
            obtain ⟨x0, x1, x2, _⟩ := blk3 (b0.out.ext hE4)
            obtain ⟨z0, z1, z2, f0, f1, f2⟩ := blk3 (b2.out.ext hE4)
            have hY := Blk.set3 (b2.out.ext hE4) (.bool true) (.int .i64 c) (.slice A a.length ca)
            have HE6 : Ext w (((w4.setCell ⟨w.heap.size + 1 + 1, 0, none⟩ (.bool true)).setCell ⟨w.heap.size + 1 + 1, 1, none⟩ (.int .i64 c)).setCell ⟨w.heap.size + 1 + 1, 2, none⟩ (.slice A a.length ca)) := Ext.setCells (by omega) [.bool true, .int .i64 c, .slice A a.length ca] 0 _ HE5.out
            clear hE4 HC
            go_wp2_with fail
            clear x0 x1 x2 z0 z1 z2 f0 f1 f2
            generalize ((w4.setCell ⟨w.heap.size + 1 + 1, 0, none⟩ (.bool true)).setCell ⟨w.heap.size + 1 + 1, 1, none⟩ (.int .i64 c)).setCell ⟨w.heap.size + 1 + 1, 2, none⟩ (.slice A a.length ca) = W5 at hY HE6 ⊢
            obtain ⟨y0, y1, y2, _⟩ := blk3 hY
            refine bodyPost_ret (v := .agg #[.bool true, .int .i64 c, .slice A a.length ca]) (by simp [results, Try.results57, go_sem, y0, y1, y2]) rfl ?_
            exact ⟨rfl, HE6⟩
          · go_enter Try.func57, Try.ntmps57
            go_wp2_with fail
            refine (HC _ HX.out).mono ?_
            rintro e w4 ⟨rfl, hE4⟩
            have HE5 := Lib.hid (Ext.trans HX.out hE4)
            obtain ⟨x0, x1, x2, _⟩ := blk3 (b1.out.ext hE4)
            obtain ⟨z0, z1, z2, f0, f1, f2⟩ := blk3 (b2.out.ext hE4)
            have hY := Blk.set3 (b2.out.ext hE4) (.bool true) (.int .i64 d) (.slice B b.length cb)
            have HE6 : Ext w (((w4.setCell ⟨w.heap.size + 1 + 1, 0, none⟩ (.bool true)).setCell ⟨w.heap.size + 1 + 1, 1, none⟩ (.int .i64 d)).setCell ⟨w.heap.size + 1 + 1, 2, none⟩ (.slice B b.length cb)) := Ext.setCells (by omega) [.bool true, .int .i64 d, .slice B b.length cb] 0 _ HE5.out
            clear hE4 HC
            go_wp2_with fail
            clear x0 x1 x2 z0 z1 z2 f0 f1 f2
            generalize ((w4.setCell ⟨w.heap.size + 1 + 1, 0, none⟩ (.bool true)).setCell ⟨w.heap.size + 1 + 1, 1, none⟩ (.int .i64 d)).setCell ⟨w.heap.size + 1 + 1, 2, none⟩ (.slice B b.length cb) = W5 at hY HE6 ⊢
            obtain ⟨y0, y1, y2, _⟩ := blk3 hY
            refine bodyPost_ret (v := .agg #[.bool true, .int .i64 d, .slice B b.length cb]) (by simp [results, Try.results57, go_sem, y0, y1, y2]) rfl ?_
            exact ⟨rfl, HE6⟩
        · have h2' : (d == c) = false := by simp [h2]
          have HV : Hid (rbV true c a true d b = false) := by show rbV true c a true d b = _; simp [rbV, h1, h2]
          rw [HV.out]
          go_enter Try.func57, Try.ntmps57
          go_wp2_with fail
          refine bodyPost_ret (v := .agg #[.bool true, .int .i64 c, .slice A a.length ca]) (by simp [results, Try.results57, go_sem]) rfl ?_
          exact ⟨rfl, (((Ext.refl w).allocs _).allocs _).allocs _⟩
end Go.Proofs.Ytddcgholnhhcoaa
