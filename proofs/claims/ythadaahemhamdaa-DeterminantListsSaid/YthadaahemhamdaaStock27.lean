/- stock and Merge of package determinant. No statement of the seat is proved here. -/
import Derived.Test.YthadaahemhamdaaConcat27
import Derived.Test.YthadaahemhamdaaGrownS
namespace Go.Proofs.Ythadaahemhamdaa
open Go.RowKit Go.Sort
set_option linter.unusedVariables false

/-- a slice that reads as determinants, in new blocks -/
def SegPost (l : List Dt) (w : World) (e : Ending) (w' : World) : Prop := ∃ A c, e = .returned (.slice A l.length c) ∧ DtSeg w' A l ∧ l.length ≤ c ∧ c ≤ maxLen ∧ Ext w w'
theorem row_of_own {w : World} {base g n c : Nat} {xs : List Value} (h : w.ownsRow base 39 9 (.slice (some ⟨g, 0, none⟩) n c) n xs) : CellRow w g xs ∧ base ≤ g := by
  rcases h.2 with ⟨hv, _⟩ | ⟨g', cap, cur, hv, hb, hh, _, _, hs, ht⟩
  · injection hv with hv; cases hv
  · injection hv with hv _ _
    injection hv with hv
    injection hv with hv _
    subst hv
    refine ⟨⟨(Array.getElem?_eq_some_iff.1 hh).1, fun j u hu => ?_⟩, hb⟩
    have hl := (List.getElem?_eq_some_iff.1 hu).1
    rw [← ht] at hu hl
    rw [List.length_take] at hl
    rw [List.getElem?_take_of_lt (by omega)] at hu
    refine ⟨?_, ?_⟩
    · simp only [World.cell?, hh]
      simpa using hu
    · simp [World.frozen?, hh]
theorem shp_of_own {w : World} {base g n c : Nat} {xs : List Value} (h : w.ownsRow base 39 9 (.slice (some ⟨g, 0, none⟩) n c) n xs) : Shp w g (c * 9) := by
  rcases h.2 with ⟨hv, _⟩ | ⟨g', cap, cur, hv, hb, hh, _, _, hs, ht⟩
  · injection hv with hv; cases hv
  · injection hv with hv _ hc
    injection hv with hv
    injection hv with hv _
    subst hv hc
    exact ⟨cur, hh, hs⟩
theorem asc_of_steps (l : List Dt) : (∀ i (h : i + 1 < l.length), cmpD (l[i]'(by omega)) l[i + 1] < 0) → AscD l := by
  intro h
  rw [AscD, List.pairwise_iff_getElem]
  intro i j hi hj hij
  obtain ⟨d, rfl⟩ : ∃ d, j = i + 1 + d := ⟨j - i - 1, by omega⟩
  induction d with
  | zero => exact h i hj
  | succ d ih => exact cmpD_lt_trans (ih (by omega) (by omega)) (h (i + 1 + d) (by omega))
def StRel (w0 : World) (l : List Dt) (g : Nat) (i : Value) (wr : World) : Prop := ∃ q : Nat, (q + 1 ≤ l.length ∨ q = 0) ∧ i = .int .i64 ((q : Int) + 1) ∧ g = l.length - (q + 1) ∧ Ext w0 wr ∧ ∀ i (h : i + 1 < l.length), i < q → cmpD (l[i]'(by omega)) l[i + 1] < 0

set_option maxRecDepth 100000 in
set_option maxHeartbeats 1600000 in
theorem stock_own (A : Option Addr) (c : Nat) (l : List Dt) (w : World) (hs : DtSeg w A l) (hn : l.length ≤ 1000) :
    Calls Try.prog 44 #[.slice A l.length c] w (OwnPost (stockV l) w) := by
  have hn' : (l.length : Int) ≤ 1000 := by omega
  go_enter Try.func44, Try.ntmps44
  go_wp2_with fail
  refine (clone_any A c l w hs hn).mono ?_
  rintro e w1 ⟨v, rfl, hown, hE1⟩
  clear hs
  obtain ⟨A1, c1, rfl, hs1, hc1, hc1m⟩ := own_slice hown
  have HOWN := Lib.hid hown
  clear hown
  go_wp2_with fail
  go_loopg [4] (l.length - 1) (fun g i wr => StRel w1 l g i wr)
  case atStart => exact ⟨0, .inr rfl, rfl, rfl, Ext.refl _, fun i _ h => by omega⟩
  case round =>
    obtain ⟨q, hq, rfl, rfl, hE, hasc⟩ := hrel
    have HASC := Lib.hid hasc
    clear hasc
    by_cases hlt : q + 1 < l.length
    · obtain ⟨g, rfl⟩ : ∃ g, A1 = some ⟨g, 0, none⟩ := by
        rcases HOWN.out.2 with ⟨_, h⟩ | ⟨g, _, _, hv, _⟩
        · omega
        · injection hv with hv _ _
          exact ⟨g, hv⟩
      obtain ⟨x, hx⟩ : ∃ x, l[q]'(by omega) = x := ⟨_, rfl⟩
      obtain ⟨y, hy⟩ : ∃ y, l[q + 1] = y := ⟨_, rfl⟩
      have hD := hs1.ext hE
      have fX := fun d os => grownS hD (by omega) hx d os
      have fY := fun d os => grownS hD hlt hy d os
      have CXY := Lib.hid (compare_sl x y)
      have hb1 := cmpD_bd x y
      have HXY : Hid (cmpD (l[q]'(by omega)) l[q + 1] = cmpD x y) := by show cmpD _ _ = _; rw [hx, hy]
      obtain ⟨v1, e1⟩ : ∃ v, cmpD x y = v := ⟨_, rfl⟩
      rw [e1] at CXY hb1 HXY
      have HD := Lib.hid hD
      have hq0 : (0 : Int) ≤ (q : Int) + 1 := by omega
      have hq1 : (q : Int) + 1 < (l.length : Int) := by omega
      have hq2 : (0 : Int) ≤ (q : Int) := by omega
      have hq3 : (q : Int) < (l.length : Int) := by omega
      clear hx hy e1 hD
      by_cases q1 : 0 ≤ v1
      · have d1 : decide (0 ≤ v1) = true := decide_eq_true q1
        go_upto_region 5 with fail
        refine wp_region_quiet_below (by kernel_rfl) (by kernel_rfl) ?_
        repeat (go_big_quiet_step (first | with_reducible exact call_grownS CXY.out))
        refine wpQuiet_nil ?_
        intro _ hw'
        obtain ⟨⟨dq, osq⟩, hw''⟩ := hw'
        subst hw''
        obtain ⟨hrow, hgb⟩ := row_of_own HOWN.out
        have hrow2 := hrow.ext (Ext.trans hE (below_regrown wr dq osq))
        have hX2 := Ext.trans hE1 (Ext.trans hE (below_regrown wr dq osq))
        have HS := Lib.hid (sort_row g c1 l _ hrow2 hn)
        clear fX fY hrow
        go_wp2_with fail
        refine HS.out.mono ?_
        rintro e w5 ⟨rfl, hG5, hR5⟩
        have hlen := sortD_len l
        have HC := compact_row g c1 (sortD l) w5 hR5 (by omega) hc1m (by omega)
        rw [hlen] at HC
        go_wp2_with fail
        refine HC.mono ?_
        rintro e w6 ⟨rfl, hG6, hR6⟩
        go_wp2_with fail
        go_ret
        have hcl := cpt_len (sortD l)
        have hG := gs_trans hG5 hG6
        have hsh := hG.2 _ ((shp_of_own HOWN.out).ext (Ext.trans hE (below_regrown wr dq osq)))
        exact ⟨_, rfl, own_of_row hR6 hsh (by omega) hc1m hgb, Ext.grownRow hX2 hgb hG.1⟩
      · have d1 : decide (0 ≤ v1) = false := decide_eq_false q1
        go_upto_region 5 with fail
        refine wp_region_quiet_below (by kernel_rfl) (by kernel_rfl) ?_
        repeat (go_big_quiet_step (first | with_reducible exact call_grownS CXY.out))
        refine wpQuiet_nil ?_
        intro _ hw'
        obtain ⟨⟨dq, osq⟩, hw''⟩ := hw'
        subst hw''
        go_wp2_with fail
        go_roundg (l.length - (q + 1 + 1))
        case measure => omega
        case rel =>
          refine ⟨q + 1, .inl (by omega), by go_num, rfl, Ext.trans hE (below_regrown wr dq osq), fun i h hi => ?_⟩
          by_cases e : i = q
          · subst e
            rw [HXY.out]; omega
          · exact HASC.out i h (by omega)
    · have HV : Hid (stockV l = l) := stock_same (asc_of_steps l (fun i h => HASC.out i h (by omega)))
      go_wp2_with fail
      go_ret
      refine ⟨_, rfl, ?_, Ext.trans hE1 hE⟩
      rw [HV.out]
      exact own_ext HOWN.out hE
theorem stock_any (A : Option Addr) (c : Nat) (l : List Dt) (w : World) (hs : DtSeg w A l) (hn : l.length ≤ 1000) :
    Calls Try.prog 44 #[.slice A l.length c] w (SegPost (stockV l) w) := by
  refine (stock_own A c l w hs hn).mono ?_
  rintro e w1 ⟨v, rfl, hown, hE⟩
  obtain ⟨A1, c1, rfl, hs1, hc1, hc1m⟩ := own_slice hown
  exact ⟨A1, c1, rfl, hs1, hc1, hc1m, hE⟩
set_option maxRecDepth 100000 in
set_option maxHeartbeats 800000 in
theorem merge_any (A B : Option Addr) (ca cb : Nat) (a b : List Dt) (w : World) (ha : DtSeg w A a) (hb : DtSeg w B b) (hla : a.length ≤ 500) (hlb : b.length ≤ 500) :
    Calls Try.prog 25 #[.slice A a.length ca, .slice B b.length cb] w (SegPost (stockV (a ++ b)) w) := by
  have hS := Blk.new w 24 #[.slice A a.length ca, .slice B b.length cb]
  have ha1 := Seg.alloc ha (.cells #[.slice A a.length ca, .slice B b.length cb] 24)
  have hb1 := Seg.alloc hb (.cells #[.slice A a.length ca, .slice B b.length cb] 24)
  have HC := Lib.hid (concat_two w.heap.size A B ca cb a b (w.alloc (.cells #[.slice A a.length ca, .slice B b.length cb] 24)) hS ha1 hb1 hla hlb)
  have hLl : (a ++ b).length ≤ 1000 := by rw [List.length_append]; omega
  generalize a ++ b = L at HC hLl ⊢
  clear ha1 hb1 hS
  go_enter Try.func25, Try.ntmps25
  go_wp2_with fail
  refine HC.out.mono ?_
  rintro e w1 ⟨v, rfl, hown, hE1⟩
  obtain ⟨A1, c1, rfl, hs1, hc1, hc1m⟩ := own_slice hown
  have hX := Ext.trans ((Ext.refl w).allocs (.cells #[.slice A a.length ca, .slice B b.length cb] 24)) hE1
  clear hown HC hE1
  go_wp2_with fail
  refine (stock_any A1 c1 L w1 hs1 hLl).mono ?_
  rintro e w2 ⟨A2, c2, rfl, hs2, hc2, hc2m, hE2⟩
  go_wp2_with fail
  go_ret
  exact ⟨A2, c2, rfl, hs2, hc2, hc2m, Ext.trans hX hE2⟩
end Go.Proofs.Ythadaahemhamdaa
