/- Chapter 38: the reference's order of places. No statement of the seat is proved here. -/
import Derived.Test.YtddcgholnhhcoaaLBetter
namespace Go.Proofs.Ytddcgholnhhcoaa
open Go.RowKit
set_option linter.unusedVariables false

set_option maxHeartbeats 1600000 in
theorem rless_any (A B : Option Addr) (ca cb : Nat) (a b : List Int) (w : World) (ha : IntSeg w A a) (hb : IntSeg w B b) (hn : a.length ≤ 1000) (hm : b.length ≤ 1000) :
    Calls Try.prog 47 #[.slice A a.length ca, .slice B b.length cb] w (ExtPost w (.bool (betV a b))) := by
  have hn' : (a.length : Int) ≤ 1000 := by omega
  have hm' : (b.length : Int) ≤ 1000 := by omega
  by_cases hl : a.length = b.length
  · have HB : Hid (betV a b = decide (cmpLs a b < 0)) := by show betV a b = _; unfold betV; rw [if_pos hl]
    have hne : ((a.length : Int) != (b.length : Int)) = false := by simp [hl]
    have hlb := Nat.le_of_eq hl
    have hla := Nat.le_of_eq hl.symm
    clear hl
    go_enter Try.func47, Try.ntmps47
    go_wp2_with fail
    go_loopg [5] a.length (fun g i wr => LbRel w a b g i wr)
    case atStart => exact ⟨0, Nat.zero_le _, rfl, rfl, Ext.refl _, rfl⟩
    case round =>
      obtain ⟨j, hj, rfl, rfl, hE, hq⟩ := hrel
      have HQ := Lib.hid hq
      clear hq
      by_cases hlt : j < a.length
      · obtain ⟨ba, oa, rfl, p0⟩ := Iv.at_ (ha.ext hE) hlt
        have hltb : j < b.length := by omega
        obtain ⟨bb, ob, rfl, p1⟩ := Iv.at_ (hb.ext hE) hltb
        have HD := Lib.hid (sc_both a b j hlt hltb)
        have hj0 : (0 : Int) ≤ (j : Int) := by omega
        have hja : (j : Int) < (a.length : Int) := by omega
        have hjb : (j : Int) < (b.length : Int) := by omega
        generalize a[j] = x at *
        generalize b[j] = y at *
        have c1 := cmpI_neg x y
        have c0 := cmpI_zero x y
        by_cases h0 : x = y
        · have HV : Hid (cmpLs a b = cmpLs (a.drop (j + 1)) (b.drop (j + 1))) := by show cmpLs a b = _; rw [HQ.out, HD.out, if_pos (c0.2 h0)]
          have hxy : (x != y) = false := by simp [h0]
          clear c1 c0 h0
          go_wp2_with fail
          go_quiet (fail)
          go_wp2_with fail
          go_roundg (a.length - (j + 1))
          case measure => omega
          case rel => exact ⟨j + 1, by omega, by go_num, rfl, hE.drewN _, HV.out⟩
        · have HV : Hid (betV a b = decide (x < y)) := by
            show betV a b = _
            rw [HB.out, HQ.out, HD.out, if_neg (by rw [c0]; exact h0)]
            exact decide_eq_decide.2 c1
          have hxy : (x != y) = true := by simp [h0]
          clear c1 c0 h0
          go_wp2_with fail
          go_quiet (fail)
          go_wp2_with fail
          go_quiet (fail)
          go_wp2_with fail
          go_ret
          exact ⟨ret_boolv HV.out.symm, (hE.drewN _).drewN _⟩
      · have HV : Hid (betV a b = false) := by show betV a b = _; rw [HB.out, HQ.out, sc_none a b j (by omega) (by omega)]; rfl
        go_wp2_with fail
        go_ret
        exact ⟨ret_boolv HV.out.symm, hE⟩
  · have HB : Hid (betV a b = decide (a.length < b.length)) := by
      show betV a b = _
      unfold betV
      rw [if_neg hl]
    have hne : ((a.length : Int) != (b.length : Int)) = true := by simp; omega
    go_enter Try.func47, Try.ntmps47
    go_wp2_with fail
    go_ret
    exact ⟨ret_boolv HB.out.symm, Ext.refl _⟩
end Go.Proofs.Ytddcgholnhhcoaa
