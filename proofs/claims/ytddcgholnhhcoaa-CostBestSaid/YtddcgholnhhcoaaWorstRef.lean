/- Chapter 38: the worst case in the reference. No statement of the seat is proved here. -/
import Derived.Test.YtddcgholnhhcoaaTasks
namespace Go.Proofs.Ytddcgholnhhcoaa
open Go.RowKit
set_option linter.unusedVariables false

theorem err_of {ts : List Tk} {ps : List Int} {f r e : Int} (h : refuseV ts f r = e) (h0 : e ≠ 0) : errV ts ps f r = e := by rw [err_refused (by rw [h]; exact h0), h]
theorem within_no {x n : Int} (h : x < 0 ∨ n ≤ x) : withinB x 0 (n - 1) = false := by
  unfold withinB
  rcases h with h | h
  · rw [decide_eq_false (by omega)]; rfl
  · rw [decide_eq_false (show ¬ x ≤ n - 1 by omega)]; simp
theorem within_yes {x n : Int} (h1 : 0 ≤ x) (h2 : x < n) : withinB x 0 (n - 1) = true := by
  unfold withinB
  rw [decide_eq_true h1, decide_eq_true (show x ≤ n - 1 by omega)]; rfl

set_option maxRecDepth 100000 in
set_option maxHeartbeats 3200000 in
theorem check_any (A : Option Addr) (c : Nat) (ts : List Tk) (B : Option Addr) (cb : Nat) (ps : List Int) (f r : Int) (w : World) (hs : TkSeg w A ts) (hn : ts.length ≤ 1000) (hp : IntSeg w B ps) (hm : ps.length ≤ 1000) :
    Calls Try.prog 40 #[.slice A ts.length c, .slice B ps.length cb, .int .i64 f, .int .i64 r] w (ExtPost w (.int .i64 (errV ts ps f r))) := by
  have hm64 : (ps.length : Int) ≤ 1000 := by omega
  have hn64 : (ts.length : Int) ≤ 1000 := by omega
  by_cases h1 : 64 < ts.length
  · have HV := Lib.hid (refuse_many (f := f) (r := r) h1)
    go_enter Try.func40, Try.ntmps40
    go_wp2_with fail
    go_ret
    exact ⟨ret_int (err_of HV.out (by omega)).symm, Ext.refl w⟩
  by_cases h2 : ts.length = 0
  · have HV := Lib.hid (refuse_none (f := f) (r := r) h2)
    have h2' : ((ts.length : Int) == 0) = true := by simp [h2]
    clear h2
    go_enter Try.func40, Try.ntmps40
    go_wp2_with fail
    go_ret
    exact ⟨ret_int (err_of HV.out (by omega)).symm, Ext.refl w⟩
  have h2' : ((ts.length : Int) == 0) = false := beq_eq_false_iff_ne.2 (by omega)
  have h20 : 0 < ts.length := by omega
  have h1l : ts.length ≤ 64 := by omega
  have H2_ := Lib.hid h2
  clear h2
  go_enter Try.func40, Try.ntmps40
  go_wp2_with fail
  go_loopg [9] ts.length (fun g i wr => FineRel w ts g i wr)
  case atStart => exact ⟨0, Nat.zero_le _, rfl, rfl, Ext.refl w, rfl⟩
  case round =>
    obtain ⟨j, hj, rfl, rfl, hE, hall⟩ := hrel
    have HA := Lib.hid hall
    clear hall
    by_cases hlt : j < ts.length
    · obtain ⟨b, off, rfl, p0, p1⟩ := Tk.at_ (hs.ext hE) hlt
      have HB := Lib.hid (fun h => refuse_task (f := f) (r := r) h1l h20 j hlt h)
      have HT := Lib.hid (fun h => fine_take hlt HA.out h)
      generalize ts[j] = t at *
      have P1 := Lib.hid (within_amount t.work)
      have P2 := Lib.hid (within_amount t.cost)
      rcases g1 : amountB t.work with _ | _
      · have HV := Lib.hid (HB.out (fine_no1 g1))
        rw [g1] at P1
        clear g1
        go_wp2_with fail
        refine (P1.out _).mono ?_
        rintro e w' ⟨rfl, rfl⟩
        go_wp2_with fail
        go_ret
        exact ⟨ret_int (err_of HV.out (by omega)).symm, hE⟩
      rcases g2 : amountB t.cost with _ | _
      · have HV := Lib.hid (HB.out (fine_no2 g2))
        rw [g1] at P1
        rw [g2] at P2
        clear g1 g2
        go_wp2_with fail
        refine (P1.out _).mono ?_
        rintro e w' ⟨rfl, rfl⟩
        go_wp2_with fail
        refine (P2.out _).mono ?_
        rintro e w' ⟨rfl, rfl⟩
        go_wp2_with fail
        go_ret
        exact ⟨ret_int (err_of HV.out (by omega)).symm, hE⟩
      · have HF := Lib.hid (HT.out (fine_mk g1 g2))
        rw [g1] at P1
        rw [g2] at P2
        clear g1 g2
        go_wp2_with fail
        refine (P1.out _).mono ?_
        rintro e w' ⟨rfl, rfl⟩
        go_wp2_with fail
        refine (P2.out _).mono ?_
        rintro e w' ⟨rfl, rfl⟩
        go_wp2_with fail
        go_roundg (ts.length - (j + 1))
        case measure => omega
        case rel => exact ⟨j + 1, by omega, by go_num, rfl, hE, HF.out⟩
    · have HF := Lib.hid (refuse_args (f := f) (r := r) h1l h20 (by have := HA.out; rw [List.take_of_length_le (by omega)] at this; exact this))
      have P1 := Lib.hid (within_amount f)
      have P2 := Lib.hid (within_amount r)
      rcases g1 : amountB f with _ | _
      · have HV : Hid (refuseV ts f r = 3) := by have := HF.out; rw [g1] at this; exact this
        rw [g1] at P1
        clear g1
        go_wp2_with fail
        refine (P1.out _).mono ?_
        rintro e w' ⟨rfl, rfl⟩
        go_wp2_with fail
        go_ret
        exact ⟨ret_int (err_of HV.out (by omega)).symm, hE⟩
      rcases g2 : amountB r with _ | _
      · have HV : Hid (refuseV ts f r = 3) := by have := HF.out; rw [g1, g2] at this; exact this
        rw [g1] at P1
        rw [g2] at P2
        clear g1 g2
        go_wp2_with fail
        refine (P1.out _).mono ?_
        rintro e w' ⟨rfl, rfl⟩
        go_wp2_with fail
        refine (P2.out _).mono ?_
        rintro e w' ⟨rfl, rfl⟩
        go_wp2_with fail
        go_ret
        exact ⟨ret_int (err_of HV.out (by omega)).symm, hE⟩
      · have HV : Hid (refuseV ts f r = 0) := by have := HF.out; rw [g1, g2] at this; exact this
        rw [g1] at P1
        rw [g2] at P2
        clear g1 g2
        go_wp2_with fail
        refine (P1.out _).mono ?_
        rintro e w' ⟨rfl, rfl⟩
        go_wp2_with fail
        refine (P2.out _).mono ?_
        rintro e w' ⟨rfl, rfl⟩
        go_wp2_with fail
        have HP := Lib.hid (err_places (ps := ps) HV.out)
        clear HV HF P1 P2
        go_loopg [10] ps.length (fun g i wr => PlaceRel w ts.length ps g i wr)
        case atStart => exact ⟨0, Nat.zero_le _, rfl, rfl, hE, rfl⟩
        case round =>
          clear hE hlt
          obtain ⟨j, hj, rfl, rfl, hE, hup⟩ := hrel
          have HUP := Lib.hid hup
          clear hup
          by_cases hlt : j < ps.length
          · obtain ⟨b, off, rfl, p0⟩ := Iv.atD (hp.ext hE) hlt
            have HBAD : Hid (placeOk ts.length ps j = false → errV ts ps f r = 7) := fun h => by rw [HP.out, upTo_bad h _ hlt]; rfl
            have HMORE := Lib.hid (upTo_more (n := ts.length) (ps := ps) HUP.out)
            have HW := Lib.hid (within_any (ps.getD j 0) 0 ((ts.length : Int) - 1))
            have hj0i : (0 : Int) ≤ (j : Int) := by omega
            have hj1i : (j : Int) < (ps.length : Int) := by omega
            have hwr : IntKind.i64.wrap ((ts.length : Int) - 1) = (ts.length : Int) - 1 := IntWalk.i64_in _ (by omega)
            by_cases q1 : ps.getD j 0 < 0 ∨ (ts.length : Int) ≤ ps.getD j 0
            · have HV := Lib.hid (HBAD.out (by rcases q1 with h | h; · exact place_lo h
                                               · exact place_hi h))
              rw [within_no q1] at HW
              clear q1
              generalize ps.getD j 0 = x at *
              go_wp2_with fail
              go_quiet ((go_at_call 35; exact Calls.quiet_of_same ((HW.out _).mono fun _ _ h => ⟨h.1, h.2.symm⟩)))
              clear hwr
              go_wp2_with fail
              go_ret
              exact ⟨ret_int HV.out.symm, hE.drewN _⟩
            rw [within_yes (show 0 ≤ ps.getD j 0 by omega) (by omega)] at HW
            by_cases hj0 : 0 < j
            rotate_left
            · have HM := Lib.hid (HMORE.out (place_first hj0 (by omega) (by omega)))
              have hd0 : decide (0 < (j : Int)) = false := by simp; omega
              generalize ps.getD j 0 = x at *
              go_wp2_with fail
              go_quiet ((go_at_call 35; exact Calls.quiet_of_same ((HW.out _).mono fun _ _ h => ⟨h.1, h.2.symm⟩)))
              clear hwr hd0
              go_wp2_with fail
              go_roundg (ps.length - (j + 1))
              case measure => omega
              case rel => exact ⟨j + 1, by omega, by go_num, rfl, hE.drewN _, HM.out⟩
            · obtain ⟨j, rfl⟩ : ∃ k, j = k + 1 := ⟨j - 1, by omega⟩
              obtain ⟨b', off', hA, p1⟩ := Iv.atD (hp.ext hE) (show j < ps.length by omega)
              injection hA with hA
              injection hA with hA1 hA2
              subst hA1
              subst hA2
              have hwj : IntKind.i64.wrap ((j : Int) + 1 - 1) = (j : Int) := by rw [IntWalk.i64_in _ (by omega)]; omega
              have hwj2 : ((j : Int) + 1 - 1) = (j : Int) := by omega
              have hj2 : (0 : Int) ≤ (j : Int) := by omega
              have hj3 : (j : Int) < (ps.length : Int) := by omega
              have hjc : (((j + 1 : Nat) : Int)) = (j : Int) + 1 := by omega
              have hj4 : (0 : Int) ≤ (j : Int) + 1 := by omega
              have hj5 : (j : Int) + 1 < (ps.length : Int) := by omega
              have hd0 : decide (0 < (j : Int) + 1) = true := decide_eq_true (by omega)
              have htn : ((j : Int) + 1).toNat = j + 1 := by omega
              rw [hjc]
              clear hjc hj0i hj1i hj0
              by_cases q3 : ps.getD (j + 1) 0 ≤ ps.getD j 0
              · have HV := Lib.hid (HBAD.out (place_down q3))
                generalize ps.getD (j + 1) 0 = x at *
                generalize ps.getD j 0 = y at *
                go_wp2_with fail
                go_quiet ((go_at_call 35; exact Calls.quiet_of_same ((HW.out _).mono fun _ _ h => ⟨h.1, h.2.symm⟩)))
                clear hwr hwj hwj2 hd0 htn
                go_wp2_with fail
                go_ret
                exact ⟨ret_int HV.out.symm, hE.drewN _⟩
              · have HM := Lib.hid (HMORE.out (place_next (by omega) (by omega) (by omega)))
                have hd3 : decide (ps.getD (j + 1) 0 ≤ ps.getD j 0) = false := decide_eq_false q3
                generalize ps.getD (j + 1) 0 = x at *
                generalize ps.getD j 0 = y at *
                go_wp2_with fail
                go_quiet ((go_at_call 35; exact Calls.quiet_of_same ((HW.out _).mono fun _ _ h => ⟨h.1, h.2.symm⟩)))
                clear hwr hwj hwj2 hd0 htn hd3
                go_wp2_with fail
                go_roundg (ps.length - (j + 1 + 1))
                case measure => omega
                case rel => exact ⟨j + 1 + 1, by omega, by go_num, rfl, hE.drewN _, HM.out⟩
          · have HOK : Hid (errV ts ps f r = 0) := by show errV ts ps f r = 0; rw [HP.out, show ps.length = j by omega, HUP.out]; rfl
            go_wp2_with fail
            go_ret
            exact ⟨ret_int HOK.out.symm, hE⟩

theorem err_zero {ts : List Tk} {ps : List Int} {f r : Int} (h : errV ts ps f r = 0) : refuseV ts f r = 0 := by
  unfold errV at h
  split at h
  · assumption
  · exact h
set_option maxRecDepth 100000 in
set_option maxHeartbeats 3200000 in
theorem worst_ref (A : Option Addr) (c : Nat) (ts : List Tk) (B : Option Addr) (cb : Nat) (ps : List Int) (f r : Int) (w : World) (hs : TkSeg w A ts) (hn : ts.length ≤ 1000) (hp : IntSeg w B ps) (hm : ps.length ≤ 1000) :
    Calls Try.prog 22 #[.slice A ts.length c, .slice B ps.length cb, .int .i64 f, .int .i64 r] w (WorstPost ts ps f r w) := by
  have hn64 : (ts.length : Int) ≤ 1000 := by omega
  have hm64 : (ps.length : Int) ≤ 1000 := by omega
  have HR := Lib.hid (check_any A c ts B cb ps f r w hs hn hp hm)
  by_cases hz : errV ts ps f r = 0
  · obtain ⟨z1, z2, z3, hfb, hrb⟩ := refuse_zero (err_zero hz)
    have HFINE := Lib.hid (allFine_of ts z3)
    have HOK := Lib.hid (worst_ok hz)
    rw [hz] at HR
    clear hz z3
    go_enter Try.func22, Try.ntmps22
    go_wp2_with fail
    refine HR.out.mono ?_
    rintro e w1 ⟨rfl, hE⟩
    go_wp2_with fail
    go_loopg [11, 12, 13, 14, 15] ts.length (fun g a b c d i wr => RunRel w ts ps g a b c d i wr)
    case atStart => exact ⟨0, Nat.zero_le _, rfl, rfl, hE, rfl, rfl, rfl, rfl⟩
    case round =>
      clear hE
      obtain ⟨j, hj, rfl, rfl, hE, rfl, rfl, rfl, rfl⟩ := hrel
      obtain ⟨b1, b2, b3, b4⟩ := wAt_bd ts ps HFINE.out j hj
      by_cases hlt : j < ts.length
      · obtain ⟨b, off, rfl, p0, p1⟩ := Tk.at_ (hs.ext hE) hlt
        have ht := HFINE.out j hlt
        have et := getD_at ts j noTk hlt
        rw [← et] at p0 p1
        have HHIT := Lib.hid (@wAt_hit ts ps j _ _ rfl rfl)
        have HMISS := Lib.hid (@wAt_miss ts ps j _ _ rfl rfl)
        have hju : (2097152 : Int) * (j : Int) ≤ 134217728 := by omega
        generalize ts.getD j noTk = t at *
        generalize wAt ts ps j = s at *
        clear et
        obtain ⟨t1, t2⟩ := ht
        by_cases hnx : s.next < ps.length
        · obtain ⟨bp, offp, rfl, c0⟩ := Iv.atD (hp.ext hE) hnx
          have c1 := cell_alloc_one (.cells #[.int .i64 t.work, .int .i64 t.cost] 46) c0
          by_cases heq : ps.getD s.next 0 = j
          · have HV := Lib.hid (HHIT.out hnx heq)
            rw [heq] at c0 c1
            clear heq HHIT HMISS
            by_cases hmx : s.longest < s.length + t.work + t.cost
            · have HV' : Hid (wAt ts ps (j + 1) = ⟨s.total + t.work + t.cost, s.length + t.work + t.cost, 0, s.next + 1⟩) := by have := HV.out; rw [Int.max_eq_right (by omega)] at this; exact this
              go_wp2_with fail
              go_roundg (ts.length - (j + 1))
              case measure => omega
              case rel => refine ⟨j + 1, by omega, by go_num, rfl, hE, ?_, ?_, ?_, ?_⟩ <;> rw [HV'.out] <;> go_num
            · have HV' : Hid (wAt ts ps (j + 1) = ⟨s.total + t.work + t.cost, s.longest, 0, s.next + 1⟩) := by have := HV.out; rw [Int.max_eq_left (by omega)] at this; exact this
              go_wp2_with fail
              go_roundg (ts.length - (j + 1))
              case measure => omega
              case rel => refine ⟨j + 1, by omega, by go_num, rfl, hE, ?_, ?_, ?_, ?_⟩ <;> rw [HV'.out] <;> go_num
          · have HV := Lib.hid (HMISS.out (fun h => heq h.2))
            have heq' : (ps.getD s.next 0 == (j : Int)) = false := beq_eq_false_iff_ne.2 heq
            generalize ps.getD s.next 0 = x at *
            clear heq HHIT HMISS
            go_wp2_with fail
            go_roundg (ts.length - (j + 1))
            case measure => omega
            case rel => refine ⟨j + 1, by omega, by go_num, rfl, hE, ?_, ?_, ?_, ?_⟩ <;> rw [HV.out]
        · have HV := Lib.hid (HMISS.out (fun h => hnx h.1))
          clear HHIT HMISS
          go_wp2_with fail
          go_roundg (ts.length - (j + 1))
          case measure => omega
          case rel => refine ⟨j + 1, by omega, by go_num, rfl, hE, ?_, ?_, ?_, ?_⟩ <;> rw [HV.out]
      · obtain rfl : j = ts.length := by omega
        have HV := Lib.hid (@worst_val ts ps f r)
        have hju : (2097152 : Int) * (ts.length : Int) ≤ 134217728 := by omega
        generalize wAt ts ps ts.length = s at *
        clear hlt
        by_cases hmx : s.longest < s.length
        · have hfr := fr_bd f (r + s.length) hfb (by omega)
          have HW : Hid (worstOf ts ps f r = s.total + f * (r + s.length)) := HV.out _ (Int.max_eq_right (by omega))
          go_wp2_with fail
          go_ret2
          exact WorstPost.mk (by rw [HOK.out, HW.out]) hE
        · have hfr := fr_bd f (r + s.longest) hfb (by omega)
          have HW : Hid (worstOf ts ps f r = s.total + f * (r + s.longest)) := HV.out _ (Int.max_eq_left (by omega))
          go_wp2_with fail
          go_ret2
          exact WorstPost.mk (by rw [HOK.out, HW.out]) hE
  · have HV := Lib.hid (worst_err rfl hz)
    have hz' : (errV ts ps f r != 0) = true := by simp [hz]
    generalize errV ts ps f r = x at *
    clear hz
    go_enter Try.func22, Try.ntmps22
    go_wp2_with fail
    refine HR.out.mono ?_
    rintro e w1 ⟨rfl, hE⟩
    go_wp2_with fail
    go_ret2
    exact WorstPost.mk HV.out hE
end Go.Proofs.Ytddcgholnhhcoaa
