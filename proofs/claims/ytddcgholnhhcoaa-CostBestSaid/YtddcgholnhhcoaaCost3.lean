/- Chapter 38: the worst case, in package cost and in the reference. No statement of the seat is proved here. -/
import Derived.Test.YtddcgholnhhcoaaCost2
namespace Go.Proofs.Ytddcgholnhhcoaa
open Go.RowKit
set_option linter.unusedVariables false

def Tk.cells (t : Tk) : List Value := [.int .i64 t.work, .int .i64 t.cost]
theorem Tk.len (t : Tk) : t.cells.length = 2 := rfl
theorem Tk.one (t : Tk) : ∀ u ∈ t.cells, u.oneCell' = true := by simp [Tk.cells, Value.oneCell']
theorem Tk.ones (l : List Tk) : ∀ u ∈ l.flatMap Tk.cells, u.oneCell' = true := by
  intro u hu
  obtain ⟨c, _, hc⟩ := List.mem_flatMap.1 hu
  exact Tk.one c u hc
abbrev TkSeg (w : World) (A : Option Addr) (l : List Tk) : Prop := Seg w 2 A l.length (l.flatMap Tk.cells)
theorem Tk.at_ {w : World} {A : Option Addr} {l : List Tk} (h : TkSeg w A l) {j : Nat} (hj : j < l.length) :
    ∃ b off, A = some ⟨b, off, none⟩ ∧ w.cell? ⟨b, off + j * 2, none⟩ = some (.int .i64 l[j].work) ∧ w.cell? ⟨b, off + j * 2 + 1, none⟩ = some (.int .i64 l[j].cost) := by
  obtain ⟨b, off, hA, _, hc⟩ := Seg.at_ h Tk.len hj
  exact ⟨b, off, hA, hc 0 _ rfl, hc 1 _ rfl⟩
theorem getD_at {α : Type} (l : List α) (j : Nat) (d : α) (hj : j < l.length) : l.getD j d = l[j] := by
  rw [List.getD_eq_getElem?_getD, List.getElem?_eq_getElem hj]; rfl
theorem Iv.atD {w : World} {A : Option Addr} {l : List Int} (h : IntSeg w A l) {j : Nat} (hj : j < l.length) :
    ∃ b off, A = some ⟨b, off, none⟩ ∧ w.cell? ⟨b, off + j, none⟩ = some (.int .i64 (l.getD j 0)) := by
  rw [getD_at l j 0 hj]; exact Iv.at_ h hj

set_option maxHeartbeats 400000 in
theorem amount_any (x : Int) (w : World) : Calls Try.prog 54 #[.int .i64 x] w fun e w' => e = .returned (.bool (amountB x)) ∧ w = w' := by
  have HV : Hid (amountB x = (decide (0 ≤ x) && decide (x ≤ 1048576))) := rfl
  go_enter Try.func54, Try.ntmps54
  go_wp2_with fail
  all_goals
    go_ret
    refine ⟨?_, rfl⟩
    rw [HV.out]
    first | (simp_all; done) | (simp_all; omega)

theorem refuse_many {ts : List Tk} {f r : Int} (h : 64 < ts.length) : refuseV ts f r = 4 := by unfold refuseV; rw [if_pos h]
theorem refuse_none {ts : List Tk} {f r : Int} (h : ts.length = 0) : refuseV ts f r = 7 := by unfold refuseV; rw [if_neg (by omega), if_pos h]
theorem refuse_task {ts : List Tk} {f r : Int} (h1 : ts.length ≤ 64) (h2 : 0 < ts.length) (j : Nat) (hj : j < ts.length) (hb : ts[j].fine = false) : refuseV ts f r = 3 := by
  unfold refuseV
  rw [if_neg (by omega), if_neg (by omega), if_neg]
  intro h
  have := List.all_eq_true.1 h _ (List.getElem_mem hj)
  rw [hb] at this; cases this
theorem refuse_args {ts : List Tk} {f r : Int} (h1 : ts.length ≤ 64) (h2 : 0 < ts.length) (h : ts.all Tk.fine = true) : refuseV ts f r = if amountB f && amountB r then 0 else 3 := by
  unfold refuseV
  rw [if_neg (by omega), if_neg (by omega), if_pos h]
def FineRel (w : World) (ts : List Tk) (g : Nat) (i : Value) (wr : World) : Prop := ∃ j : Nat, j ≤ ts.length ∧ i = .int .i64 j ∧ g = ts.length - j ∧ Ext w wr ∧ (ts.take j).all Tk.fine = true
theorem fine_take {ts : List Tk} {j : Nat} (hj : j < ts.length) (h : (ts.take j).all Tk.fine = true) (hf : ts[j].fine = true) : (ts.take (j + 1)).all Tk.fine = true := by
  rw [List.take_succ_eq_append_getElem hj, List.all_append, h]; simp [hf]
theorem fine_mk {t : Tk} (h1 : amountB t.work = true) (h2 : amountB t.cost = true) : t.fine = true := by unfold Tk.fine; rw [h1, h2]; rfl
theorem fine_no1 {t : Tk} (h1 : amountB t.work = false) : t.fine = false := by unfold Tk.fine; rw [h1]; rfl
theorem fine_no2 {t : Tk} (h2 : amountB t.cost = false) : t.fine = false := by unfold Tk.fine; rw [h2]; simp

set_option maxHeartbeats 1600000 in
theorem refusal_any (A : Option Addr) (c : Nat) (ts : List Tk) (f r : Int) (w : World) (hs : TkSeg w A ts) (hn : ts.length ≤ 1000) :
    Calls Try.prog 39 #[.slice A ts.length c, .int .i64 f, .int .i64 r] w (ExtPost w (.int .i64 (refuseV ts f r))) := by
  have hn64 : (ts.length : Int) ≤ 1000 := by omega
  by_cases h1 : 64 < ts.length
  · have HV := Lib.hid (refuse_many (f := f) (r := r) h1)
    go_enter Try.func39, Try.ntmps39
    go_wp2_with fail
    go_ret
    exact ⟨ret_int (HV.out.symm), Ext.refl w⟩
  by_cases h2 : ts.length = 0
  · have HV := Lib.hid (refuse_none (f := f) (r := r) h2)
    have h2' : ((ts.length : Int) == 0) = true := by simp [h2]
    clear h2
    go_enter Try.func39, Try.ntmps39
    go_wp2_with fail
    go_ret
    exact ⟨ret_int (HV.out.symm), Ext.refl w⟩
  have h2' : ((ts.length : Int) == 0) = false := beq_eq_false_iff_ne.2 (by omega)
  have h20 : 0 < ts.length := by omega
  have h1l : ts.length ≤ 64 := by omega
  have H2_ := Lib.hid h2
  clear h2
  go_enter Try.func39, Try.ntmps39
  go_wp2_with fail
  go_loopg [17] ts.length (fun g i wr => FineRel w ts g i wr)
  case atStart => exact ⟨0, Nat.zero_le _, rfl, rfl, Ext.refl w, rfl⟩
  case round =>
    obtain ⟨j, hj, rfl, rfl, hE, hall⟩ := hrel
    have HA := Lib.hid hall
    clear hall
    by_cases hlt : j < ts.length
    · obtain ⟨b, off, rfl, p0, p1⟩ := Tk.at_ (hs.ext hE) hlt
      have HB := Lib.hid (fun h => refuse_task (f := f) (r := r) h1l h20 j hlt h)
      have HT := Lib.hid (fun h => fine_take hlt HA.out h)
      generalize ts[j] = t at *
      have P1 := Lib.hid (amount_any t.work)
      have P2 := Lib.hid (amount_any t.cost)
      rcases g1 : amountB t.work with _ | _
      · have HV := Lib.hid (HB.out (fine_no1 g1))
        rw [g1] at P1
        clear g1
        go_wp2_with fail
        refine (P1.out _).mono ?_
        rintro e w' ⟨rfl, rfl⟩
        go_wp2_with fail
        go_ret
        exact ⟨ret_int HV.out.symm, hE.allocs _⟩
      rcases g2 : amountB t.cost with _ | _
      · have HV := Lib.hid (HB.out (fine_no2 g2))
        rw [g1] at P1
        rw [g2] at P2
        clear g1 g2
        go_wp2_with fail
        refine (P1.out _).mono ?_
        rintro e w' ⟨rfl, rfl⟩
        go_wp2_with fail
        refine (P2.out _).mono ?_
        rintro e w' ⟨rfl, rfl⟩
        go_wp2_with fail
        go_ret
        exact ⟨ret_int HV.out.symm, hE.allocs _⟩
      · have HF := Lib.hid (HT.out (fine_mk g1 g2))
        rw [g1] at P1
        rw [g2] at P2
        clear g1 g2
        go_wp2_with fail
        refine (P1.out _).mono ?_
        rintro e w' ⟨rfl, rfl⟩
        go_wp2_with fail
        refine (P2.out _).mono ?_
        rintro e w' ⟨rfl, rfl⟩
        go_wp2_with fail
        go_roundg (ts.length - (j + 1))
        case measure => omega
        case rel => exact ⟨j + 1, by omega, by go_num, rfl, hE.allocs _, HF.out⟩
    · have HF := Lib.hid (refuse_args (f := f) (r := r) h1l h20 (by have := HA.out; rw [List.take_of_length_le (by omega)] at this; exact this))
      have P1 := Lib.hid (amount_any f)
      have P2 := Lib.hid (amount_any r)
      rcases g1 : amountB f with _ | _
      · have HV : Hid (refuseV ts f r = 3) := by have := HF.out; rw [g1] at this; exact this
        rw [g1] at P1
        clear g1
        go_wp2_with fail
        refine (P1.out _).mono ?_
        rintro e w' ⟨rfl, rfl⟩
        go_wp2_with fail
        go_ret
        exact ⟨ret_int HV.out.symm, hE⟩
      rcases g2 : amountB r with _ | _
      · have HV : Hid (refuseV ts f r = 3) := by have := HF.out; rw [g1, g2] at this; exact this
        rw [g1] at P1
        rw [g2] at P2
        clear g1 g2
        go_wp2_with fail
        refine (P1.out _).mono ?_
        rintro e w' ⟨rfl, rfl⟩
        go_wp2_with fail
        refine (P2.out _).mono ?_
        rintro e w' ⟨rfl, rfl⟩
        go_wp2_with fail
        go_ret
        exact ⟨ret_int HV.out.symm, hE⟩
      · have HV : Hid (refuseV ts f r = 0) := by have := HF.out; rw [g1, g2] at this; exact this
        rw [g1] at P1
        rw [g2] at P2
        clear g1 g2
        go_wp2_with fail
        refine (P1.out _).mono ?_
        rintro e w' ⟨rfl, rfl⟩
        go_wp2_with fail
        refine (P2.out _).mono ?_
        rintro e w' ⟨rfl, rfl⟩
        go_wp2_with fail
        go_ret
        exact ⟨ret_int HV.out.symm, hE⟩

/-! ### places -/
theorem err_refused {ts : List Tk} {ps : List Int} {f r : Int} (h : refuseV ts f r ≠ 0) : errV ts ps f r = refuseV ts f r := by unfold errV; rw [if_neg h]
theorem err_places {ts : List Tk} {ps : List Int} {f r : Int} (h : refuseV ts f r = 0) : errV ts ps f r = if placesUpTo ts.length ps ps.length then 0 else 7 := by unfold errV; rw [if_pos h]
theorem upTo_bad {n : Nat} {ps : List Int} {j : Nat} (h : placeOk n ps j = false) : ∀ m, j < m → placesUpTo n ps m = false := by
  intro m
  induction m with
  | zero => intro h; omega
  | succ m ih =>
    intro hm
    rw [placesUpTo]
    rcases Nat.lt_or_eq_of_le (Nat.le_of_lt_succ hm) with h' | h'
    · rw [ih h']; rfl
    · subst h'; rw [h]; simp
theorem upTo_more {n : Nat} {ps : List Int} {j : Nat} (h : placesUpTo n ps j = true) (hk : placeOk n ps j = true) : placesUpTo n ps (j + 1) = true := by rw [placesUpTo, h, hk]; rfl
theorem place_lo {n : Nat} {ps : List Int} {j : Nat} (h : ps.getD j 0 < 0) : placeOk n ps j = false := by unfold placeOk; rw [decide_eq_false (show ¬ 0 ≤ ps.getD j 0 by omega)]; rfl
theorem place_hi {n : Nat} {ps : List Int} {j : Nat} (h : (n : Int) ≤ ps.getD j 0) : placeOk n ps j = false := by unfold placeOk; rw [decide_eq_false (show ¬ ps.getD j 0 < n by omega)]; simp
theorem place_down {n : Nat} {ps : List Int} {j : Nat} (h : ps.getD (j + 1) 0 ≤ ps.getD j 0) : placeOk n ps (j + 1) = false := by
  unfold placeOk
  rw [show decide (ps.getD (j + 1 - 1) 0 < ps.getD (j + 1) 0) = false by rw [Nat.add_sub_cancel]; simp only [decide_eq_false_iff_not]; omega]
  simp
theorem place_first {n : Nat} {ps : List Int} {j : Nat} (hj : ¬ 0 < j) (h0 : 0 ≤ ps.getD j 0) (h1 : ps.getD j 0 < n) : placeOk n ps j = true := by unfold placeOk; simp only [Bool.and_eq_true, decide_eq_true_eq, Bool.or_eq_true]; exact ⟨⟨h0, h1⟩, .inl (by omega)⟩
theorem place_next {n : Nat} {ps : List Int} {j : Nat} (h0 : 0 ≤ ps.getD (j + 1) 0) (h1 : ps.getD (j + 1) 0 < n) (h2 : ps.getD j 0 < ps.getD (j + 1) 0) : placeOk n ps (j + 1) = true := by
  unfold placeOk; simp only [Bool.and_eq_true, decide_eq_true_eq, Bool.or_eq_true, Nat.add_sub_cancel]; exact ⟨⟨h0, h1⟩, .inr h2⟩
def worstV (ts : List Tk) (ps : List Int) (f r : Int) : Int × Int := if errV ts ps f r = 0 then (worstOf ts ps f r, 0) else (0, errV ts ps f r)
theorem worst_err {ts : List Tk} {ps : List Int} {f r e : Int} (h : errV ts ps f r = e) (h0 : e ≠ 0) : worstV ts ps f r = (0, e) := by unfold worstV; rw [h, if_neg h0]
theorem worst_ok {ts : List Tk} {ps : List Int} {f r : Int} (h : errV ts ps f r = 0) : worstV ts ps f r = (worstOf ts ps f r, 0) := by unfold worstV; rw [if_pos h]
def WorstPost (ts : List Tk) (ps : List Int) (f r : Int) (w : World) : Ending → World → Prop := ExtPost w (.tuple #[.int .i64 (worstV ts ps f r).1, .int .i64 (worstV ts ps f r).2])
theorem WorstPost.mk {ts : List Tk} {ps : List Int} {f r a b : Int} {w w' : World} (h : worstV ts ps f r = (a, b)) (hE : Ext w w') : WorstPost ts ps f r w (.returned (.tuple #[.int .i64 a, .int .i64 b])) w' := by
  unfold WorstPost; rw [h]; exact ⟨rfl, hE⟩
def PlaceRel (w : World) (n : Nat) (ps : List Int) (g : Nat) (i : Value) (wr : World) : Prop := ∃ j : Nat, j ≤ ps.length ∧ i = .int .i64 j ∧ g = ps.length - j ∧ Ext w wr ∧ placesUpTo n ps j = true
theorem cell_alloc_one {w : World} {a : Addr} {v : Value} (o : Obj) (h : w.cell? a = some v) : (w.alloc o).cell? a = some v := by
  rw [((Ext.refl w).allocs o).cell (World.block_lt_of_cell? w _ h)]; exact h
/-- the walk over the tasks -/
def RunRel (w : World) (ts : List Tk) (ps : List Int) (g : Nat) (a b c d i : Value) (wr : World) : Prop :=
  ∃ j : Nat, j ≤ ts.length ∧ i = .int .i64 j ∧ g = ts.length - j ∧ Ext w wr ∧ a = .int .i64 (wAt ts ps j).total ∧ b = .int .i64 (wAt ts ps j).longest ∧ c = .int .i64 (wAt ts ps j).length ∧ d = .int .i64 (wAt ts ps j).next
theorem fr_bd (f x : Int) (h1 : 0 ≤ f ∧ f ≤ 1048576) (h2 : 0 ≤ x ∧ x ≤ 1073741824) : 0 ≤ f * x ∧ f * x ≤ 1125899906842624 := by
  have a : 0 ≤ f * x := Int.mul_nonneg h1.1 h2.1
  have b : f * x ≤ 1048576 * 1073741824 := Int.mul_le_mul h1.2 h2.2 h2.1 (by omega)
  omega
theorem wAt_hit {ts : List Tk} {ps : List Int} {j : Nat} {t : Tk} {s : WS} (ht : ts.getD j noTk = t) (hs : wAt ts ps j = s) (h1 : s.next < ps.length) (h2 : ps.getD s.next 0 = j) :
    wAt ts ps (j + 1) = ⟨s.total + t.work + t.cost, max s.longest (s.length + t.work + t.cost), 0, s.next + 1⟩ := by
  rw [wAt, ht, hs, wStep, if_pos ⟨h1, h2⟩]
theorem wAt_miss {ts : List Tk} {ps : List Int} {j : Nat} {t : Tk} {s : WS} (ht : ts.getD j noTk = t) (hs : wAt ts ps j = s) (h : ¬ (s.next < ps.length ∧ ps.getD s.next 0 = j)) :
    wAt ts ps (j + 1) = ⟨s.total + t.work, s.longest, s.length + t.work, s.next⟩ := by
  rw [wAt, ht, hs, wStep, if_neg h]
theorem worst_val {ts : List Tk} {ps : List Int} {f r : Int} (L : Int) (h : max (wAt ts ps ts.length).longest (wAt ts ps ts.length).length = L) : worstOf ts ps f r = (wAt ts ps ts.length).total + f * (r + L) := by
  unfold worstOf longV; rw [h]

set_option maxRecDepth 100000 in
set_option maxHeartbeats 3200000 in
theorem worst_any (A : Option Addr) (c : Nat) (ts : List Tk) (B : Option Addr) (cb : Nat) (ps : List Int) (f r : Int) (w : World) (hs : TkSeg w A ts) (hn : ts.length ≤ 1000) (hp : IntSeg w B ps) (hm : ps.length ≤ 1000) :
    Calls Try.prog 21 #[.slice A ts.length c, .slice B ps.length cb, .int .i64 f, .int .i64 r] w (WorstPost ts ps f r w) := by
  have hn64 : (ts.length : Int) ≤ 1000 := by omega
  have hm64 : (ps.length : Int) ≤ 1000 := by omega
  by_cases hz : refuseV ts f r = 0
  · obtain ⟨z1, z2, z3, hfb, hrb⟩ := refuse_zero hz
    have HFINE := Lib.hid (allFine_of ts z3)
    have HP := Lib.hid (err_places (ps := ps) hz)
    have HR := Lib.hid (refusal_any A c ts f r w hs hn)
    rw [hz] at HR
    clear hz z3
    go_enter Try.func21, Try.ntmps21
    go_wp2_with fail
    refine HR.out.mono ?_
    rintro e w1 ⟨rfl, hE⟩
    go_wp2_with fail
    go_loopg [28] ps.length (fun g i wr => PlaceRel w ts.length ps g i wr)
    case atStart => exact ⟨0, Nat.zero_le _, rfl, rfl, hE, rfl⟩
    case round =>
      clear hE
      obtain ⟨j, hj, rfl, rfl, hE, hup⟩ := hrel
      have HUP := Lib.hid hup
      clear hup
      by_cases hlt : j < ps.length
      · obtain ⟨b, off, rfl, p0⟩ := Iv.atD (hp.ext hE) hlt
        have HBAD : Hid (placeOk ts.length ps j = false → worstV ts ps f r = (0, 7)) := fun h => worst_err (by rw [HP.out, upTo_bad h _ hlt]; rfl) (by omega)
        have HMORE := Lib.hid (upTo_more (n := ts.length) (ps := ps) HUP.out)
        by_cases q1 : ps.getD j 0 < 0
        · have HV := Lib.hid (HBAD.out (place_lo q1))
          generalize ps.getD j 0 = x at *
          go_wp2_with fail
          go_ret2
          exact WorstPost.mk HV.out hE
        by_cases q2 : (ts.length : Int) ≤ ps.getD j 0
        · have HV := Lib.hid (HBAD.out (place_hi q2))
          generalize ps.getD j 0 = x at *
          go_wp2_with fail
          go_ret2
          exact WorstPost.mk HV.out hE
        by_cases hj0 : 0 < j
        rotate_left
        · have HM := Lib.hid (HMORE.out (place_first hj0 (by omega) (by omega)))
          generalize ps.getD j 0 = x at *
          go_wp2_with fail
          go_roundg (ps.length - (j + 1))
          case measure => omega
          case rel => exact ⟨j + 1, by omega, by go_num, rfl, hE, HM.out⟩
        · obtain ⟨j, rfl⟩ : ∃ k, j = k + 1 := ⟨j - 1, by omega⟩
          clear hj0
          obtain ⟨b', off', hA, p1⟩ := Iv.atD (hp.ext hE) (show j < ps.length by omega)
          injection hA with hA
          injection hA with hA1 hA2
          subst hA1
          subst hA2
          have hj0 : ((j : Int) + 1 - 1) = j := by omega
          have hj1 : ((((j + 1 : Nat) : Int)) - 1) = j := by omega
          have hjc : (((j + 1 : Nat) : Int)) = (j : Int) + 1 := by omega
          by_cases q3 : ps.getD (j + 1) 0 ≤ ps.getD j 0
          · have HV := Lib.hid (HBAD.out (place_down q3))
            generalize ps.getD (j + 1) 0 = x at *
            generalize ps.getD j 0 = y at *
            go_wp2_with fail
            go_ret2
            exact WorstPost.mk HV.out hE
          · have HM := Lib.hid (HMORE.out (place_next (by omega) (by omega) (by omega)))
            generalize ps.getD (j + 1) 0 = x at *
            generalize ps.getD j 0 = y at *
            go_wp2_with fail
            go_roundg (ps.length - (j + 1 + 1))
            case measure => omega
            case rel => exact ⟨j + 1 + 1, by omega, by go_num, rfl, hE, HM.out⟩
      · have HOK : Hid (worstV ts ps f r = (worstOf ts ps f r, 0)) := worst_ok (by rw [HP.out, show ps.length = j by omega, HUP.out]; rfl)
        clear HUP
        go_wp2_with fail
        go_loopg [13, 14, 15, 16, 57] ts.length (fun g a b c d i wr => RunRel w ts ps g a b c d i wr)
        case atStart => exact ⟨0, Nat.zero_le _, rfl, rfl, hE, rfl, rfl, rfl, rfl⟩
        case round =>
          clear hE
          obtain ⟨j, hj, rfl, rfl, hE, rfl, rfl, rfl, rfl⟩ := hrel
          obtain ⟨b1, b2, b3, b4⟩ := wAt_bd ts ps HFINE.out j hj
          by_cases hlt : j < ts.length
          · obtain ⟨b, off, rfl, p0, p1⟩ := Tk.at_ (hs.ext hE) hlt
            have ht := HFINE.out j hlt
            have et := getD_at ts j noTk hlt
            rw [← et] at p0 p1
            have HHIT := Lib.hid (@wAt_hit ts ps j _ _ rfl rfl)
            have HMISS := Lib.hid (@wAt_miss ts ps j _ _ rfl rfl)
            have hju : (2097152 : Int) * (j : Int) ≤ 134217728 := by omega
            generalize ts.getD j noTk = t at *
            generalize wAt ts ps j = s at *
            clear et
            obtain ⟨t1, t2⟩ := ht
            by_cases hnx : s.next < ps.length
            · obtain ⟨bp, offp, rfl, c0⟩ := Iv.atD (hp.ext hE) hnx
              have c1 := cell_alloc_one (.cells #[.int .i64 t.work, .int .i64 t.cost] 46) c0
              by_cases heq : ps.getD s.next 0 = j
              · have HV := Lib.hid (HHIT.out hnx heq)
                rw [heq] at c0 c1
                clear heq HHIT HMISS
                by_cases hmx : s.longest < s.length + t.work + t.cost
                · have HV' : Hid (wAt ts ps (j + 1) = ⟨s.total + t.work + t.cost, s.length + t.work + t.cost, 0, s.next + 1⟩) := by have := HV.out; rw [Int.max_eq_right (by omega)] at this; exact this
                  go_wp2_with fail
                  go_roundg (ts.length - (j + 1))
                  case measure => omega
                  case rel => refine ⟨j + 1, by omega, by go_num, rfl, hE.allocs _, ?_, ?_, ?_, ?_⟩ <;> rw [HV'.out] <;> go_num
                · have HV' : Hid (wAt ts ps (j + 1) = ⟨s.total + t.work + t.cost, s.longest, 0, s.next + 1⟩) := by have := HV.out; rw [Int.max_eq_left (by omega)] at this; exact this
                  go_wp2_with fail
                  go_roundg (ts.length - (j + 1))
                  case measure => omega
                  case rel => refine ⟨j + 1, by omega, by go_num, rfl, hE.allocs _, ?_, ?_, ?_, ?_⟩ <;> rw [HV'.out] <;> go_num
              · have HV := Lib.hid (HMISS.out (fun h => heq h.2))
                have heq' : (ps.getD s.next 0 == (j : Int)) = false := beq_eq_false_iff_ne.2 heq
                generalize ps.getD s.next 0 = x at *
                clear heq HHIT HMISS
                go_wp2_with fail
                go_roundg (ts.length - (j + 1))
                case measure => omega
                case rel => refine ⟨j + 1, by omega, by go_num, rfl, hE.allocs _, ?_, ?_, ?_, ?_⟩ <;> rw [HV.out]
            · have HV := Lib.hid (HMISS.out (fun h => hnx h.1))
              clear HHIT HMISS
              go_wp2_with fail
              go_roundg (ts.length - (j + 1))
              case measure => omega
              case rel => refine ⟨j + 1, by omega, by go_num, rfl, hE.allocs _, ?_, ?_, ?_, ?_⟩ <;> rw [HV.out]
          · obtain rfl : j = ts.length := by omega
            have HV := Lib.hid (@worst_val ts ps f r)
            have hju : (2097152 : Int) * (ts.length : Int) ≤ 134217728 := by omega
            generalize wAt ts ps ts.length = s at *
            clear hlt
            by_cases hmx : s.longest < s.length
            · have hfr := fr_bd f (r + s.length) hfb (by omega)
              have HW : Hid (worstOf ts ps f r = s.total + f * (r + s.length)) := HV.out _ (Int.max_eq_right (by omega))
              go_wp2_with fail
              go_ret2
              exact WorstPost.mk (by rw [HOK.out, HW.out]) hE
            · have hfr := fr_bd f (r + s.longest) hfb (by omega)
              have HW : Hid (worstOf ts ps f r = s.total + f * (r + s.longest)) := HV.out _ (Int.max_eq_left (by omega))
              go_wp2_with fail
              go_ret2
              exact WorstPost.mk (by rw [HOK.out, HW.out]) hE
  · have HV := Lib.hid (worst_err (err_refused (ps := ps) hz) hz)
    have hz' : (refuseV ts f r != 0) = true := by simp [hz]
    have HR := Lib.hid (refusal_any A c ts f r w hs hn)
    generalize refuseV ts f r = x at *
    clear hz
    go_enter Try.func21, Try.ntmps21
    go_wp2_with fail
    refine HR.out.mono ?_
    rintro e w1 ⟨rfl, hE⟩
    go_wp2_with fail
    go_ret2
    exact WorstPost.mk HV.out hE
end Go.Proofs.Ytddcgholnhhcoaa
