/- slices.Compact at determinants: the walk. No statement of the seat is proved here. -/
import Derived.Test.YthadaahemhamdaaCompact27
namespace Go.Proofs.Ythadaahemhamdaa
open Go.RowKit
set_option linter.unusedVariables false

theorem Row.atO {w : World} {g : Nat} {l : List Dt} (h : Row w g l) {i o : Nat} (hi : i < l.length) (ho : i * 9 = o) :
    w.cell? ⟨g, o, none⟩ = some (.int .i64 l[i].proc) ∧ w.cell? ⟨g, o + 1, none⟩ = some (.int .i64 l[i].index) ∧ w.cell? ⟨g, o + 2, none⟩ = some (.int .i64 l[i].ev.kind) ∧ w.cell? ⟨g, o + 3, none⟩ = some (.int .i64 l[i].ev.inc) ∧ w.cell? ⟨g, o + 4, none⟩ = some (.int .i64 l[i].ev.frm) ∧ w.cell? ⟨g, o + 5, none⟩ = some (.int .i64 l[i].ev.sinc) ∧ w.cell? ⟨g, o + 6, none⟩ = some (.int .i64 l[i].ev.sidx) ∧ w.cell? ⟨g, o + 7, none⟩ = some (.int .i64 l[i].ev.ord) ∧ w.cell? ⟨g, o + 8, none⟩ = some (.int .i64 l[i].ev.val) := by
  subst ho; exact h.at_ hi
def CPost (g cap : Nat) (l : List Dt) (w : World) (e : Ending) (w' : World) : Prop := e = .returned (.slice (some ⟨g, 0, none⟩) (cpt l).length cap) ∧ GrownS w w' g ∧ Row w' g (cpt l)
def C1 (w : World) (l : List Dt) (gh : Nat) (kv : Value) (wr : World) : Prop := ∃ q : Nat, q + 1 ≤ l.length ∧ kv = .int .i64 ((q : Int) + 1) ∧ gh = l.length - (q + 1) ∧ Ext w wr ∧ cpt (l.take (q + 1)) = l.take (q + 1)
/-- b: where the second list begins -/
def C2 (w : World) (g : Nat) (l : List Dt) (b : Nat) (gh : Nat) (kv k2v : Value) (wr : World) : Prop :=
  ∃ (m p : Nat) (X : List Dt), b + p + 1 ≤ l.length ∧ kv = .int .i64 (m : Int) ∧ k2v = .int .i64 ((p : Int) + 1) ∧ gh = l.length - (b + p + 1) ∧ X.length = l.length ∧ X.take m = cpt (l.take (b + p + 1)) ∧ m = (cpt (l.take (b + p + 1))).length ∧ m ≤ b + p ∧ (∀ x, b + p ≤ x → X[x]? = l[x]?) ∧ GrownS w wr g ∧ Row wr g X
theorem ext_grown {w w' : World} (h : Ext w w') (row : Option Nat) : w.grownBy w' row := ⟨h.os, h.tape, h.output, h.size, fun k hk _ => h.block k hk⟩
theorem grown_trans {a b c : World} {r : Option Nat} (h : a.grownBy b r) (k : b.grownBy c r) : a.grownBy c r := ⟨k.os.trans h.os, k.tape.trans h.tape, k.output.trans h.output, Nat.le_trans h.size k.size, fun i hi hne => (k.block i (Nat.lt_of_lt_of_le hi h.size) hne).trans (h.block i hi hne)⟩

set_option maxRecDepth 100000 in
set_option maxHeartbeats 3200000 in
theorem compact_row (g cap : Nat) (l : List Dt) (w : World) (h : Row w g l) (hc : l.length ≤ cap) (hcm : cap ≤ maxLen) (hn : l.length ≤ 1000) :
    Calls Try.prog 51 #[.slice (some ⟨g, 0, none⟩) l.length cap] w (CPost g cap l w) := by
  have hn' : (l.length : Int) ≤ 1000 := by omega
  have hcm' : (cap : Int) ≤ 9223372036854775807 := by unfold maxLen at hcm; omega
  have hc' : (l.length : Int) ≤ (cap : Int) := by omega
  by_cases h2 : l.length < 2
  · have HV := Lib.hid (cpt_short l h2)
    go_enter Try.func51, Try.ntmps51
    go_wp2_with fail
    go_ret
    exact ⟨by rw [HV.out]; rfl, gs_ext (Ext.refl w) _, by rw [HV.out]; exact h⟩
  go_enter Try.func51, Try.ntmps51
  go_wp2_with fail
  go_loopg [3] (l.length - 1) (fun gh kv wr => C1 w l gh kv wr)
  case atStart => exact ⟨0, by omega, rfl, rfl, Ext.refl _, cpt_short _ (by rw [List.length_take]; omega)⟩
  case round =>
    obtain ⟨q, hq, rfl, rfl, hE, hcp⟩ := hrel
    have HCP := Lib.hid hcp
    clear hcp
    by_cases hlt : q + 1 < l.length
    · have hR := h.ext hE
      obtain ⟨a0, a1, a2, a3, a4, a5, a6, a7, a8⟩ := Row.atO hR (i := q + 1) hlt rfl
      obtain ⟨b0, b1, b2, b3, b4, b5, b6, b7, b8⟩ := Row.atO hR (i := q) (by omega) rfl
      have HT := Lib.hid (cpt_take l q hlt)
      have heq := fun w => eql_det w l[q + 1] l[q]
      unfold Dt.val at heq
      have hq0 : (0 : Int) ≤ (q : Int) + 1 := by omega
      have hq1 : (q : Int) + 1 < (l.length : Int) := by omega
      have hq2 : (0 : Int) ≤ (q : Int) := by omega
      have hq3 : (q : Int) < (l.length : Int) := by omega
      rcases hsm : l[q + 1].same l[q] with _ | _
      · have HV : Hid (cpt (l.take (q + 2)) = l.take (q + 2)) := by
          show cpt (l.take (q + 2)) = _
          rw [HT.out, if_neg (by rw [hsm]; decide), HCP.out]
          exact (List.take_succ_eq_append_getElem hlt).symm
        rw [hsm] at heq
        clear HT hsm
        generalize l[q + 1] = x at *
        generalize l[q] = y at *
        go_wp2_with fail
        go_quiet (fail)
        go_wp2_with fail
        go_roundg (l.length - (q + 1 + 1))
        case measure => omega
        case rel => exact ⟨q + 1, by omega, by go_num, rfl, hE.drewN _, HV.out⟩
      · have HV : Hid (cpt (l.take (q + 2)) = l.take (q + 1)) := by
          show cpt (l.take (q + 2)) = _
          rw [HT.out, if_pos hsm, HCP.out]
        rw [hsm] at heq
        clear HT hsm
        generalize l[q + 1] = x at *
        generalize l[q] = y at *
        go_wp2_with fail
        go_quiet (fail)
        go_wp2_with fail
        clear a0 a1 a2 a3 a4 a5 a6 a7 a8 b0 b1 b2 b3 b4 b5 b6 b7 b8 heq hR
        go_loopg [3, 5] (l.length - (q + 1 + 1)) (fun gh kv k2v wr => C2 w g l (q + 1) gh kv k2v wr)
        case atStart => exact ⟨q + 1, 0, l, by omega, by go_num, rfl, rfl, rfl, HV.out.symm, by rw [show q + 1 + 0 + 1 = q + 2 by omega, HV.out, List.length_take]; omega, by omega, fun _ _ => rfl, gs_ext (Ext.drewN hE _) _, CellRow.ext h (Ext.drewN hE _)⟩
        case round =>
          clear HV HCP hE
          obtain ⟨m, p, X, hp, rfl, rfl, rfl, hXl, hXt, hm, hmp, hXr, hG, hR⟩ := hrel
          have HXT := Lib.hid hXt
          have HM := Lib.hid hm
          have HXR := Lib.hid hXr
          have HG := Lib.hid hG
          clear hXt hm hXr hG
          by_cases hlt2 : q + 1 + p + 1 < l.length
          · have hx1 : q + 1 + p + 1 < X.length := by omega
            have hx0 : q + 1 + p < X.length := by omega
            have e1 : X[q + 1 + p + 1] = l[q + 1 + p + 1] := by
              have := HXR.out (q + 1 + p + 1) (by omega)
              rw [List.getElem?_eq_getElem hx1, List.getElem?_eq_getElem hlt2] at this
              injection this
            have e0 : X[q + 1 + p] = l[q + 1 + p] := by
              have := HXR.out (q + 1 + p) (by omega)
              rw [List.getElem?_eq_getElem hx0, List.getElem?_eq_getElem (show q + 1 + p < l.length by omega)] at this
              injection this
            obtain ⟨a0, a1, a2, a3, a4, a5, a6, a7, a8⟩ := Row.atO hR (i := q + 1 + p + 1) (o := (q + 1) * 9 + (p + 1) * 9) hx1 (by omega)
            obtain ⟨b0, b1, b2, b3, b4, b5, b6, b7, b8⟩ := Row.atO hR (i := q + 1 + p) (o := (q + 1) * 9 + p * 9) hx0 (by omega)
            rw [e1] at a0 a1 a2 a3 a4 a5 a6 a7 a8
            rw [e0] at b0 b1 b2 b3 b4 b5 b6 b7 b8
            have HT := Lib.hid (cpt_take l (q + 1 + p) hlt2)
            have heq := fun w => neq_det w l[q + 1 + p + 1] l[q + 1 + p]
            unfold Dt.val at heq
            clear e0
            have HE1 := Lib.hid e1
            clear e1
            rcases hsm : l[q + 1 + p + 1].same l[q + 1 + p] with _ | _
            · have HV : Hid (cpt (l.take (q + 1 + p + 2)) = cpt (l.take (q + 1 + p + 1)) ++ [l[q + 1 + p + 1]]) := by
                show cpt (l.take (q + 1 + p + 2)) = _
                rw [HT.out, if_neg (by rw [hsm]; decide)]
              rw [hsm] at heq
              clear HT hsm HE1
              have hmx : m < X.length := by omega
              obtain ⟨c0, c1, c2, c3, c4, c5, c6, c7, c8⟩ := Row.at_ hR hmx
              obtain ⟨f0, f1, f2, f3, f4, f5, f6, f7, f8⟩ := Row.frz hR hmx
              generalize X[m] = z at c0 c1 c2 c3 c4 c5 c6 c7 c8
              generalize l[q + 1 + p + 1] = x at *
              generalize l[q + 1 + p] = y at *
              have HPUT := Lib.hid (fun w' (hE : Ext wr w') => Row.put (CellRow.ext hR hE) hmx x)
              have hm0 : (m : Int) < (l.length : Int) := by omega
              go_wp2_with fail
              go_quiet (fail)
              go_wp2_with fail
              go_roundg (l.length - (q + 1 + (p + 1) + 1))
              case measure => omega
              case rel =>
                refine ⟨m + 1, p + 1, X.set m x, by omega, by go_num, by go_num, rfl, by rw [List.length_set]; exact hXl, ?_, ?_, by omega, fun i hi => ?_, gs_trans HG.out (gs_trans (gs_ext (Ext.drewn _ _) _) (gs_sets _ g (m * 9) x.cells)), HPUT.out _ (Ext.drewn _ _)⟩
                · rw [show q + 1 + (p + 1) + 1 = q + 1 + p + 2 by omega, HV.out, ← HXT.out, List.take_succ_eq_append_getElem (by rw [List.length_set]; exact hmx), List.getElem_set_self, List.take_set_of_le (Nat.le_refl _)]
                · rw [show q + 1 + (p + 1) + 1 = q + 1 + p + 2 by omega, HV.out, List.length_append, ← HM.out]; rfl
                · rw [List.getElem?_set_ne (by omega)]
                  exact HXR.out i (by omega)
            · have HV : Hid (cpt (l.take (q + 1 + p + 2)) = cpt (l.take (q + 1 + p + 1))) := by
                show cpt (l.take (q + 1 + p + 2)) = _
                rw [HT.out, if_pos hsm]
              rw [hsm] at heq
              clear HT hsm HE1
              generalize l[q + 1 + p + 1] = x at *
              generalize l[q + 1 + p] = y at *
              go_wp2_with fail
              go_quiet (fail)
              go_wp2_with fail
              go_roundg (l.length - (q + 1 + (p + 1) + 1))
              case measure => omega
              case rel => exact ⟨m, p + 1, X, by omega, rfl, by go_num, rfl, hXl, by rw [show q + 1 + (p + 1) + 1 = q + 1 + p + 2 by omega, HV.out]; exact HXT.out, by rw [show q + 1 + (p + 1) + 1 = q + 1 + p + 2 by omega, HV.out]; exact HM.out, by omega, fun x hx => HXR.out x (by omega), gs_trans HG.out (gs_ext (Ext.drewn _ _) _), CellRow.ext hR (Ext.drewn _ _)⟩
          · have hpn : q + 1 + p + 1 = l.length := by omega
            have HV : Hid (X.take m = cpt l ∧ m = (cpt l).length) := by
              have h1 := HXT.out
              have h2 := HM.out
              rw [hpn, List.take_length] at h1 h2
              exact ⟨h1, h2⟩
            have hp' : (p : Int) + 1 = (l.length : Int) - ((q : Int) + 1) := by omega
            have hmn : m < l.length := by omega
            have hm0 : (m : Int) ≤ (l.length : Int) := by omega
            obtain ⟨w9, hclr, hG9, hR9⟩ := run_clear_row wr 0 g m (l.length - m) (cap - m) X hR (by omega) (by omega)
            clear HXT HM HXR hpn
            go_wp2_with fail
            go_ret
            refine ⟨?_, gs_trans HG.out hG9, by rw [← HV.out.1]; exact hR9⟩
            rw [← HV.out.2]
            rfl
    · have hql : q + 1 = l.length := by omega
      have HV : Hid (cpt l = l) := by
        have := HCP.out
        rw [hql, List.take_length] at this
        exact this
      have hql' : (q : Int) + 1 = (l.length : Int) := by omega
      clear hql
      go_wp2_with fail
      go_ret
      exact ⟨by rw [HV.out]; rfl, gs_ext hE _, by rw [HV.out]; exact h.ext hE⟩
end Go.Proofs.Ythadaahemhamdaa
