/- Stable of the reference. No statement of the seat is proved here. -/
import Derived.Test.YtcljdkjlfciacaaSearch2
import Derived.Test.YtcljdkjlfciacaaPast3
import Derived.Deep.QuietTactic
namespace Go.Proofs.Ytcljdkjlfciacaa
open Go.RowKit Go.Shelf
set_option linter.unusedVariables false

theorem elem_same (A : Option Addr) (c : Nat) (l : List Int) (i : Nat) (w : World) (hs : IntSeg w A l) (hc : l.length ≤ c) (hm : c ≤ maxLen) :
    Calls Try.prog 39 #[.slice A l.length c, .int .i64 i] w (fun e w' => e = .returned (.int .i64 (elX l i)) ∧ w' = w) := by
  unfold maxLen at hm
  by_cases hi : i < l.length
  · obtain ⟨b, off, rfl, p0⟩ := Iv.at_ hs hi
    have HE := Lib.hid (elX_at hi)
    have d : decide ((i : Int) < (l.length : Int)) = true := decide_eq_true (by omega)
    have h0 : (0 : Int) ≤ (i : Int) := by omega
    have h1 : (i : Int) < (l.length : Int) := by omega
    generalize l[i] = x at *
    go_enter Try.func39, Try.ntmps39
    go_wp2_with fail
    go_ret
    exact ⟨by rw [HE.out]; rfl, rfl⟩
  · have HE : Hid (elX l i = 0) := by show _ = _; unfold elX; rw [List.getD_eq_getElem?_getD, List.getElem?_eq_none (by omega)]; rfl
    have d : decide ((i : Int) < (l.length : Int)) = false := decide_eq_false (by omega)
    go_enter Try.func39, Try.ntmps39
    go_wp2_with fail
    go_ret
    exact ⟨by rw [HE.out]; rfl, rfl⟩
theorem elX_app {X : List Int} {x : Int} {r : Nat} : elX (X ++ [x]) r = if r < X.length then elX X r else if r = X.length then x else 0 := by
  unfold elX
  rw [List.getD_eq_getElem?_getD, List.getD_eq_getElem?_getD, List.getElem?_append]
  split
  · rfl
  · split
    · rename_i h; subst h; simp
    · rw [List.getElem?_eq_none (by simp only [List.length_singleton]; omega)]; rfl
theorem row_push {w wr w9 : World} {v v9 : Value} {X : List Int} {x : Int} (hown : w9.ownsRow w.heap.size 3 1 v9 (X ++ [x]).length ((X ++ [x]).flatMap Iv)) (ho : wr.ownsRow w.heap.size 3 1 v X.length (X.flatMap Iv)) (hE : Ext w wr) (hg : wr.grownBy w9 v.ownBlock) :
    ∃ A9 c9 X9, v9 = .slice A9 X9.length c9 ∧ X9.length = X.length + 1 ∧ w9.ownsRow w.heap.size 3 1 (.slice A9 X9.length c9) X9.length (X9.flatMap Iv) ∧ Ext w w9 ∧ ((∀ r, r < X.length → elX X9 r = elX X r) ∧ elX X9 X.length = x) := by
  obtain ⟨A9, c9, rfl, _, _, _⟩ := own_slice hown
  refine ⟨A9, c9, X ++ [x], rfl, by simp, hown, Ext.own hE ho (Nat.le_refl _) hg, fun r hr => ?_, ?_⟩
  · rw [elX_app, if_pos hr]
  · rw [elX_app, if_neg (Nat.lt_irrefl _), if_pos rfl]
def RsRel (w : World) (n : Nat) (V : List Int) (g : Nat) (sv iv : Value) (wr : World) : Prop :=
  ∃ (q : Nat) (Av : Option Addr) (cv : Nat) (X : List Int), q ≤ n ∧ iv = .int .i64 q ∧ sv = .slice Av X.length cv ∧ g = n - q ∧ Ext w wr ∧ wr.ownsRow w.heap.size 3 1 (.slice Av X.length cv) X.length (X.flatMap Iv) ∧ Hid (X.length = q ∧ ∀ r, r < q → elX X r = elX V r)
def RkRel (wr0 : World) (good : Nat → Bool) (m : Nat) (g : Nat) (kv : Value) (wr : World) : Prop :=
  ∃ k : Nat, k ≤ m ∧ kv = .int .i64 k ∧ k = g ∧ Ext wr0 wr ∧ Hid (bestK good m = bestK good k)
def rtJ (St X : List Int) (j : Nat) : Bool := decide (0 < X.length) && (List.range j).all fun q => (elX X q == 0) || decide (elX X q ≤ elX St q)
theorem rtJ_succ (St X : List Int) (j : Nat) : rtJ St X (j + 1) = (rtJ St X j && ((elX X j == 0) || decide (elX X j ≤ elX St j))) := by
  unfold rtJ
  rw [List.range_succ, List.all_append]
  simp [Bool.and_assoc]
def RjRel (wr0 : World) (St X : List Int) (g : Nat) (bv jv : Value) (wr : World) : Prop :=
  ∃ (j : Nat) (b : Bool), j ≤ X.length ∧ bv = .bool b ∧ jv = .int .i64 j ∧ g = X.length - j ∧ Ext wr0 wr ∧ Hid (rtJ St X j = b)
theorem Ext.drewn' {a w : World} (h : Ext a w) (n : Nat) : Ext a (w.drewN n) := h.drewN n
set_option maxRecDepth 100000 in
set_option maxHeartbeats 1000000 in
theorem stable_ref (A : Option Addr) (cA : Nat) (R : List Rw) (B : Option Addr) (cB : Nat) (St : List Int) (w : World) (hs : LinSeg w A R) (hn : R.length ≤ 1000) (hsz : ∀ r ∈ R, r.es.length < 4611686018427387904)
    (hB : IntSeg w B St) (hBc : St.length ≤ cB) (hBm : cB ≤ maxLen) :
    Calls Try.prog 20 #[.slice A R.length cA, .slice B St.length cB] w (IPost (searchL (evsL R) (rtS St)) w) := by
  obtain ⟨V, hV⟩ : ∃ V, V = searchL (evsL R) (rtS St) := ⟨_, rfl⟩
  rw [← hV]
  have HVl : Hid (V.length = R.length) := by show _ = _; rw [hV, searchL_len, evsL_len]
  have HV : Hid (∀ q (h : q < R.length), elX V q = ((bestK (goodB (evsL R) (rtS St) q) R[q].es.length : Nat) : Int)) := fun q h => by
    rw [hV, searchL_at (by rw [evsL_len]; exact h), evsL_row h]
  clear hV
  have HS := Lib.hid hs
  have HB := Lib.hid hB
  have HSZ := Lib.hid hsz
  clear hs hB hsz
  have hBm' := hBm
  unfold maxLen at hBm'
  go_enter Try.func20, Try.ntmps20
  go_upto_region 3 with fail
  go_loopg [5, 6] R.length (fun g sv iv wr => RsRel w R.length V g sv iv wr)
  case atStart => exact ⟨0, none, 0, [], Nat.zero_le _, rfl, rfl, rfl, Ext.refl w, own_nil w w.heap.size 3 1 Iv, (⟨rfl, fun r hr => absurd hr (Nat.not_lt_zero _)⟩ : _ ∧ _)⟩
  case round =>
    obtain ⟨q, Av, cv, X, hq, rfl, rfl, rfl, hE, hO, HX⟩ := hrel
    by_cases hlt : q < R.length
    · have hq0 : (0 : Int) ≤ (q : Int) := by omega
      have hq1 : (q : Int) < (R.length : Int) := by omega
      have hXl : X.length ≤ 1000 := by have := HX.out.1; omega
      have HVq := Lib.hid (HV.out q hlt)
      have hse := HSZ.out _ (List.getElem_mem hlt)
      obtain ⟨bl, ol, hA, p0⟩ := (HS.out.ext hE).at_ hlt
      subst hA
      generalize R[q].A = Aq at *
      generalize R[q].c = cq at *
      generalize R[q].es.length = m at *
      obtain ⟨good, hgood⟩ : ∃ good, goodB (evsL R) (rtS St) q = good := ⟨_, rfl⟩
      rw [hgood] at HVq
      have HG : Hid (∀ k, good k = rtJ St (pastL (evsL R) (q : Int) (k : Int)) (pastL (evsL R) (q : Int) (k : Int)).length) := fun k => by rw [← hgood]; rfl
      have HO0 := Lib.hid hO
      have HE0 := Lib.hid hE
      clear hgood hO
      go_upto_region 6 with fail
      clear p0
      go_loopg [7] m (fun g kv wx => RkRel wr good m g kv wx)
      case atStart => exact ⟨m, Nat.le_refl _, rfl, rfl, Ext.refl wr, (rfl : bestK good m = bestK good m)⟩
      case round =>
        rename World => wk
        obtain ⟨k, hk, rfl, rfl, hEX, HK⟩ := hrel
        have hEX' := HE0.out.trans hEX
        by_cases h0 : 0 < k
        · have dk : decide ((0 : Int) < (k : Int)) = true := decide_eq_true (by omega)
          have hpl := pastL_len (evsL R) (q : Int) (k : Int)
          rw [evsL_len] at hpl
          go_wp2_with fail
          refine (past_ref _ cA R (q : Int) (k : Int) _ (HS.out.ext hEX') hn).mono ?_
          rintro e w3 ⟨A3, c3, rfl, hI3, hl3, hm3, hE3⟩
          have HGk := Lib.hid (HG.out k)
          generalize pastL (evsL R) (q : Int) (k : Int) = P at *
          have hP : P.length ≤ 1000 := by omega
          have HI3 := Lib.hid hI3
          have hEX3 := hEX.trans hE3
          have hEX3' := hEX'.trans hE3
          clear hI3 hEX hEX' hE3 dk
          obtain ⟨b0, hb0⟩ : ∃ b0, decide (0 < P.length) = b0 := ⟨_, rfl⟩
          have HB0 : Hid (rtJ St P 0 = b0) := by
            show rtJ St P 0 = b0
            rw [← hb0]
            unfold rtJ
            simp
          go_upto_region 11 with fail
          clear hb0
          go_loopg [9, 10] P.length (fun g bv jv wx => RjRel w3 St P g bv jv wx)
          case atStart => exact ⟨0, b0, Nat.zero_le _, rfl, rfl, rfl, Ext.refl w3, HB0⟩
          case round =>
            rename World => wj
            obtain ⟨j, b, hj, rfl, rfl, rfl, hE4, HJ⟩ := hrel
            by_cases hjl : j < P.length
            · have hj0 : (0 : Int) ≤ (j : Int) := by omega
              have hj1 : (j : Int) < (P.length : Int) := by omega
              obtain ⟨bp, op, rfl, pj⟩ := Iv.at_ (HI3.out.ext hE4) hjl
              rw [← elX_at hjl] at pj
              have HJ1 := Lib.hid (rtJ_succ St P j)
              have HE4 := Lib.hid hE4
              clear hE4
              cases b with
              | false =>
                have HN : Hid (rtJ St P (j + 1) = false) := by show _ = _; rw [HJ1.out, HJ.out]; rfl
                go_wp2_with fail
                go_quiet (fail)
                go_wp2_with fail
                go_roundg (P.length - (j + 1))
                case measure => omega
                case rel => exact ⟨j + 1, false, by omega, rfl, by go_num, rfl, HE4.out.drewN _, HN⟩
              | true =>
                by_cases hz : elX P j = 0
                · have dz : (elX P j == 0) = true := by simp [hz]
                  have HN : Hid (rtJ St P (j + 1) = true) := by show _ = _; rw [HJ1.out, HJ.out, dz]; rfl
                  clear hz
                  go_wp2_with fail
                  go_quiet (fail)
                  go_wp2_with fail
                  go_roundg (P.length - (j + 1))
                  case measure => omega
                  case rel => exact ⟨j + 1, true, by omega, rfl, by go_num, rfl, HE4.out.drewN _, HN⟩
                · have dz : (elX P j == 0) = false := by simp [hz]
                  have HEL : Hid (∀ n, Calls Try.prog 39 #[.slice B St.length cB, .int .i64 (j : Int)] (wj.drewN n) (fun e w' => e = .returned (.int .i64 (elX St j)) ∧ w' = wj.drewN n)) := fun n => elem_same B cB St j _ ((HB.out.ext (hEX3'.trans HE4.out)).drewN n) hBc hBm
                  obtain ⟨b1, hb1⟩ : ∃ b1, decide (elX P j ≤ elX St j) = b1 := ⟨_, rfl⟩
                  have HN : Hid (rtJ St P (j + 1) = b1) := by show _ = _; rw [HJ1.out, HJ.out, dz, hb1]; rfl
                  clear hz
                  go_wp2_with fail
                  go_quiet ((go_at_call 39; exact Calls.quiet_of_same (HEL.out _)))
                  clear hb1
                  go_wp2_with fail
                  go_roundg (P.length - (j + 1))
                  case measure => omega
                  case rel => exact ⟨j + 1, b1, by omega, rfl, by go_num, rfl, HE4.out.drewN _, HN⟩
            · obtain rfl : P.length = j := by omega
              have HGb : Hid (good k = b) := by show _ = _; rw [HGk.out, HJ.out]
              have hEX := hEX3.trans hE4
              have hEX' := hEX3'.trans hE4
              cases b with
              | true =>
                have HBk : Hid (bestK good m = k) := by
                  show _ = _
                  obtain ⟨k', rfl⟩ : ∃ k', k = k' + 1 := ⟨k - 1, by omega⟩
                  rw [HK.out, bestK, if_pos HGb.out]
                clear hE4 hEX3 hEX3'
                have hz1 := hEX'.size
                have HO := Lib.hid (own_ext HO0.out (hEX))
                go_wp2_with (at_builtin; go_loud (refine wpList_push_at Iv 1 8 Iv.len Iv.one (by omega) rfl _ _ _ rfl w.heap.size 3 Try.underlying28 (by kernel_rfl) (.slice Av X.length cv) X (k : Int) wj.heap.size rfl HO.out rfl rfl (by unfold maxLen; omega) (by omega) (by omega) ?_; intro v9 w9 hown9 hg9; obtain ⟨A9, c9, X9, rfl, hX9, hO9, hE9, hV9⟩ := row_push hown9 HO.out hEX' hg9; have HO9 := Lib.hid hO9; have HX9 := Lib.hid hX9; have HV9 := Lib.hid hV9; clear hown9 hg9 hO9 hX9 hV9))
                go_wp2_with fail
                go_roundg (R.length - (q + 1))
                case measure => omega
                case rel =>
                  have HVV : Hid (X9.length = q + 1 ∧ ∀ r, r < q + 1 → elX X9 r = elX V r) := ⟨by rw [HX9.out, HX.out.1], fun r hr => by
                    by_cases h1 : r < q
                    · rw [HV9.out.1 r (by rw [HX.out.1]; exact h1)]; exact HX.out.2 r h1
                    · obtain rfl : r = q := by omega
                      have h2 := HV9.out.2
                      rw [HX.out.1] at h2
                      rw [h2, HVq.out]
                      rw [HBk.out]⟩
                  exact ⟨q + 1, _, _, X9, by omega, by go_num, rfl, rfl, hE9, HO9.out, HVV⟩
              | false =>
                have HBk : Hid (bestK good m = bestK good (k - 1)) := by
                  show _ = _
                  obtain ⟨k', rfl⟩ : ∃ k', k = k' + 1 := ⟨k - 1, by omega⟩
                  rw [HK.out, bestK, if_neg (by rw [HGb.out]; simp)]
                  rfl
                clear hE4 hEX3 hEX3'
                go_wp2_with fail
                go_roundg (k - 1)
                case measure => omega
                case rel => exact ⟨k - 1, by omega, by rw [show ((k : Int) - 1) = ((k - 1 : Nat) : Int) by omega], rfl, hEX, HBk⟩
        · obtain rfl : k = 0 := by omega
          have HBk : Hid (bestK good m = 0) := HK.out
          have hz1 := hEX'.size
          have HO := Lib.hid (own_ext HO0.out (hEX))
          go_wp2_with (at_builtin; go_loud (refine wpList_push_at Iv 1 8 Iv.len Iv.one (by omega) rfl _ _ _ rfl w.heap.size 3 Try.underlying28 (by kernel_rfl) (.slice Av X.length cv) X ((0 : Nat) : Int) wk.heap.size rfl HO.out rfl rfl (by unfold maxLen; omega) (by omega) (by omega) ?_; intro v9 w9 hown9 hg9; obtain ⟨A9, c9, X9, rfl, hX9, hO9, hE9, hV9⟩ := row_push hown9 HO.out hEX' hg9; have HO9 := Lib.hid hO9; have HX9 := Lib.hid hX9; have HV9 := Lib.hid hV9; clear hown9 hg9 hO9 hX9 hV9))
          go_wp2_with fail
          go_roundg (R.length - (q + 1))
          case measure => omega
          case rel =>
            have HVV : Hid (X9.length = q + 1 ∧ ∀ r, r < q + 1 → elX X9 r = elX V r) := ⟨by rw [HX9.out, HX.out.1], fun r hr => by
              by_cases h1 : r < q
              · rw [HV9.out.1 r (by rw [HX.out.1]; exact h1)]; exact HX.out.2 r h1
              · obtain rfl : r = q := by omega
                have h2 := HV9.out.2
                rw [HX.out.1] at h2
                rw [h2, HVq.out]
                rw [HBk.out]⟩
            exact ⟨q + 1, _, _, X9, by omega, by go_num, rfl, rfl, hE9, HO9.out, HVV⟩
    · obtain rfl : q = R.length := by omega
      have HXV : Hid (X = V) := elX_ext (by rw [HX.out.1, HVl.out]) (fun r hr => HX.out.2 r (by have := HX.out.1; omega))
      obtain ⟨A9, c9, e9, hs9, hc9, hm9⟩ := own_slice hO
      injection e9 with e9 e9l e9c
      subst e9 e9c
      have HI := Lib.hid hs9
      have HE := Lib.hid hE
      clear hs9 hE hO
      go_wp2_with fail
      go_ret
      rw [← HXV.out]
      exact ⟨_, _, rfl, HI.out, hc9, hm9, HE.out⟩
end Go.Proofs.Ytcljdkjlfciacaa
