/- The walk of the law SenderlogFollows. -/
import Derived.Test.YtooegndajfopkaaEnds
import Derived.Test.YtooegndajfopkaaMap
import Derived.Deep.LoopGhost
namespace Go.Proofs.Ytooegndajfopkaa
open Go.RowKit Go.Maps
set_option linter.unusedVariables false

/-- c is the index of the first message that is not sure; nothing behind it is -/
def Unc (l : List Ev) (f : Int → Bool) (c : Nat) : Prop :=
  c ≤ l.length ∧ (∀ i (h : i < l.length), i < c → l[i].kind = 1 → f ((i : Int) + 1) = true) ∧ (∀ h : c < l.length, l[c].kind = 1) ∧ ∀ i : Nat, c ≤ i → f ((i : Int) + 1) = false

/-- one number more is sure -/
def setB (f : Int → Bool) (k : Int) : Int → Bool := fun j => if j = k then true else f j
theorem setB_at (f : Int → Bool) (k : Int) : setB f k k = true := by simp [setB]
theorem setB_ne (f : Int → Bool) {k j : Int} (h : j ≠ k) : setB f k j = f j := by simp [setB, h]

theorem recvs_zero (l : List Ev) (h : recvs l = 0) : ∀ i (hi : i < l.length), l[i].kind ≠ 1 := by
  induction l with
  | nil => intro i hi; simp at hi
  | cons e l ih =>
    simp only [recvs] at h
    intro i hi
    have he : e.kind ≠ 1 := by intro he; simp [he] at h
    cases i with
    | zero => exact he
    | succ i => exact ih (by omega) i (by simpa using hi)
theorem Unc.start : Unc [] (fun _ => false) 0 := ⟨by simp, by simp, by simp, fun _ _ => rfl⟩
theorem Unc.next {l : List Ev} {f : Int → Bool} {c : Nat} (h : Unc l f c) (hc : c < l.length) : nextV l c = (c : Int) + 1 := by
  unfold nextV
  rw [Int.toNat_natCast, next_skip l c c 0 (by omega), Nat.zero_add, next_at l c c hc (Nat.le_refl _), if_pos (h.2.2.1 hc)]
  omega
theorem Unc.none {l : List Ev} {f : Int → Bool} {c : Nat} (hc : c = l.length) : nextV l c = 0 ∧ confirmV l c = c := by
  have : recvs (l.drop c) = 0 := by rw [hc]; simp [recvs]
  exact ⟨next_none l c this, confirm_none l c this⟩
theorem Unc.confirm {l : List Ev} {f : Int → Bool} {c : Nat} (h : Unc l f c) (hc : c < l.length) :
    ∃ c' : Nat, confirmV l c = c' ∧ Unc l (setB f ((c : Int) + 1)) c' := by
  have hn := h.next hc
  obtain ⟨h1, h2, h3, h4⟩ := h
  by_cases h0 : recvs (l.drop (c + 1)) = 0
  · refine ⟨l.length, ?_, Nat.le_refl _, ?_, fun h => absurd h (by omega), ?_⟩
    · unfold confirmV
      rw [hn, if_neg (by omega)]
      have := next_none l (c + 1) h0
      rw [show ((c + 1 : Nat) : Int) = (c : Int) + 1 by omega] at this
      rw [this]; simp
    · intro i hi _ hk
      by_cases e : i = c
      · subst e; exact setB_at _ _
      · rw [setB_ne _ (by omega)]
        by_cases hic : i < c
        · exact h2 i hi hic hk
        · exfalso
          refine recvs_zero _ h0 (i - (c + 1)) (by simp; omega) ?_
          rw [List.getElem_drop]
          simpa [show c + 1 + (i - (c + 1)) = i by omega] using hk
    · intro i hi
      rw [setB_ne _ (by omega)]
      exact h4 i (by omega)
  · have e := next_skip l (c + 1) (c + 1) 0 (by omega)
    rcases next_spec (l.drop (c + 1)) (c + 1) (0 + (c + 1)) (by omega) with ⟨_, hz⟩ | ⟨m, hm, g1, g2, g3⟩
    · exact absurd hz h0
    · have hm' : c + 1 + m < l.length := by simp at hm; omega
      rw [g1] at e
      refine ⟨c + 1 + m, ?_, by omega, ?_, ?_, ?_⟩
      · unfold confirmV
        rw [hn, if_neg (by omega)]
        have e2 : nextV l ((c : Int) + 1) = ((c + 1 + m + 1 : Nat) : Int) := by
          unfold nextV
          rw [show ((c : Int) + 1).toNat = c + 1 by omega, e]
          omega
        rw [e2, if_pos (by omega)]
        omega
      · intro i hi hlt hk
        by_cases e : i = c
        · subst e; exact setB_at _ _
        · rw [setB_ne _ (by omega)]
          by_cases hic : i < c
          · exact h2 i hi hic hk
          · exfalso
            refine recvs_zero _ g3 (i - (c + 1)) (by simp; omega) ?_
            rw [List.getElem_take, List.getElem_drop]
            simpa [show c + 1 + (i - (c + 1)) = i by omega] using hk
      · intro hh
        rw [List.getElem_drop] at g2
        exact g2
      · intro i hi
        rw [setB_ne _ (by omega)]
        exact h4 i (by omega)
theorem Unc.raise {l : List Ev} {f : Int → Bool} {c : Nat} (h : Unc l f c) (e : Ev) : ∃ c' : Nat, raiseV (l ++ [e]) c = c' ∧ Unc (l ++ [e]) f c' := by
  obtain ⟨h1, h2, h3, h4⟩ := h
  have hl : lastKind (l ++ [e]) = e.kind := by simp [lastKind]
  unfold raiseV
  rw [hl]
  by_cases hk : e.kind ≠ 1 ∧ c = l.length
  · rw [if_pos ⟨by simp, hk.1, by simp; omega⟩]
    refine ⟨(l ++ [e]).length, rfl, Nat.le_refl _, ?_, fun h => absurd h (by omega), fun i hi => h4 i (by simp at hi; omega)⟩
    intro i hi _ hki
    by_cases hil : i < l.length
    · rw [List.getElem_append_left hil] at hki
      exact h2 i hil (by omega) hki
    · simp at hi
      obtain rfl : i = l.length := by omega
      simp at hki
      exact absurd hki hk.1
  · rw [if_neg (by simp; intro a b; exact hk ⟨a, by omega⟩)]
    refine ⟨c, rfl, by simp; omega, ?_, ?_, h4⟩
    · intro i hi hic hki
      rw [List.getElem_append_left (by omega)] at hki
      exact h2 i (by omega) hic hki
    · intro hc
      by_cases hcl : c < l.length
      · rw [List.getElem_append_left hcl]; exact h3 hcl
      · simp at hc
        obtain rfl : c = l.length := by omega
        simp
        exact Classical.byContradiction fun h => hk ⟨h, rfl⟩

/-- the state of the law's loop -/
def FRel (w : World) (c b : Nat) (bs : List Int) (g : Nat) (v cf : Value) (wr : World) : Prop :=
  ∃ (es : List Ev) (f : Int → Bool) (cnf n k : Nat), cf = .int .i64 cnf ∧ wr.ownsRow (b + 1) 34 7 v es.length (es.flatMap Ev.cells) ∧ BMap wr b n f ∧ n ≤ k ∧ Codes wr c bs k ∧
    Below w.heap.size w wr ∧ Unc es f cnf ∧ es.length ≤ 30 ∧ g = bs.length - k

theorem Codes.len {w : World} {c : Nat} {bs : List Int} {k : Nat} (h : Codes w c bs k) : bs.length ≤ 1000 := by
  obtain ⟨A, cap, _, _, _, _, h, _⟩ := h
  exact h

set_option maxHeartbeats 3200000 in
theorem follows_walk (a0 : Option Addr) (cap0 : Nat) (bs0 : List Int) (w : World) (h0 : Seg w 1 a0 bs0.length (bs0.map (Value.int .u8)) ∧ bs0.length ≤ cap0 ∧ cap0 ≤ maxLen ∧ ∀ b ∈ bs0, 0 ≤ b ∧ b < 256) :
    Calls Try.prog 6 #[.slice a0 bs0.length cap0] w fun e w' => e = .returned (.bool true) ∧ Below w.heap.size w w' := by
  obtain ⟨hb, hb1, hb2, hb3⟩ := h0
  have HB3 := Lib.hid hb3
  clear hb3
  have hmm := @run_makeMap Try.prog
  go_enter Try.func6, Try.ntmps6
  go_wp2_with fail
  refine (awake_any w).mono ?_
  rintro e w1 ⟨rfl, hE⟩
  go_wp2_with fail
  refine (new_any a0 cap0 bs0 200 w1 (hb.ext hE) hb1 hb2 (by omega) HB3.out).mono ?_
  rintro e w2 ⟨rfl, hC, hE2⟩
  have hcl := hC.lt
  have hwc := hE.size
  generalize bs0.take 200 = bs at *
  generalize hc : w1.heap.size = c at *
  go_wp2_with fail
  have hC3 := hC.ext ((Ext.refl w2).allocs (.map #[] 0))
  have hM3 := BMap.made w2
  have hX3 := (hE.trans hE2).trans ((Ext.refl w2).allocs (.map #[] 0))
  generalize hb0 : w2.heap.size = b at *
  go_loopg [4, 6] bs.length (fun g v cf wr => FRel w c b bs g v cf wr)
  case atStart => exact ⟨[], _, 0, 0, 0, rfl, own_nil _ _ _ _ _, hM3, Nat.le_refl _, hC3, hX3, Unc.start, by simp, rfl⟩
  case round =>
    clear hC hC3 hM3 hX3 hE2 hE hmm hb HB3 hc hb0
    obtain ⟨es, f, cnf, n, k, rfl, hown, hM, hnk, hC, hX, hU, hle, rfl⟩ := hrel
    have hkl := hC.le
    have hbl := hC.len
    obtain ⟨A, cc, rfl, hsl, hcc1, hcc2⟩ := own_slice hown
    unfold maxLen at hcc2
    by_cases hkb : k < bs.length
    · have hd : decide (k < bs.length) = true := by simp [hkb]
      have HD := Lib.hid hd
      clear hd
      by_cases h30 : es.length < 30
      · go_wp2_with fail
        refine (left_any c bs k _ hC).mono ?_
        rintro e w3 ⟨rfl, nq, rfl⟩
        rw [HD.out]
        go_wp2_with fail
        refine (next_any' c bs k _ (hC.ext (Ext.drewn wr nq)) 3 (by omega) (by omega)).mono ?_
        rintro e w4 ⟨r, rfl, ⟨hr0, hr1⟩, hg4, k4, hC4, hk4, hk4'⟩
        have hk4s := hk4' hkb
        have hkl4 := hC4.le
        have hg4' : wr.grownBy w4 (some c) := grownBy_trans (grownBy_ext (Ext.drewn wr nq)) hg4
        have hown4 := hown.kept hg4' (by right; intro e; have := (hown.lt c e).1; omega)
        have hM4 := hM.kept hg4' (by intro e; injection e; omega)
        have hX4 := hX.grown hg4' hX.size (by intro q hq; injection hq; omega)
        have hsl4 := Seg.of_own hown4
        clear hg4 hg4' hk4' hown hM hC hsl hX HD
        by_cases hr2 : r = 2
        · subst hr2
          by_cases hcl2 : cnf < es.length
          · have HN := Lib.hid (hU.next hcl2)
            obtain ⟨cnf5, hcf, hU5⟩ := hU.confirm hcl2
            have HCF := Lib.hid hcf
            obtain ⟨w5, hput, hM5, hg5⟩ := hM4.put (k := (cnf : Int) + 1) ⟨by omega, by omega⟩ true (by unfold maxLen; omega)
            have hM5 : BMap w5 b (n + 1) (setB f ((cnf : Int) + 1)) := hM5
            have hC5 := hC4.grown hg5 (by intro q hq; injection hq; omega)
            have hown5 := hown4.kept hg5 (by right; intro e; have := (hown4.lt b e).1; omega)
            have hX5 := hX4.grown hg5 hX4.size (by intro q hq; injection hq; omega)
            have hsl5 := Seg.of_own hown5
            clear hcf hM4 hC4 hown4 hX4 hg5
            go_wp2_with fail
            refine (next_sl A cc es _ w4 hsl4 (by omega)).mono ?_
            rintro e w4' ⟨rfl, rfl⟩
            rw [HN.out]
            clear HN
            go_wp2_with fail
            refine (confirm_sl A cc es _ w5 hsl5 (by omega)).mono ?_
            rintro e w5' ⟨rfl, rfl⟩
            rw [HCF.out]
            clear HCF hput hsl4
            have hcle := hU5.1
            go_wp2_with fail
            go_loop [8] (fun i => ∃ j : Nat, j ≤ cnf5 ∧ i = .int .i64 j) (fun i => cnf5 - (intOf i).toNat)
            case atStart => exact ⟨0, Nat.zero_le _, rfl⟩
            case round =>
              obtain ⟨j, hj, rfl⟩ := hrel
              have hlook := hM5.look (k := (j : Int) + 1) ⟨by omega, by omega⟩
              by_cases hjc : j < cnf5
              · have hjl : j < es.length := by omega
                obtain ⟨bb, off, hA, hcell⟩ := Ev.kindAt hsl5 hjl
                subst hA
                by_cases h1 : es[j].kind = 1
                · have hf := hU5.2.1 j hjl hjc h1
                  rw [hf] at hlook
                  have h1' : (es[j].kind != 1) = false := by simp [h1]
                  generalize es[j].kind = kd at *
                  clear hf h1
                  go_wp2_with fail
                  go_round
                  case rel => exact ⟨j + 1, by omega, by go_num⟩
                  case measure => simp [intOf]; omega
                · have h1' : (es[j].kind != 1) = true := by simp [h1]
                  generalize es[j].kind = kd at *
                  clear hlook
                  go_wp2_with fail
                  go_round
                  case rel => exact ⟨j + 1, by omega, by go_num⟩
                  case measure => simp [intOf]; omega
              · have hje : j = cnf5 := by omega
                subst hje
                by_cases hjl : j < es.length
                · obtain ⟨bb, off, hA, hcell⟩ := Ev.kindAt hsl5 hjl
                  subst hA
                  have h1' : (es[j].kind != 1) = false := by simp [hU5.2.2.1 hjl]
                  have hf := hU5.2.2.2 j (Nat.le_refl _)
                  rw [hf] at hlook
                  clear hf
                  generalize es[j].kind = kd at *
                  go_wp2_with fail
                  go_roundg (bs.length - k4)
                  case measure => omega
                  case rel => exact ⟨es, _, j, (n + 1), k4, rfl, hown5, hM5, (by omega), hC5, hX5, hU5, hle, rfl⟩
                · clear hlook
                  go_wp2_with fail
                  go_roundg (bs.length - k4)
                  case measure => omega
                  case rel => exact ⟨es, _, j, (n + 1), k4, rfl, hown5, hM5, (by omega), hC5, hX5, hU5, hle, rfl⟩
          · have hce : cnf = es.length := by have := hU.1; omega
            have HN := Lib.hid (Unc.none (f := f) hce).1
            have HCF := Lib.hid (Unc.none (f := f) hce).2
            clear hce
            go_wp2_with fail
            refine (next_sl A cc es _ w4 hsl4 (by omega)).mono ?_
            rintro e w4' ⟨rfl, rfl⟩
            rw [HN.out]
            clear HN
            go_wp2_with fail
            refine (confirm_sl A cc es _ w4 hsl4 (by omega)).mono ?_
            rintro e w5' ⟨rfl, rfl⟩
            rw [HCF.out]
            clear HCF
            have hcle := hU.1
            go_wp2_with fail
            go_loop [8] (fun i => ∃ j : Nat, j ≤ cnf ∧ i = .int .i64 j) (fun i => cnf - (intOf i).toNat)
            case atStart => exact ⟨0, Nat.zero_le _, rfl⟩
            case round =>
              obtain ⟨j, hj, rfl⟩ := hrel
              have hlook := hM4.look (k := (j : Int) + 1) ⟨by omega, by omega⟩
              by_cases hjc : j < cnf
              · have hjl : j < es.length := by omega
                obtain ⟨bb, off, hA, hcell⟩ := Ev.kindAt hsl4 hjl
                subst hA
                by_cases h1 : es[j].kind = 1
                · have hf := hU.2.1 j hjl hjc h1
                  rw [hf] at hlook
                  have h1' : (es[j].kind != 1) = false := by simp [h1]
                  generalize es[j].kind = kd at *
                  clear hf h1
                  go_wp2_with fail
                  go_round
                  case rel => exact ⟨j + 1, by omega, by go_num⟩
                  case measure => simp [intOf]; omega
                · have h1' : (es[j].kind != 1) = true := by simp [h1]
                  generalize es[j].kind = kd at *
                  clear hlook
                  go_wp2_with fail
                  go_round
                  case rel => exact ⟨j + 1, by omega, by go_num⟩
                  case measure => simp [intOf]; omega
              · have hje : j = cnf := by omega
                subst hje
                by_cases hjl : j < es.length
                · obtain ⟨bb, off, hA, hcell⟩ := Ev.kindAt hsl4 hjl
                  subst hA
                  have h1' : (es[j].kind != 1) = false := by simp [hU.2.2.1 hjl]
                  have hf := hU.2.2.2 j (Nat.le_refl _)
                  rw [hf] at hlook
                  clear hf
                  generalize es[j].kind = kd at *
                  go_wp2_with fail
                  go_roundg (bs.length - k4)
                  case measure => omega
                  case rel => exact ⟨es, f, j, n, k4, rfl, hown4, hM4, (by omega), hC4, hX4, hU, hle, rfl⟩
                · clear hlook
                  go_wp2_with fail
                  go_roundg (bs.length - k4)
                  case measure => omega
                  case rel => exact ⟨es, f, j, n, k4, rfl, hown4, hM4, (by omega), hC4, hX4, hU, hle, rfl⟩
        · have hr2' : (r == 2) = false := by simp [hr2]
          clear hr2
          go_wp2_with fail
          refine (event_any c bs k4 _ hC4).mono ?_
          rintro e w5 ⟨ev, rfl, hmade, hg5, k5, hC5, hk5, hk5'⟩
          have hown5 := hown4.kept hg5 (by right; intro e; have := (hown4.lt c e).1; omega)
          have hM5 := hM4.kept hg5 (by intro e; injection e; omega)
          have hX5 := hX4.grown hg5 hX4.size (by intro q hq; injection hq; omega)
          have hbs := hM5.lt
          have hkl5 := hC5.le
          clear hown4 hM4 hX4 hg5 hC4 hsl4 hk5' hmade
          go_wp2_with (at_builtin; refine wpList_push Ev.cells 7 56 Ev.len Ev.one (by omega) rfl _ _ _ rfl (b + 1) 34 Try.underlying22 (by kernel_rfl) (.slice A es.length cc) es ev rfl hown5 rfl (by unfold maxLen; omega) (by omega) (by omega) ?_; intro v' w6 hown6 hg6)
          have hC6 := hC5.grown hg6 (by intro q hq; have := (hown5.lt q hq).1; omega)
          have hM6 := hM5.kept hg6 (by intro e; have := (hown5.lt b e.symm).1; omega)
          have hX6 := hX5.grown hg6 hX5.size (by intro q hq; have := (hown5.lt q hq).1; omega)
          obtain ⟨cnf7, hcf, hU7⟩ := hU.raise ev
          have HCF := Lib.hid hcf
          have hle7 : (es ++ [ev]).length ≤ 30 := by simp; omega
          clear hcf hM5 hC5 hown5 hX5 hg6 hU hle
          generalize es ++ [ev] = es7 at *
          obtain ⟨A7, c7, rfl, hsl7, hc71, hc72⟩ := own_slice hown6
          unfold maxLen at hc72
          go_wp2_with fail
          refine (raise_sl A7 c7 es7 _ w6 hsl7 (by omega)).mono ?_
          rintro e w6' ⟨rfl, rfl⟩
          rw [HCF.out]
          clear HCF
          have hcle := hU7.1
          go_wp2_with fail
          go_loop [8] (fun i => ∃ j : Nat, j ≤ cnf7 ∧ i = .int .i64 j) (fun i => cnf7 - (intOf i).toNat)
          case atStart => exact ⟨0, Nat.zero_le _, rfl⟩
          case round =>
            obtain ⟨j, hj, rfl⟩ := hrel
            have hlook := hM6.look (k := (j : Int) + 1) ⟨by omega, by omega⟩
            by_cases hjc : j < cnf7
            · have hjl : j < es7.length := by omega
              obtain ⟨bb, off, hA, hcell⟩ := Ev.kindAt hsl7 hjl
              subst hA
              by_cases h1 : es7[j].kind = 1
              · have hf := hU7.2.1 j hjl hjc h1
                rw [hf] at hlook
                have h1' : (es7[j].kind != 1) = false := by simp [h1]
                generalize es7[j].kind = kd at *
                clear hf h1
                go_wp2_with fail
                go_round
                case rel => exact ⟨j + 1, by omega, by go_num⟩
                case measure => simp [intOf]; omega
              · have h1' : (es7[j].kind != 1) = true := by simp [h1]
                generalize es7[j].kind = kd at *
                clear hlook
                go_wp2_with fail
                go_round
                case rel => exact ⟨j + 1, by omega, by go_num⟩
                case measure => simp [intOf]; omega
            · have hje : j = cnf7 := by omega
              subst hje
              by_cases hjl : j < es7.length
              · obtain ⟨bb, off, hA, hcell⟩ := Ev.kindAt hsl7 hjl
                subst hA
                have h1' : (es7[j].kind != 1) = false := by simp [hU7.2.2.1 hjl]
                have hf := hU7.2.2.2 j (Nat.le_refl _)
                rw [hf] at hlook
                clear hf
                generalize es7[j].kind = kd at *
                go_wp2_with fail
                go_roundg (bs.length - k5)
                case measure => omega
                case rel => exact ⟨es7, f, j, n, k5, rfl, hown6, hM6, (by omega), hC6, hX6, hU7, hle7, rfl⟩
              · clear hlook
                go_wp2_with fail
                go_roundg (bs.length - k5)
                case measure => omega
                case rel => exact ⟨es7, f, j, n, k5, rfl, hown6, hM6, (by omega), hC6, hX6, hU7, hle7, rfl⟩
      · go_wp2_with fail
        refine (left_any c bs k _ hC).mono ?_
        rintro e w3 ⟨rfl, nq, rfl⟩
        rw [HD.out]
        go_wp2_with fail
        go_ret
        exact ⟨rfl, hX.trans ((Ext.drewn wr nq).mono hX.size)⟩
    · have hd : decide (k < bs.length) = false := by simp [hkb]
      have HD := Lib.hid hd
      clear hd
      go_wp2_with fail
      refine (left_any c bs k _ hC).mono ?_
      rintro e w3 ⟨rfl, nq, rfl⟩
      rw [HD.out]
      go_wp2_with fail
      go_ret
      exact ⟨rfl, hX.trans ((Ext.drewn wr nq).mono hX.size)⟩
end Go.Proofs.Ytooegndajfopkaa
