/- The walk of the law SenderlogEnds. -/
import Derived.Test.YtooegndajfopkaaNexts
namespace Go.Proofs.Ytooegndajfopkaa
open Go.RowKit
set_option linter.unusedVariables false

/-- how many messages -/
def recvs : List Ev → Nat
  | [] => 0
  | e :: es => (if e.kind = 1 then 1 else 0) + recvs es
theorem recvs_append (a b : List Ev) : recvs (a ++ b) = recvs a + recvs b := by
  induction a with
  | nil => simp [recvs]
  | cons e a ih => simp [recvs, ih]; omega
theorem recvs_snoc (l : List Ev) (j i : Nat) (hj : j ≤ i) (hi : i < l.length) : recvs ((l.drop j).take (i + 1 - j)) = recvs ((l.drop j).take (i - j)) + if l[i].kind = 1 then 1 else 0 := by
  have e : (l.drop j).take (i + 1 - j) = (l.drop j).take (i - j) ++ [l[i]] := by
    rw [show i + 1 - j = (i - j) + 1 by omega, List.take_succ_eq_append_getElem (by simp; omega)]
    congr 2
    rw [List.getElem_drop]
    congr 1; omega
  rw [e, recvs_append]
  simp [recvs]
theorem recvs_le (l : List Ev) : recvs l ≤ l.length := by
  induction l with
  | nil => simp [recvs]
  | cons e l ih => simp only [recvs, List.length_cons]; split <;> omega

theorem next_spec (es : List Ev) (k : Nat) : ∀ j, k ≤ j → (nextFrom es k j = 0 ∧ recvs es = 0) ∨ ∃ m, ∃ hm : m < es.length, nextFrom es k j = j + m + 1 ∧ es[m].kind = 1 ∧ recvs (es.take m) = 0 := by
  induction es with
  | nil => intro j _; exact .inl ⟨rfl, rfl⟩
  | cons e es ih =>
    intro j hj
    by_cases h1 : e.kind = 1
    · exact .inr ⟨0, by simp, by rw [nextFrom, if_pos ⟨hj, h1⟩], h1, rfl⟩
    · rcases ih (j + 1) (by omega) with ⟨h2, h3⟩ | ⟨m, hm, h2, h3, h4⟩
      · exact .inl ⟨by rw [nextFrom, if_neg (fun h => h1 h.2), h2], by simp [recvs, h1, h3]⟩
      · exact .inr ⟨m + 1, by simpa using hm, by rw [nextFrom, if_neg (fun h => h1 h.2), h2]; omega, by simpa using h3, by simp [recvs, h1, h4]⟩
theorem next_none (l : List Ev) (k : Nat) (hk : recvs (l.drop k) = 0) : nextV l k = 0 := by
  unfold nextV
  have e := next_skip l k k 0 (by omega)
  rw [Int.toNat_natCast, e]
  rcases next_spec (l.drop k) k (0 + k) (by omega) with ⟨h, _⟩ | ⟨m, hm, _, h1, h2⟩
  · rw [h]; rfl
  · exfalso
    have := recvs_append ((l.drop k).take m) ((l.drop k).drop m)
    rw [List.take_append_drop, List.drop_eq_getElem_cons hm] at this
    simp only [recvs, h1, if_true] at this
    omega
theorem next_some (l : List Ev) (k : Nat) (hk : k ≤ l.length) (h0 : 0 < recvs (l.drop k)) :
    ∃ r : Nat, ∃ hr : r - 1 < l.length, nextV l k = r ∧ k < r ∧ r ≤ l.length ∧ l[r - 1].kind = 1 ∧ recvs (l.drop r) = recvs (l.drop k) - 1 ∧ ∀ i, k ≤ i → i ≤ r - 1 → recvs (l.drop i) = recvs (l.drop k) := by
  unfold nextV
  have e := next_skip l k k 0 (by omega)
  rw [Int.toNat_natCast, e]
  rcases next_spec (l.drop k) k (0 + k) (by omega) with ⟨_, h⟩ | ⟨m, hm, h, h1, h2⟩
  · omega
  · have hm' : k + m < l.length := by simp at hm; omega
    have hsum := recvs_append ((l.drop k).take m) ((l.drop k).drop m)
    rw [List.take_append_drop, h2, Nat.zero_add] at hsum
    refine ⟨k + m + 1, by omega, by rw [h]; omega, by omega, by omega, ?_, ?_, ?_⟩
    · rw [← h1, List.getElem_drop]; rfl
    · rw [List.drop_drop, List.drop_eq_getElem_cons hm'] at hsum
      have hk1 : l[k + m].kind = 1 := by rw [← h1, List.getElem_drop]
      simp only [recvs, hk1, if_true] at hsum
      omega
    · intro i hi1 hi2
      have hs2 := recvs_append ((l.drop k).take (i - k)) ((l.drop k).drop (i - k))
      rw [List.take_append_drop, List.drop_drop, show k + (i - k) = i by omega] at hs2
      have hs3 := recvs_append (((l.drop k).take m).take (i - k)) (((l.drop k).take m).drop (i - k))
      rw [List.take_append_drop, h2, List.take_take, show min (i - k) m = i - k by omega] at hs3
      omega
/-- one round of confirming -/
theorem confirm_some (l : List Ev) (k : Nat) (hk : k ≤ l.length) (h0 : 0 < recvs (l.drop k)) :
    ∃ r nx : Nat, ∃ hr : r - 1 < l.length, nextV l k = r ∧ confirmV l k = nx ∧ k < r ∧ r ≤ nx ∧ nx ≤ l.length ∧ l[r - 1].kind = 1 ∧ recvs (l.drop nx) = recvs (l.drop k) - 1 := by
  obtain ⟨r, hr, h1, h2, h3, h4, h5, _⟩ := next_some l k hk h0
  by_cases h : recvs (l.drop r) = 0
  · refine ⟨r, l.length, hr, h1, ?_, h2, h3, Nat.le_refl _, h4, by simp [recvs]; omega⟩
    unfold confirmV
    rw [h1, if_neg (by omega), next_none l r h]
    simp
  · obtain ⟨r2, hr2, g1, g2, g3, g4, g5, g6⟩ := next_some l r h3 (by omega)
    refine ⟨r, r2 - 1, hr, h1, ?_, h2, by omega, by omega, h4, by rw [g6 _ (by omega) (by omega)]; exact h5⟩
    unfold confirmV
    rw [h1, if_neg (by omega), g1, if_pos (by omega)]
    omega
theorem confirm_none (l : List Ev) (k : Nat) (hk : recvs (l.drop k) = 0) : confirmV l k = k := by
  unfold confirmV
  rw [if_pos (next_none l k hk)]

set_option maxHeartbeats 1600000 in
theorem ends_walk (a0 : Option Addr) (cap0 : Nat) (bs : List Int) (frm : Int) (w : World) (h0 : Seg w 1 a0 bs.length (bs.map (Value.int .u8)) ∧ bs.length ≤ cap0 ∧ cap0 ≤ maxLen ∧ ∀ b ∈ bs, 0 ≤ b ∧ b < 256) (hk : (Lit.int .i64 frm).wf = true) :
    Calls Try.prog 4 #[.slice a0 bs.length cap0, .int .i64 frm] w fun e w' => e = .returned (.bool true) ∧ Below w.heap.size w w' := by
  obtain ⟨hb, hb1, hb2, hb3⟩ := h0
  have HB3 := Lib.hid hb3
  clear hb3 hk
  go_enter Try.func4, Try.ntmps4
  go_wp2_with fail
  refine (awake_any w).mono ?_
  rintro e w1 ⟨rfl, hE⟩
  go_wp2_with fail
  refine (new_any a0 cap0 bs 100 w1 (hb.ext hE) hb1 hb2 (by omega) HB3.out).mono ?_
  rintro e w2 ⟨rfl, hC, hE2⟩
  go_wp2_with fail
  refine (events_any w1.heap.size _ 0 w2 hC 14 (by omega)).mono ?_
  rintro e w3 ⟨v, l, rfl, hown, hl, hmade, hD⟩
  obtain ⟨A, c, rfl, hsl, hlc, hcm⟩ := own_slice hown
  have hX := drew_ext hD (hE.trans hE2) hE.size
  clear hown hmade hD hC hE hE2 hb HB3
  go_wp2_with fail
  refine (mod_any frm _ w3 (by omega) (by omega)).mono ?_
  rintro e w4 ⟨rfl, rfl⟩
  have hm := modv_bd frm ((l.length : Int) + 1) (by omega)
  generalize modv frm ((l.length : Int) + 1) = m at *
  obtain ⟨m, rfl⟩ := Int.eq_ofNat_of_zero_le hm.1
  have hm1 : m ≤ l.length := by omega
  clear hm
  go_wp2_with fail
  go_loop [7, 8] (fun n i => ∃ j : Nat, m ≤ j ∧ j ≤ l.length ∧ i = .int .i64 j ∧ n = .int .i64 (recvs ((l.drop m).take (j - m)))) (fun _ i => l.length - (intOf i).toNat)
  case atStart => exact ⟨m, Nat.le_refl _, hm1, rfl, by simp [recvs]⟩
  case round =>
    obtain ⟨j, hmj, hjl, rfl, rfl⟩ := hrel
    have hrl : recvs ((l.drop m).take (j - m)) ≤ l.length := by have := recvs_le ((l.drop m).take (j - m)); simp at this; omega
    by_cases hlt : j < l.length
    · obtain ⟨b, off, rfl, hc⟩ := Ev.kindAt hsl hlt
      have HS := Lib.hid (recvs_snoc l m j hmj hlt)
      by_cases h1 : l[j].kind = 1
      · have h1' : (l[j].kind == 1) = true := by simp [h1]
        have HE : Hid (l[j].kind = 1) := h1
        clear h1
        go_wp2_with fail
        go_round
        case rel => exact ⟨j + 1, by omega, by omega, by go_num, by rw [HS.out, if_pos HE.out]; go_num⟩
        case measure => simp [intOf]; omega
      · have h1' : (l[j].kind == 1) = false := by simp [h1]
        have HE : Hid (¬ l[j].kind = 1) := h1
        clear h1
        go_wp2_with fail
        go_round
        case rel => exact ⟨j + 1, by omega, by omega, by go_num, by rw [HS.out, if_neg HE.out]; rfl⟩
        case measure => simp [intOf]; omega
    · obtain rfl : j = l.length := by omega
      have hall : (l.drop m).take (l.length - m) = l.drop m := List.take_of_length_le (by simp)
      rw [hall] at *
      clear hall
      go_wp2_with fail
      go_loop [6, 7] (fun kk n => ∃ j : Nat, j ≤ l.length ∧ kk = .int .i64 j ∧ n = .int .i64 (recvs (l.drop j))) (fun _ n => (intOf n).toNat)
      case atStart => exact ⟨m, hm1, rfl, rfl⟩
      case round =>
        obtain ⟨j, hj, rfl, rfl⟩ := hrel
        have hub : recvs (l.drop j) ≤ l.length := by have := recvs_le (l.drop j); simp at this; omega
        by_cases hr0 : 0 < recvs (l.drop j)
        · obtain ⟨r, nx, hr, q1, q2, q3, q4, q5, q6, q7⟩ := confirm_some l j hj hr0
          obtain ⟨b, off, rfl, hc⟩ := Ev.kindAt hsl hr
          have h1' : (l[r - 1].kind != 1) = false := by simp [q6]
          generalize l[r - 1].kind = kd at *
          have Q1 := Lib.hid q1
          have Q2 := Lib.hid q2
          have Q7 := Lib.hid q7
          clear q1 q2 q6 q7
          go_wp2_with fail
          refine (next_sl _ c l j w3 hsl (by omega)).mono ?_
          rintro e w4 ⟨rfl, rfl⟩
          rw [Q1.out]
          go_wp2_with fail
          refine (confirm_sl _ c l j w3 hsl (by omega)).mono ?_
          rintro e w4 ⟨rfl, rfl⟩
          rw [Q2.out]
          go_wp2_with fail
          go_round
          case rel => exact ⟨nx, q5, rfl, by rw [Q7.out]; go_num⟩
          case measure => simp [intOf]; omega
        · have q1 := Lib.hid (next_none l j (by omega))
          have q2 := Lib.hid (confirm_none l j (by omega))
          go_wp2_with fail
          refine (next_sl _ c l j w3 hsl (by omega)).mono ?_
          rintro e w4 ⟨rfl, rfl⟩
          rw [q1.out]
          go_wp2_with fail
          refine (confirm_sl _ c l j w3 hsl (by omega)).mono ?_
          rintro e w4 ⟨rfl, rfl⟩
          rw [q2.out]
          go_wp2_with fail
          go_ret
          exact ⟨rfl, hX⟩
end Go.Proofs.Ytooegndajfopkaa
