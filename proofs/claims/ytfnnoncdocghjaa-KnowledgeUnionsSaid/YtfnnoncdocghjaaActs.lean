/- Acts out of choices; draw of chapter 28. No statement of the seat is proved here. -/
import Derived.Test.YtfnnoncdocghjaaAwakeK
namespace Go.Proofs.Ytfnnoncdocghjaa
open Go.RowKit
set_option linter.unusedVariables false
set_option maxRecDepth 100000

theorem keptc {w w' : World} {c base : Nat} {e : TypeId} {s n : Nat} {v : Value} {xs : List Value} (h : w.ownsRow base e s v n xs) (hg : w.grownBy w' (some c)) (hc : c < base) : w'.ownsRow base e s v n xs :=
  h.kept hg (by right; intro e; have := (h.lt c e).1; omega)
def AcRel (c : Nat) (bs : List Int) (k : Nat) (w0 w : World) (most : Nat) (g : Nat) (v : Value) (w' : World) : Prop :=
  ∃ l : List Av, g = most - l.length ∧ w'.ownsRow w.heap.size 74 3 v l.length (l.flatMap Av.cells) ∧ l.length ≤ most ∧ Drew c bs k w0 w' ∧ w.heap.size ≤ w'.heap.size
set_option maxHeartbeats 3200000 in
theorem acts_on (c : Nat) (bs : List Int) (k : Nat) (w0 w : World) (hc0 : c < w0.heap.size) (hD0 : Drew c bs k w0 w) (n : Int) (most : Nat) (hn1 : 2 ≤ n) (hn2 : n ≤ 5) (hm : most ≤ 200) :
    Calls Try.prog 48 #[.pointer (some ⟨c, 0, none⟩), .int .i64 n, .int .i64 most] w (fun e w' => ∃ v, ∃ l : List Av, e = .returned v ∧ w'.ownsRow w.heap.size 74 3 v l.length (l.flatMap Av.cells) ∧ l.length ≤ most ∧ Drew c bs k w0 w') := by
  have hz0 : w0.heap.size ≤ w.heap.size := hD0.1.size
  have hcl : c < w.heap.size := by omega
  have HD0 := Lib.hid hD0
  clear hD0
  go_enter Try.func48, Try.ntmps48
  go_wp2_with fail
  go_loopg [7] most (fun g v w' => AcRel c bs k w0 w most g v w')
  case atStart => exact ⟨[], rfl, own_nil _ _ _ _ _, Nat.zero_le _, HD0.out, Nat.le_refl _⟩
  case round =>
    obtain ⟨l, rfl, hown, hlm, hD, hzr⟩ := hrel
    obtain ⟨A, cl, rfl, -, -, -⟩ := own_slice hown
    by_cases hlt : l.length < most
    · have hlt' : decide ((l.length : Int) < (most : Int)) = true := decide_eq_true (by omega)
      have hDD := hD
      obtain ⟨-, k1, hC, -, -⟩ := hDD
      have HL := Lib.hid (left_any c bs k1 wr hC)
      clear hC
      obtain ⟨lf, hlf⟩ : ∃ lf, decide (k1 < bs.length) = lf := ⟨_, rfl⟩
      rw [hlf] at HL
      clear hlf
      go_wp2_with fail
      refine HL.out.mono ?_
      rintro e w1 ⟨rfl, nq, rfl⟩
      have hD1 : Drew c bs k w0 (wr.drewN nq) := hD.post (Ext.drewn wr nq)
      have hown1 := own_ext hown (Ext.drewn wr nq)
      clear hD hown HL
      cases lf with
      | false =>
        go_wp2_with fail
        go_ret
        exact ⟨_, l, rfl, hown1, hlm, hD1⟩
      | true =>
        go_wp2_with fail
        refine (next_on hD1 (Ext.refl _) 16 (by omega) (by omega)).mono ?_
        rintro e w2 ⟨r2, rfl, ⟨hr20, hr21⟩, hD2, hg2⟩
        have hz2 := Nat.le_trans hzr hg2.size
        have hown2 := keptc hown1 hg2 hcl
        clear hD1 hg2 hown1
        go_wp2_with fail
        refine (next_on hD2 (Ext.refl _) n (by omega) (by omega)).mono ?_
        rintro e w3 ⟨r3, rfl, ⟨hr30, hr31⟩, hD3, hg3⟩
        have hz3 := Nat.le_trans hz2 hg3.size
        have hown3 := keptc hown2 hg3 hcl
        clear hD2 hg3 hown2
        by_cases h6 : r2 < 6
        · have hn0 : ¬ n = 0 := by omega
          have hmx : max (n - 1) 1 = n - 1 := by omega
          have hw1 : IntKind.i64.wrap (n - 1) = n - 1 := IntWalk.i64_in _ (by omega)
          have hw2 : IntKind.i64.wrap (r3 + 1) = r3 + 1 := IntWalk.i64_in _ (by omega)
          go_wp2_with fail
          refine (next_on hD3 (Ext.refl _) (n - 1) (by omega) (by omega)).mono ?_
          rintro e w4 ⟨r4, rfl, ⟨hr40, hr41⟩, hD4, hg4⟩
          have hz4 := Nat.le_trans hz3 hg4.size; have hown4 := keptc hown3 hg4 hcl
          clear hD3 hg4 hown3
          have hw3 : IntKind.i64.wrap (r3 + 1 + r4) = r3 + 1 + r4 := IntWalk.i64_in _ (by omega)
          have hsz9 : w.heap.size ≤ w4.heap.size := hz4
          go_wp2_with (at_builtin; refine wpList_push_at Av.cells 3 24 Av.len Av.one (by omega) rfl _ _ _ rfl w.heap.size 74 Try.underlying44 (by kernel_rfl) (.slice A l.length cl) l ⟨1, r3, (r3 + 1 + r4) % n⟩ w4.heap.size rfl hown4 rfl rfl (by unfold maxLen; omega) (by omega) hsz9 ?_; intro v' w9 hown9 hg9)
          have hD9 := hD4.own (own_base hown4 hz0) hg9 hc0
          go_roundg (most - (l.length + 1))
          case measure => omega
          case rel => exact ⟨l ++ [⟨1, r3, (r3 + 1 + r4) % n⟩], by simp, hown9, by simp; omega, hD9, Nat.le_trans hsz9 (Nat.le_trans (by simp) hg9.size)⟩
        · by_cases h12 : r2 < 12
          · go_wp2_with fail
            refine (next_on hD3 (Ext.refl _) 3 (by omega) (by omega)).mono ?_
            rintro e w4 ⟨r4, rfl, ⟨hr40, hr41⟩, hD4, hg4⟩
            have hz4 := Nat.le_trans hz3 hg4.size; have hown4 := keptc hown3 hg4 hcl
            clear hD3 hg4 hown3
            have hsz9 : w.heap.size ≤ w4.heap.size := hz4
            go_wp2_with (at_builtin; refine wpList_push_at Av.cells 3 24 Av.len Av.one (by omega) rfl _ _ _ rfl w.heap.size 74 Try.underlying44 (by kernel_rfl) (.slice A l.length cl) l ⟨2, 0, r4⟩ w4.heap.size rfl hown4 rfl rfl (by unfold maxLen; omega) (by omega) hsz9 ?_; intro v' w9 hown9 hg9)
            have hD9 := hD4.own (own_base hown4 hz0) hg9 hc0
            go_roundg (most - (l.length + 1))
            case measure => omega
            case rel => exact ⟨l ++ [⟨2, 0, r4⟩], by simp, hown9, by simp; omega, hD9, Nat.le_trans hsz9 (Nat.le_trans (by simp) hg9.size)⟩
          · by_cases h15 : r2 < 15
            · have hsz9 : w.heap.size ≤ w3.heap.size := hz3
              go_wp2_with (at_builtin; refine wpList_push_at Av.cells 3 24 Av.len Av.one (by omega) rfl _ _ _ rfl w.heap.size 74 Try.underlying44 (by kernel_rfl) (.slice A l.length cl) l ⟨3, r3, 0⟩ w3.heap.size rfl hown3 rfl rfl (by unfold maxLen; omega) (by omega) hsz9 ?_; intro v' w9 hown9 hg9)
              have hD9 := hD3.own (own_base hown3 hz0) hg9 hc0
              go_roundg (most - (l.length + 1))
              case measure => omega
              case rel => exact ⟨l ++ [⟨3, r3, 0⟩], by simp, hown9, by simp; omega, hD9, Nat.le_trans hsz9 (Nat.le_trans (by simp) hg9.size)⟩
            · go_wp2_with fail
              refine (int_on hD3 (Ext.refl _)).mono ?_
              rintro e w4 ⟨r4, rfl, hr4, hD4, hg4⟩
              have hz4 := Nat.le_trans hz3 hg4.size; have hown4 := keptc hown3 hg4 hcl
              clear hD3 hg4 hown3
              go_wp2_with fail
              refine (int_on hD4 (Ext.refl _)).mono ?_
              rintro e w5 ⟨r5, rfl, hr5, hD5, hg5⟩
              have hz5 := Nat.le_trans hz4 hg5.size; have hown5 := keptc hown4 hg5 hcl
              clear hD4 hg5 hown4
              go_wp2_with fail
              refine (int_on hD5 (Ext.refl _)).mono ?_
              rintro e w6 ⟨r6, rfl, hr6, hD6, hg6⟩
              have hz6 := Nat.le_trans hz5 hg6.size; have hown6 := keptc hown5 hg6 hcl
              clear hD5 hg6 hown5
              have hsz9 : w.heap.size ≤ w6.heap.size := hz6
              go_wp2_with (at_builtin; refine wpList_push_at Av.cells 3 24 Av.len Av.one (by omega) rfl _ _ _ rfl w.heap.size 74 Try.underlying44 (by kernel_rfl) (.slice A l.length cl) l ⟨r4, r5, r6⟩ w6.heap.size rfl hown6 rfl rfl (by unfold maxLen; omega) (by omega) hsz9 ?_; intro v' w9 hown9 hg9)
              have hD9 := hD6.own (own_base hown6 hz0) hg9 hc0
              go_roundg (most - (l.length + 1))
              case measure => omega
              case rel => exact ⟨l ++ [⟨r4, r5, r6⟩], by simp, hown9, by simp; omega, hD9, Nat.le_trans hsz9 (Nat.le_trans (by simp) hg9.size)⟩
    · have hlt' : decide ((l.length : Int) < (most : Int)) = false := decide_eq_false (by omega)
      go_wp2_with fail
      go_ret
      exact ⟨_, l, rfl, hown, hlm, hD⟩
end Go.Proofs.Ytfnnoncdocghjaa
