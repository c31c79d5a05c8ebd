/- The walks of package senderlog's Next, Confirm and Raise and of the references. No statement of the seat is proved here. -/
import Derived.Test.YtooegndajfopkaaEventsR
namespace Go.Proofs.Ytooegndajfopkaa
open Go.RowKit
set_option linter.unusedVariables false

/-- the next receive event behind index k, counted from 1; 0 if there is none -/
def nextFrom : List Ev → Nat → Nat → Nat
  | [], _, _ => 0
  | e :: es, k, i => if k ≤ i ∧ e.kind = 1 then i + 1 else nextFrom es k (i + 1)
theorem next_skip (es : List Ev) (k : Nat) : ∀ i j, j + i ≤ k → nextFrom es k j = nextFrom (es.drop i) k (j + i) := by
  induction es with
  | nil => intro i j _; simp [nextFrom]
  | cons e es ih =>
    intro i j h
    cases i with
    | zero => rfl
    | succ i =>
      rw [nextFrom, if_neg (by omega), List.drop_succ_cons, ih i (j + 1) (by omega)]
      congr 1; omega
theorem next_end (es : List Ev) (k i j : Nat) (h : es.length ≤ i) : nextFrom (es.drop i) k j = 0 := by rw [List.drop_of_length_le h]; rfl
theorem next_at (es : List Ev) (k i : Nat) (h : i < es.length) (hk : k ≤ i) : nextFrom (es.drop i) k i = if es[i].kind = 1 then i + 1 else nextFrom (es.drop (i + 1)) k (i + 1) := by
  rw [List.drop_eq_getElem_cons h, nextFrom]; simp [hk]
theorem next_skip_at (es : List Ev) (k i : Nat) (h : i < es.length) (hk : i < k) : nextFrom (es.drop i) k i = nextFrom (es.drop (i + 1)) k (i + 1) := by
  rw [List.drop_eq_getElem_cons h, nextFrom, if_neg (by omega)]
theorem next_le (es : List Ev) (k : Nat) : ∀ j, nextFrom es k j ≤ j + es.length := by
  induction es with
  | nil => intro j; simp [nextFrom]
  | cons e es ih =>
    intro j
    have := ih (j + 1)
    rw [nextFrom]; simp only [List.length_cons]
    split <;> omega

theorem Ev.kindAt {w : World} {A : Option Addr} {es : List Ev} (h : EvSeg w A es) {i : Nat} (hi : i < es.length) :
    ∃ b off, A = some ⟨b, off, none⟩ ∧ w.cell? ⟨b, off + i * 7, none⟩ = some (.int .i64 es[i].kind) := by
  obtain ⟨b, off, hA, _, hc⟩ := Seg.at_ h Ev.len hi
  exact ⟨b, off, hA, hc 0 _ rfl⟩

/-- Next of package senderlog and of the reference -/
def nextV (es : List Ev) (k : Int) : Int := nextFrom es k.toNat 0
theorem nextV_bd (es : List Ev) (k : Int) : 0 ≤ nextV es k ∧ nextV es k ≤ es.length := by
  have := next_le es k.toNat 0
  unfold nextV; omega
def confirmV (es : List Ev) (k : Int) : Int := if nextV es k = 0 then k else if 0 < nextV es (nextV es k) then nextV es (nextV es k) - 1 else es.length
def lastKind (es : List Ev) : Int := (es[es.length - 1]?.map Ev.kind).getD 1
def raiseV (es : List Ev) (k : Int) : Int := if 0 < es.length ∧ lastKind es ≠ 1 ∧ k = es.length - 1 then es.length else k

set_option maxHeartbeats 400000 in
theorem next_sl (A : Option Addr) (c : Nat) (es : List Ev) (k : Int) (w : World) (hs : EvSeg w A es) (hn : es.length ≤ 1000) :
    Calls Try.prog 14 #[.slice A es.length c, .int .i64 k] w fun e w' => e = .returned (.int .i64 (nextV es k)) ∧ w = w' := by
  have H0 := Lib.hid (next_skip es k.toNat k.toNat 0 (by omega))
  unfold nextV
  by_cases hk : k < 0
  all_goals
    go_enter Try.func14, Try.ntmps14
    go_wp2
    go_loop [5] (fun i => ∃ j : Nat, k.toNat ≤ j ∧ i = .int .i64 j ∧ Hid (nextFrom es k.toNat 0 = nextFrom (es.drop j) k.toNat j)) (fun i => es.length - (intOf i).toNat)
    case atStart => exact ⟨k.toNat, Nat.le_refl _, by simp; omega, by have := H0.out; rw [Nat.zero_add] at this; exact this⟩
    case round =>
      obtain ⟨j, hkj, rfl, HI⟩ := hrel
      by_cases hlt : j < es.length
      · obtain ⟨b, off, rfl, hc⟩ := Ev.kindAt hs hlt
        have HA := Lib.hid (next_at es k.toNat j hlt hkj)
        by_cases h1 : es[j].kind = 1
        · have h1' : (es[j].kind == 1) = true := by simp [h1]
          have HE : Hid (es[j].kind = 1) := h1
          clear h1
          go_wp2
          go_ret
          exact ⟨ret_int (by rw [HI.out, HA.out, if_pos HE.out]; omega), rfl⟩
        · have h1' : (es[j].kind == 1) = false := by simp [h1]
          have HE : Hid (¬ es[j].kind = 1) := h1
          clear h1
          go_wp2
          go_round
          case rel => exact ⟨j + 1, by omega, by go_num, HI.out.trans (HA.out.trans (if_neg HE.out))⟩
          case measure => simp [intOf]; omega
      · go_wp2
        go_ret
        exact ⟨ret_int (by rw [HI.out, next_end es _ j j (by omega)]; rfl), rfl⟩

set_option maxHeartbeats 400000 in
theorem confirm_sl (A : Option Addr) (c : Nat) (es : List Ev) (k : Int) (w : World) (hs : EvSeg w A es) (hn : es.length ≤ 1000) :
    Calls Try.prog 16 #[.slice A es.length c, .int .i64 k] w fun e w' => e = .returned (.int .i64 (confirmV es k)) ∧ w = w' := by
  have hb := nextV_bd es k
  have HV : Hid (confirmV es k = if nextV es k = 0 then k else if 0 < nextV es (nextV es k) then nextV es (nextV es k) - 1 else es.length) := rfl
  obtain ⟨r, hr⟩ : ∃ r, nextV es k = r := ⟨_, rfl⟩
  have hb2 := nextV_bd es r
  obtain ⟨r2, hr2⟩ : ∃ r2, nextV es r = r2 := ⟨_, rfl⟩
  have HR := Lib.hid hr
  have HR2 := Lib.hid hr2
  rw [hr] at hb
  rw [hr2] at hb2
  rw [hr, hr2] at HV
  clear hr hr2
  obtain ⟨hb1, hb2'⟩ := hb
  obtain ⟨hb3, hb4⟩ := hb2
  by_cases h0 : r = 0
  · have h0' : (r == 0) = true := by simp [h0]
    have H0 := Lib.hid h0
    clear h0
    go_enter Try.func16, Try.ntmps16
    go_wp2_with fail
    refine (next_sl A c es k w hs hn).mono ?_
    rintro e w1 ⟨rfl, rfl⟩
    rw [HR.out]
    go_wp2_with fail
    go_ret
    exact ⟨ret_int (by rw [HV.out, if_pos H0.out]), rfl⟩
  · have h0' : (r == 0) = false := by simp [h0]
    have H0 := Lib.hid h0
    clear h0
    by_cases h2 : 0 < r2
    all_goals
      go_enter Try.func16, Try.ntmps16
      go_wp2_with fail
      refine (next_sl A c es k w hs hn).mono ?_
      rintro e w1 ⟨rfl, rfl⟩
      rw [HR.out]
      go_wp2_with fail
      refine (next_sl A c es r w hs hn).mono ?_
      rintro e w1 ⟨rfl, rfl⟩
      rw [HR2.out]
      go_wp2_with fail
      go_ret
    · exact ⟨ret_int (by rw [HV.out, if_neg H0.out, if_pos h2]), rfl⟩
    · exact ⟨ret_int (by rw [HV.out, if_neg H0.out, if_neg (by omega)]), rfl⟩

/-! ### the example of the chapter -/
def ex1 : List Ev := [⟨1, 0, 0, 0, 0, 0, 0⟩, ⟨2, 0, 0, 0, 0, 0, 0⟩, ⟨1, 0, 0, 0, 0, 0, 0⟩, ⟨2, 0, 0, 0, 0, 0, 0⟩]

set_option maxHeartbeats 800000 in
theorem awake_any (w : World) : Calls Try.prog 10 #[] w fun e w' => e = .returned (.bool true) ∧ Ext w w' := by
  have hs : EvSeg (w.alloc (.cells (ex1.flatMap Ev.cells).toArray 34)) (some ⟨w.heap.size, 0, none⟩) ex1 := by
    refine ⟨rfl, fun _ => ⟨w.heap.size, 0, rfl, by simp, fun j u hu => ?_⟩⟩
    have hc := heap_alloc_new w (.cells (ex1.flatMap Ev.cells).toArray 34)
    simp only [World.cell?, hc]
    simpa using hu
  have HE := Lib.hid ((Ext.refl w).allocs (.cells (ex1.flatMap Ev.cells).toArray 34))
  have e1 : nextV ex1 0 = 1 := by decide
  have e2 : confirmV ex1 0 = 2 := by decide
  have e3 : confirmV ex1 2 = 4 := by decide
  have e4 : nextV ex1 4 = 0 := by decide
  have E1 := Lib.hid e1
  have E2 := Lib.hid e2
  have E3 := Lib.hid e3
  have E4 := Lib.hid e4
  have HS := Lib.hid hs
  clear e1 e2 e3 e4 hs
  go_enter Try.func10, Try.ntmps10
  go_wp2_with fail
  refine (next_sl _ 4 ex1 0 _ HS.out (by decide)).mono ?_
  rintro e w1 ⟨rfl, rfl⟩
  rw [E1.out]
  go_wp2_with fail
  refine (confirm_sl _ 4 ex1 0 _ HS.out (by decide)).mono ?_
  rintro e w1 ⟨rfl, rfl⟩
  rw [E2.out]
  go_wp2_with fail
  refine (confirm_sl _ 4 ex1 2 _ HS.out (by decide)).mono ?_
  rintro e w1 ⟨rfl, rfl⟩
  rw [E3.out]
  go_wp2_with fail
  refine (next_sl _ 4 ex1 4 _ HS.out (by decide)).mono ?_
  rintro e w1 ⟨rfl, rfl⟩
  rw [E4.out]
  go_wp2_with fail
  go_ret
  exact ⟨rfl, HE.out⟩
end Go.Proofs.Ytooegndajfopkaa
