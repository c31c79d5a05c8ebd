/- Copies: package senderlog's Record, the reference, SameCopies, slices.Clone. No statement of the seat is proved here. -/
import Derived.Test.YtooegndajfopkaaSenderR
import Derived.Test.YtooegndajfopkaaBase2
import Derived.Deep.LoopGhost
namespace Go.Proofs.Ytooegndajfopkaa
open Go.RowKit
set_option linter.unusedVariables false

structure Cp where
  to : Int
  ssn : Int
  val : Int
  rsn : Int
def Cp.cells (c : Cp) : List Value := [.int .i64 c.to, .int .i64 c.ssn, .int .i64 c.val, .int .i64 c.rsn]
theorem Cp.len (c : Cp) : c.cells.length = 4 := rfl
theorem Cp.one (c : Cp) : ∀ u ∈ c.cells, u.oneCell' = true := by simp [Cp.cells, Value.oneCell']
abbrev CpSeg (w : World) (A : Option Addr) (l : List Cp) : Prop := Seg w 4 A l.length (l.flatMap Cp.cells)
theorem Cp.ones (l : List Cp) : ∀ u ∈ l.flatMap Cp.cells, u.oneCell' = true := by
  intro u hu
  obtain ⟨c, _, hc⟩ := List.mem_flatMap.1 hu
  exact Cp.one c u hc

/-- a new row -/
def OwnPost (w : World) (e : TypeId) (s n : Nat) (xs : List Value) (r : Ending) (w' : World) : Prop := ∃ v, r = .returned v ∧ w'.ownsRow w.heap.size e s v n xs ∧ Ext w w'

set_option maxHeartbeats 800000 in
theorem clone_cp (A : Option Addr) (c : Nat) (l : List Cp) (w : World) (hs : CpSeg w A l) (hn : l.length ≤ 1000) :
    Calls Try.prog 31 #[.slice A l.length c] w (OwnPost w 42 4 l.length (l.flatMap Cp.cells)) := by
  rcases A with _ | ad
  · have h0 : l = [] := by
      rcases l with _ | ⟨x, l⟩
      · rfl
      · obtain ⟨b, off, h, _⟩ := hs.2 (by simp)
        cases h
    subst h0
    have hnil := fun w : World => Lib.run_eql_slice_nil (P := Try.prog) w 40 42 none 0 c 0 0 Try.underlying40
    go_enter Try.func31, Try.ntmps31
    go_wp2_with fail
    go_ret
    exact ⟨_, rfl, own_nil _ _ _ _ _, Ext.refl w⟩
  · have hq := World.ownsRow_lit (e := 42) (size := 4) (base := w.heap.size) w #[] 0 (Nat.le_refl _) (by unfold maxLen; omega) rfl
    have hnil := fun w : World => Lib.run_eql_slice_nil (P := Try.prog) w 40 42 (some ad) l.length c 0 0 Try.underlying40
    go_enter Try.func31, Try.ntmps31
    go_wp2_with (at_builtin; refine wpList_append_seg rfl _ _ _ rfl w.heap.size 42 4 32 (by omega) Try.underlying40 (by kernel_rfl) _ 0 [] rfl hq _ l.length c (l.flatMap Cp.cells) rfl (hs.alloc _) (Cp.ones l) (by unfold maxLen; omega) (by omega) (by simp) ?_; intro v' w1 hown1 hg1)
    go_ret
    rw [Nat.zero_add, List.nil_append] at hown1
    exact ⟨v', rfl, hown1, Below.grown ((Ext.refl w).allocs _) hg1 (by simp) (by intro k hk; have hk : some w.heap.size = some k := hk; injection hk; omega)⟩

/-- the table with a further copy -/
def recFrom : List Cp → Cp → List Cp
  | [], c => [c]
  | x :: l, c => if x.to = c.to ∧ x.ssn = c.ssn then c :: l else x :: recFrom l c
theorem rec_hit (l : List Cp) (c : Cp) (j : Nat) (hj : j < l.length) (h1 : l[j].to = c.to) (h2 : l[j].ssn = c.ssn) : (∀ i (h : i < l.length), i < j → ¬ (l[i].to = c.to ∧ l[i].ssn = c.ssn)) → recFrom l c = l.set j c := by
  induction l generalizing j with
  | nil => simp at hj
  | cons x l ih =>
    intro hb
    cases j with
    | zero => simp at h1 h2; simp [recFrom, h1, h2]
    | succ j =>
      have h0 := hb 0 (by simp) (by omega)
      simp only [List.getElem_cons_zero] at h0
      rw [recFrom, if_neg h0, List.set_cons_succ, ih j (by simpa using hj) (by simpa using h1) (by simpa using h2) (fun i hi hij => hb (i + 1) (by simpa using hi) (by omega))]
theorem rec_miss (l : List Cp) (c : Cp) : (∀ i (h : i < l.length), ¬ (l[i].to = c.to ∧ l[i].ssn = c.ssn)) → recFrom l c = l ++ [c] := by
  induction l with
  | nil => intro _; rfl
  | cons x l ih =>
    intro hb
    have h0 := hb 0 (by simp)
    simp only [List.getElem_cons_zero] at h0
    rw [recFrom, if_neg h0, ih (fun i hi => hb (i + 1) (by simpa using hi))]
    rfl
theorem rec_len (l : List Cp) (c : Cp) : (recFrom l c).length ≤ l.length + 1 := by
  induction l with
  | nil => simp [recFrom]
  | cons x l ih => rw [recFrom]; split <;> simp <;> omega

theorem blk4 {w : World} {g : Nat} {t : TypeId} {v0 v1 v2 v3 : Value} (h : Blk w g t #[v0, v1, v2, v3]) :
    (w.cell? ⟨g, 0, none⟩ = some v0 ∧ w.cell? ⟨g, 1, none⟩ = some v1 ∧ w.cell? ⟨g, 2, none⟩ = some v2 ∧ w.cell? ⟨g, 3, none⟩ = some v3) ∧
    (w.frozen? ⟨g, 0, none⟩ = false ∧ w.frozen? ⟨g, 1, none⟩ = false ∧ w.frozen? ⟨g, 2, none⟩ = false ∧ w.frozen? ⟨g, 3, none⟩ = false) := by
  simp [h.cell, h.frozen]

/-- the cells of an element of a row of the call's own -/
theorem own_cp {w : World} {base n : Nat} {v : Value} {l : List Cp} (h : w.ownsRow base 42 4 v l.length (l.flatMap Cp.cells)) {j : Nat} (hj : j < l.length) :
    ∃ g cap, v = .slice (some ⟨g, 0, none⟩) l.length cap ∧ base ≤ g ∧ g < w.heap.size ∧
      (w.cell? ⟨g, j * 4, none⟩ = some (.int .i64 l[j].to) ∧ w.cell? ⟨g, j * 4 + 1, none⟩ = some (.int .i64 l[j].ssn) ∧ w.cell? ⟨g, j * 4 + 2, none⟩ = some (.int .i64 l[j].val) ∧ w.cell? ⟨g, j * 4 + 3, none⟩ = some (.int .i64 l[j].rsn)) ∧
      (∀ i, w.frozen? ⟨g, i, none⟩ = false) := by
  have h' := h
  rcases h.2 with ⟨_, h0⟩ | ⟨g, cap, cur, rfl, hb, hh, _⟩
  · omega
  · refine ⟨g, cap, rfl, hb, (Array.getElem?_eq_some_iff.1 hh).1, ?_, fun i => h'.frozenAt i⟩
    have hc : ∀ i u, (l[j].cells)[i]? = some u → w.cell? ⟨g, j * 4 + i, none⟩ = some u := by
      intro i u hu
      have hi : i < 4 := by have := (List.getElem?_eq_some_iff.1 hu).1; rw [Cp.len] at this; exact this
      rw [h'.cellAt (j * 4 + i) (by omega), flat_get Cp.cells 4 Cp.len l j i l[j] (List.getElem?_eq_getElem hj) hi, hu]
    exact ⟨hc 0 _ rfl, hc 1 _ rfl, hc 2 _ rfl, hc 3 _ rfl⟩

theorem own_store4 {w : World} {base g cap : Nat} {l : List Cp} (h : w.ownsRow base 42 4 (.slice (some ⟨g, 0, none⟩) l.length cap) l.length (l.flatMap Cp.cells)) {j : Nat} (hj : j < l.length) (c : Cp) :
    ((((w.setCell ⟨g, j * 4, none⟩ (.int .i64 c.to)).setCell ⟨g, j * 4 + 1, none⟩ (.int .i64 c.ssn)).setCell ⟨g, j * 4 + 2, none⟩ (.int .i64 c.val)).setCell ⟨g, j * 4 + 3, none⟩ (.int .i64 c.rsn)).ownsRow
      base 42 4 (.slice (some ⟨g, 0, none⟩) l.length cap) (l.set j c).length ((l.set j c).flatMap Cp.cells) := by
  have h4 := ((((h.stored (j * 4) (.int .i64 c.to)).1.stored (j * 4 + 1) (.int .i64 c.ssn)).1.stored (j * 4 + 2) (.int .i64 c.val)).1.stored (j * 4 + 3) (.int .i64 c.rsn)).1
  have e := setAll_flat Cp.cells 4 (by omega) Cp.len l j c hj
  rw [List.length_set, ← e]
  exact h4

def CRel (w w1 : World) (l : List Cp) (c : Cp) (v : Value) (g : Nat) (i : Value) (wr : World) : Prop :=
  ∃ j : Nat, j ≤ l.length ∧ i = .int .i64 j ∧ g = l.length - j ∧ Ext w1 wr ∧ ∀ q (h : q < l.length), q < j → ¬ (l[q].to = c.to ∧ l[q].ssn = c.ssn)

set_option maxHeartbeats 1600000 in
theorem record_sl (A : Option Addr) (cap : Nat) (l : List Cp) (c : Cp) (w : World) (hs : CpSeg w A l) (hn : l.length ≤ 100) :
    Calls Try.prog 24 #[.slice A l.length cap, .agg #[.int .i64 c.to, .int .i64 c.ssn, .int .i64 c.val, .int .i64 c.rsn]] w (OwnPost w 42 4 (recFrom l c).length ((recFrom l c).flatMap Cp.cells)) := by
  go_enter Try.func24, Try.ntmps24
  go_wp2_with fail
  refine (clone_cp A cap l _ (hs.alloc _) (by omega)).mono ?_
  rintro e w1 ⟨v, rfl, hown, hE⟩
  have hB := (Blk.new w _ _).ext hE
  have hown := own_base hown (show w.heap.size + 1 ≤ _ by simp)
  obtain ⟨A1, c1, rfl, hsl, hc1, hc2⟩ := own_slice hown
  have hX : Ext w w1 := ((Ext.refl w).allocs _).trans hE
  clear hE
  go_wp2_with fail
  go_loopg [12] l.length (fun g i wr => CRel w w1 l c (.slice A1 l.length c1) g i wr)
  case atStart => exact ⟨0, Nat.zero_le _, rfl, rfl, Ext.refl _, fun q _ h => absurd h (by omega)⟩
  case round =>
    obtain ⟨j, hj, rfl, rfl, hE, hno⟩ := hrel
    have hown' := own_ext hown hE
    have hB' := hB.ext hE
    have hzB := hB'.lt
    have hX' := hX.trans hE
    have hE1 := hE
    clear hB hX hE hown
    obtain ⟨⟨b0, b1, b2, b3⟩, _⟩ := blk4 hB'
    by_cases hlt : j < l.length
    · obtain ⟨g, cap', hv, hg0, hg1, ⟨q0, q1, q2, q3⟩, hfr⟩ := own_cp (n := 0) hown' hlt
      injection hv with hA1 _ hc1'
      subst hA1
      subst hc1'
      have HN := Lib.hid hno
      clear hno
      by_cases h1 : l[j].to = c.to
      · have h1' : (l[j].to == c.to) = true := by simp [h1]
        by_cases h2 : l[j].ssn = c.ssn
        · have h2' : (l[j].ssn == c.ssn) = true := by simp [h2]
          have HR := Lib.hid (rec_hit l c j hlt h1 h2 HN.out)
          generalize l[j].to = x0 at *
          generalize l[j].ssn = x1 at *
          generalize l[j].val = x2 at *
          generalize l[j].rsn = x3 at *
          clear h1 h2
          have f0 := hfr (j * 4)
          have f1 := hfr (j * 4 + 1)
          have f2 := hfr (j * 4 + 2)
          have f3 := hfr (j * 4 + 3)
          clear hfr
          go_wp2_with fail
          go_ret
          refine ⟨_, rfl, ?_, ?_⟩
          · rw [HR.out]
            exact (own_base (own_store4 hown' hlt c) (by omega)).alloc _
          · repeat (first | with_reducible exact hX' | with_reducible refine Ext.allocs ?_ _ | with_reducible refine Ext.set ?_ (by omega) _)
        · have h2' : (l[j].ssn == c.ssn) = false := by simp [h2]
          have HN2 : Hid (∀ q (h : q < l.length), q < j + 1 → ¬ (l[q].to = c.to ∧ l[q].ssn = c.ssn)) := by
            intro q hq hqj
            by_cases e : q = j
            · subst e; exact fun h => h2 h.2
            · exact HN.out q hq (by omega)
          generalize l[j].to = x0 at *
          generalize l[j].ssn = x1 at *
          generalize l[j].val = x2 at *
          generalize l[j].rsn = x3 at *
          clear h1 h2 hfr
          go_wp2_with fail
          go_roundg (l.length - (j + 1))
          case measure => omega
          case rel => exact ⟨j + 1, by omega, by go_num, rfl, hE1.allocs _, HN2.out⟩
      · have h1' : (l[j].to == c.to) = false := by simp [h1]
        have HN2 : Hid (∀ q (h : q < l.length), q < j + 1 → ¬ (l[q].to = c.to ∧ l[q].ssn = c.ssn)) := by
          intro q hq hqj
          by_cases e : q = j
          · subst e; exact fun h => h1 h.1
          · exact HN.out q hq (by omega)
        generalize l[j].to = x0 at *
        generalize l[j].ssn = x1 at *
        generalize l[j].val = x2 at *
        generalize l[j].rsn = x3 at *
        clear h1 hfr
        go_wp2_with fail
        go_roundg (l.length - (j + 1))
        case measure => omega
        case rel => exact ⟨j + 1, by omega, by go_num, rfl, hE1.allocs _, HN2.out⟩
    · have HR := Lib.hid (rec_miss l c (fun i hi => hno i hi (by omega)))
      clear hno
      go_wp2_with (at_builtin; refine wpList_push Cp.cells 4 32 Cp.len Cp.one (by omega) rfl _ _ _ rfl (w.heap.size + 1) 42 Try.underlying40 (by kernel_rfl) (.slice A1 l.length c1) l c rfl hown' rfl (by unfold maxLen; omega) (by omega) (by omega) ?_; intro v' w6 hown6 hg6)
      go_ret
      refine ⟨v', rfl, ?_, ?_⟩
      · rw [HR.out]; exact own_base hown6 (by omega)
      · exact Below.grown hX' hg6 hX'.size (fun k hk => by have := (hown'.lt k hk).1; omega)

end Go.Proofs.Ytooegndajfopkaa
