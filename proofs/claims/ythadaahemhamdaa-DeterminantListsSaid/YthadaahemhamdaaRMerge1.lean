/- The reference's Merge: lemmas. No statement of the seat is proved here. -/
import Derived.Test.YthadaahemhamdaaStock27
import Derived.StillTailTactics
namespace Go.Proofs.Ythadaahemhamdaa
open Go.RowKit
set_option linter.unusedVariables false

theorem setAll_split (xs vs : List Value) (o : Nat) (h : o + vs.length ≤ xs.length) : setAll xs o vs = xs.take o ++ vs ++ xs.drop (o + vs.length) := by
  apply List.ext_getElem?
  intro q
  rw [setAll_get]
  by_cases h1 : q < o
  · rw [if_neg (by omega), List.append_assoc, List.getElem?_append_left (by rw [List.length_take]; omega), List.getElem?_take_of_lt h1]
  · by_cases h2 : q < o + vs.length
    · rw [if_pos ⟨by omega, h2, by omega⟩, List.append_assoc, List.getElem?_append_right (by rw [List.length_take]; omega), List.getElem?_append_left (by rw [List.length_take]; omega), List.length_take, Nat.min_eq_left (by omega)]
    · rw [if_neg (by omega), List.getElem?_append_right (by rw [List.length_append, List.length_take]; omega), List.getElem?_drop, List.length_append, List.length_take, Nat.min_eq_left (by omega)]
      congr 1
      omega
theorem drop_flat (l : List Dt) (k : Nat) (hk : k ≤ l.length) : (l.drop k).flatMap Dt.cells = (l.flatMap Dt.cells).drop (k * 9) := by
  have e : l.flatMap Dt.cells = (l.take k).flatMap Dt.cells ++ (l.drop k).flatMap Dt.cells := by rw [← List.flatMap_append, List.take_append_drop]
  have hA : ((l.take k).flatMap Dt.cells).length = k * 9 := by rw [flat_len Dt.cells 9 Dt.len, List.length_take, Nat.min_eq_left hk]
  rw [e, ← hA]
  exact List.drop_left.symm
theorem setAll_flats (X Y : List Dt) (r : Nat) (h : r + Y.length ≤ X.length) : setAll (X.flatMap Dt.cells) (r * 9) (Y.flatMap Dt.cells) = (X.take r ++ Y ++ X.drop (r + Y.length)).flatMap Dt.cells := by
  have hY := flat_len Dt.cells 9 Dt.len Y
  have hX := flat_len Dt.cells 9 Dt.len X
  rw [setAll_split _ _ _ (by omega), List.flatMap_append, List.flatMap_append, take_flat X r (by omega), drop_flat X (r + Y.length) h, hY]
  congr 2
  omega
/-- stores into a row that the call owns -/
theorem own_sets {w : World} {base g n cap : Nat} {xs vs : List Value} {o : Nat} (h : w.ownsRow base 39 9 (.slice (some ⟨g, 0, none⟩) n cap) n xs) (hl : o + vs.length ≤ xs.length) : (w.setCells g o vs).ownsRow base 39 9 (.slice (some ⟨g, 0, none⟩) n cap) n (setAll xs o vs) := by
  refine ⟨by rw [setAll_len]; exact h.1, .inr ?_⟩
  rcases h.2 with ⟨hv, _⟩ | ⟨g', cap', cur, hv, hb, hh, hc, hm, hs, ht⟩
  · injection hv with hv; cases hv
  · injection hv with hv _ hcap
    injection hv with hv
    injection hv with hv _
    subst hv hcap
    refine ⟨g, cap, (setAll cur.toList o vs).toArray, rfl, hb, heap_sets vs o w cur.toList hh, hc, hm, by simp only [List.size_toArray, setAll_len, Array.length_toList]; exact hs, ?_⟩
    have hxl : xs.length = n * 9 := h.1
    have hcl : n * 9 ≤ cur.toList.length := by
      have := congrArg List.length ht
      rw [List.length_take, hxl] at this
      omega
    show (setAll cur.toList o vs).take (n * 9) = setAll xs o vs
    apply List.ext_getElem?
    intro q
    by_cases hq : q < n * 9
    · rw [List.getElem?_take_of_lt hq, setAll_get, setAll_get]
      have hcx : cur.toList[q]? = xs[q]? := by rw [← ht, List.getElem?_take_of_lt hq]
      by_cases hin : o ≤ q ∧ q < o + vs.length
      · rw [if_pos ⟨hin.1, hin.2, by omega⟩, if_pos ⟨hin.1, hin.2, by omega⟩]
      · rw [if_neg (fun h => hin ⟨h.1, h.2.1⟩), if_neg (fun h => hin ⟨h.1, h.2.1⟩), hcx]
    · rw [List.getElem?_eq_none (by rw [List.length_take, setAll_len]; omega), List.getElem?_eq_none (by rw [setAll_len]; omega)]
theorem ins_list {out : List Dt} {r : Nat} (x : Dt) (hr : r < out.length) : (out.take (r + 1) ++ out.drop r).set r x = out.take r ++ x :: out.drop r := by
  rw [List.take_succ_eq_append_getElem hr, List.append_assoc, List.set_append_right _ _ (by rw [List.length_take]; omega), List.length_take, Nat.min_eq_left (by omega), Nat.sub_self]
  rfl
/-- copy within a row, by one place -/
theorem run_copy_det (w : World) (ty : TypeId) (g r n dc sc : Nat) (X : List Dt) (h : Row w g X) (hX : X.length = n + 1) (hr : r < n) :
    (Builtin.copy_ #[24, 24] ty #[.slice (some ⟨g, (r + 1) * 9, none⟩) (n - r) dc, .slice (some ⟨g, r * 9, none⟩) (n + 1 - r) sc]).run Try.prog w = .ok (goInt (n - r : Nat)) (w.setCells g ((r + 1) * 9) (((X.drop r).take (n - r)).flatMap Dt.cells)) := by
  obtain ⟨i0, hi, hz0, hz1, hz2⟩ := info_parts infoDet
  have hfl := flat_len Dt.cells 9 Dt.len X
  have hcl : (((X.drop r).take (n - r)).flatMap Dt.cells).length = (n - r) * 9 := by rw [flat_len Dt.cells 9 Dt.len, List.length_take, List.length_drop]; congr 1; omega
  have hsrc : ∀ j v, (((X.drop r).take (n - r)).flatMap Dt.cells)[j]? = some v → w.cell? ((⟨g, r * 9, none⟩ : Addr).add j) = some v := by
    intro j v hv
    have hj := (List.getElem?_eq_some_iff.1 hv).1
    rw [hcl] at hj
    rw [take_flat _ _ (by rw [List.length_drop]; omega), drop_flat X r (by omega), List.getElem?_take_of_lt hj, List.getElem?_drop] at hv
    have hadd : (⟨g, r * 9, none⟩ : Addr).add j = ⟨g, r * 9 + j, none⟩ := by unfold Addr.add; split <;> simp_all
    rw [hadd]
    exact (h.2 _ v hv).1
  have ho := Dt.ones ((X.drop r).take (n - r))
  generalize ((X.drop r).take (n - r)).flatMap Dt.cells = cs at *
  have hfc := run_firstCells_some (P := Try.prog) w 9 (n - r) ⟨g, r * 9, none⟩ (n + 1 - r) sc cs hcl hsrc
  have hst := run_storeCells_cells (P := Try.prog) g ((r + 1) * 9) cs 0 w (fun j hj => by
      have hj' : (r + 1) * 9 + j < (X.flatMap Dt.cells).length := by omega
      rw [Nat.add_zero, (h.2 _ _ (List.getElem?_eq_getElem hj')).1]; rfl) (fun j hj => by
      have hj' : (r + 1) * 9 + j < (X.flatMap Dt.cells).length := by omega
      rw [Nat.add_zero]; exact (h.2 _ _ (List.getElem?_eq_getElem hj')).2) ho
  simp only [Nat.add_zero] at hst
  have hmin : Nat.min (n + 1 - r) (n - r) = n - r := by
    show min (n + 1 - r) (n - r) = n - r
    omega
  simp [Builtin.copy_, run_underlying Try.underlying24, Builtin.lenOf, sizeOf, typeInfo, hi, hz1, hmin, hfc, hst]
theorem run_copy_none (w : World) (ty : TypeId) (d s : Option Addr) (dc sl sc : Nat) :
    (Builtin.copy_ #[24, 24] ty #[.slice d 0 dc, .slice s sl sc]).run Try.prog w = .ok (goInt 0) w := by
  obtain ⟨i0, hi, hz0, hz1, hz2⟩ := info_parts infoDet
  have hl : ∀ (x : Addr), (loadCells x 0).run Try.prog w = .ok #[] w := fun x => by simpa using run_loadCells_list (P := Try.prog) w x [] (by simp)
  cases d <;> cases s <;> simp [Builtin.copy_, run_underlying Try.underlying24, Builtin.lenOf, Builtin.firstCells, sizeOf, typeInfo, hi, storeCells, hl]
theorem insV_len (out : List Dt) (d : Dt) : (insV out d).length ≤ out.length + 1 := by
  unfold insV
  split
  · omega
  · rw [List.length_append, List.length_cons, List.length_take, List.length_drop]; omega
theorem insAll_len (l : List Dt) : ∀ i, (insAll l i).length ≤ i
  | 0 => Nat.le_refl _
  | i + 1 => by
    have := insV_len (insAll l i) (l.getD i ⟨0, 0, ⟨0, 0, 0, 0, 0, 0, 0⟩⟩)
    have := insAll_len l i
    rw [insAll]
    omega
end Go.Proofs.Ythadaahemhamdaa
