/- slices.Compact at determinants. No statement of the seat is proved here. -/
import Derived.Test.YthadaahemhamdaaRow27
namespace Go.Proofs.Ythadaahemhamdaa
open Go.RowKit
set_option linter.unusedVariables false

theorem cpt_two (x y : Dt) (l : List Dt) : cpt (x :: y :: l) = if x.same y then cpt (y :: l) else x :: cpt (y :: l) := by rw [cpt]
theorem cpt_one (x : Dt) : cpt [x] = [x] := by rw [cpt]
theorem cpt_snoc : ∀ (l : List Dt) (a b : Dt), cpt (l ++ [a, b]) = if a.same b then cpt (l ++ [a]) else cpt (l ++ [a]) ++ [b]
  | [], a, b => by
    rw [List.nil_append, List.nil_append, cpt_two, cpt_one, cpt_one]
    split
    · rename_i h
      rw [(Dt.same_iff a b).1 h]
    · rfl
  | [x], a, b => by
    have ih := cpt_snoc [] a b
    rw [List.nil_append, List.nil_append] at ih
    show cpt (x :: a :: [b]) = if a.same b then cpt (x :: a :: []) else cpt (x :: a :: []) ++ [b]
    rw [cpt_two x a [b], cpt_two x a [], ih]
    split <;> split <;> rfl
  | x :: y :: l, a, b => by
    have ih := cpt_snoc (y :: l) a b
    show cpt (x :: y :: (l ++ [a, b])) = if a.same b then cpt (x :: y :: (l ++ [a])) else cpt (x :: y :: (l ++ [a])) ++ [b]
    rw [cpt_two, cpt_two]
    rw [List.cons_append, List.cons_append] at ih
    rw [ih]
    split <;> split <;> rfl
theorem cpt_take (l : List Dt) (j : Nat) (hj : j + 1 < l.length) : cpt (l.take (j + 2)) = if l[j + 1].same (l[j]'(by omega)) then cpt (l.take (j + 1)) else cpt (l.take (j + 1)) ++ [l[j + 1]] := by
  rw [List.take_succ_eq_append_getElem (show j + 1 < l.length from hj), List.take_succ_eq_append_getElem (show j < l.length by omega), List.append_assoc]
  rw [show ([l[j]] ++ [l[j + 1]] : List Dt) = [l[j], l[j + 1]] from rfl, cpt_snoc]
  by_cases h : l[j].same l[j + 1] = true
  · rw [if_pos h, if_pos (by rw [Dt.same_iff] at h ⊢; exact h.symm)]
  · rw [if_neg h, if_neg (fun h' => h (by rw [Dt.same_iff] at h' ⊢; exact h'.symm))]
theorem cpt_short (l : List Dt) (h : l.length < 2) : cpt l = l := by
  cases l with
  | nil => rfl
  | cons x l =>
    cases l with
    | nil => rfl
    | cons y l => simp only [List.length_cons] at h; omega
theorem neq_det (w : World) (a b : Dt) : (binOp .neq 39 a.val b.val).run Try.prog w = .ok (.bool (!a.same b)) w := by
  have h := eql_det w a b
  simp only [binOp] at h ⊢
  revert h
  generalize (Op.equal 39 a.val b.val) = s
  intro h
  simp only [Sem.run_bind, Sem.run_pure] at h ⊢
  rcases hr : s.run Try.prog w with ⟨v, w'⟩ | ⟨x, w'⟩
  · rw [hr] at h
    simp only [Result.andThen_ok] at h ⊢
    injection h with h1 h2
    injection h1 with h1
    rw [h1, h2]
  · rw [hr] at h
    simp [Result.andThen] at h
end Go.Proofs.Ythadaahemhamdaa
