/- Plain laws of stocks as unions. No statement of the seat is proved here. -/
import Derived.Test.YthadaahemhamdaaStock27
namespace Go.Proofs.Ythadaahemhamdaa
open Go.RowKit
set_option linter.unusedVariables false

theorem un_comm (xs ys : List Dt) : stockV (ys ++ xs) = stockV (xs ++ ys) := asc_unique _ _ (stock_asc _) (stock_asc _) fun e => by
  simp only [stock_mem, List.mem_append]
  by_cases h1 : e ∈ xs <;> by_cases h2 : e ∈ ys <;> simp [h1, h2]
theorem un_again (xs ys : List Dt) : stockV (stockV (xs ++ ys) ++ xs) = stockV (xs ++ ys) := asc_unique _ _ (stock_asc _) (stock_asc _) fun e => by
  simp only [stock_mem, List.mem_append]
  by_cases h1 : e ∈ xs <;> by_cases h2 : e ∈ ys <;> simp [h1, h2]
theorem un_three (xs ys zs : List Dt) : stockV (stockV (zs ++ ys) ++ xs) = stockV (stockV (xs ++ ys) ++ zs) := asc_unique _ _ (stock_asc _) (stock_asc _) fun e => by
  simp only [stock_mem, List.mem_append]
  by_cases h1 : e ∈ xs <;> by_cases h2 : e ∈ ys <;> by_cases h3 : e ∈ zs <;> simp [h1, h2, h3]
theorem add_twice (s : List Dt) (d : Dt) : stockV (stockV (s ++ [d]) ++ [d]) = stockV (s ++ [d]) := asc_unique _ _ (stock_asc _) (stock_asc _) fun e => by
  simp only [stock_mem, List.mem_append]
  by_cases h1 : e ∈ s <;> by_cases h2 : e ∈ [d] <;> simp [h1, h2]
theorem has_un (xs ys : List Dt) (e : Dt) : hasB (stockV (xs ++ ys)) e = (hasB xs e || hasB ys e) :=
  Bool.eq_iff_iff.2 (by rw [Bool.or_eq_true, hasB_iff, hasB_iff, hasB_iff, stock_mem, List.mem_append])
theorem stock_lenU (l : List Dt) : (stockV l).length ≤ l.length := by
  have := cpt_len (sortD l)
  rw [sortD_len] at this
  exact this
theorem asc_step {l : List Dt} (h : AscD l) (i : Nat) (hi : i + 1 < l.length) : cmpD (l[i]'(by omega)) l[i + 1] < 0 := by
  rw [AscD, List.pairwise_iff_getElem] at h
  exact h i (i + 1) (by omega) hi (by omega)
theorem own_one (w : World) (d : Dt) : (w.alloc (.cells d.cells.toArray 39)).ownsRow w.heap.size 39 9 (.slice (some ⟨w.heap.size, 0, none⟩) 1 1) [d].length ([d].flatMap Dt.cells) :=
  ⟨by simp [Dt.cells], .inr ⟨w.heap.size, 1, d.cells.toArray, rfl, Nat.le_refl _, by first | exact Blk.new w 39 d.cells.toArray | simp, Nat.le_refl _, by unfold maxLen; omega, by simp [Dt.cells], by simp [Dt.cells]⟩⟩
end Go.Proofs.Ythadaahemhamdaa
