/- append of receipts. No statement of the seat is proved here. -/
import Derived.Test.YtooegndajfopkaaRowR
import Derived.Test.YtooegndajfopkaaRebPlain
namespace Go.Proofs.Ytooegndajfopkaa
open Go.RowKit
set_option linter.unusedVariables false
set_option maxRecDepth 100000

theorem Rc.ones (l : List Rc) : ∀ u ∈ l.flatMap Rc.cells, u.oneCell' = true := by
  intro u hu
  obtain ⟨c, _, hc⟩ := List.mem_flatMap.1 hu
  exact Rc.one c u hc


theorem infoRc : (Try.prog.info? 54).map (fun i => (i.zero, i.size, i.bytes)) = some (some (.agg #[.int .i64 0, .int .i64 0, .int .i64 0]), 3, 24) := by kernel_rfl
/-- append of a slice that reads as determinants -/
theorem run_cat (base : Nat) (ty : TypeId) (v : Value) (a b : List Rc) (w : World) (hown : w.ownsRow base 54 3 v a.length (a.flatMap Rc.cells)) (B : Option Addr) (c : Nat) (hb : RcSeg w B b) (hl : a.length + b.length ≤ 2000) (hbase : base ≤ w.heap.size) :
    ∃ v' w', (Builtin.append_ #[47, 47] ty #[v, .slice B b.length c]).run Try.prog w = .ok v' w' ∧ w'.ownsRow base 54 3 v' (a ++ b).length ((a ++ b).flatMap Rc.cells) ∧ w.grownBy w' v.ownBlock := by
  obtain ⟨i0, hi, hz0, hz1, hz2⟩ := info_parts infoRc
  cases B with
  | none =>
    have hl0 : b = [] := by
      cases b with
      | nil => rfl
      | cons x b =>
        obtain ⟨_, _, h, _⟩ := hb.2 (by simp)
        cases h
    subst hl0
    obtain ⟨A, cA, rfl, _, hle, _⟩ := own_slice hown
    refine ⟨_, _, run_append_nothing w _ _ ty _ i0 Try.underlying47 hi A a.length cA hle _ (Src.ofNil w Try.underlying47 c), by rw [List.append_nil]; exact hown, World.grownBy.refl w _⟩
  | some ad =>
    have hnews : ∀ k u, (b.flatMap Rc.cells)[k]? = some u → w.cell? (ad.add k) = some u := by
      intro k u hu
      have hk := (List.getElem?_eq_some_iff.1 hu).1
      rw [flat_len Rc.cells 3 Rc.len] at hk
      obtain ⟨x, off, h, _, hc⟩ := hb.2 (by omega)
      injection h with h
      subst h
      have hadd : (⟨x, off, none⟩ : Addr).add k = ⟨x, off + k, none⟩ := by unfold Addr.add; split <;> simp_all
      rw [hadd]
      exact hc k u hu
    obtain ⟨v', w', hr, h2, h3, _, _⟩ := run_append_own_at (P := Try.prog) w base _ ty _ i0 _ 3 24 Try.underlying47 hi hz0 hz1 hz2 rfl (by omega) v a.length _ hown ad b.length c (b.flatMap Rc.cells) (flat_len Rc.cells 3 Rc.len b) hnews (Rc.ones b) (by unfold maxLen; omega) (by omega) hbase
    exact ⟨v', w', hr, by rw [List.length_append, List.flatMap_append]; exact h2, h3⟩
theorem wpList_cat {ops : Array Oper} {rest : List Oper} {o : Oper} {ac : Act} {Q : Exit → Act → World → Prop} (w : World) (hgd : o.guard = none) (s x : Operand) (ho : o.op = .call { callee := .builtin .append, args := #[s, x], argTypes := #[47, 47] })
    (base : Nat) (v : Value) (a b : List Rc) (hs : ac.eval s = v) (hown : w.ownsRow base 54 3 v a.length (a.flatMap Rc.cells)) (B : Option Addr) (c : Nat) (hx : ac.eval x = .slice B b.length c) (hb : RcSeg w B b) (hl : a.length + b.length ≤ 2000) (hbase : base ≤ w.heap.size)
    (h : ∀ v' w', w'.ownsRow base 54 3 v' (a ++ b).length ((a ++ b).flatMap Rc.cells) → w.grownBy w' v.ownBlock → wpList Try.prog ops Q rest (ac.put o.dst v') w') : wpList Try.prog ops Q (o :: rest) ac w := by
  refine wpList_plain hgd fun K hK => ?_
  obtain ⟨v', w', hr, h2, h3⟩ := run_cat base o.type v a b w hown B c hb hl hbase
  unfold Oper.wp execOp
  simp only [ho, resolve, invoke, builtin, Sem.run_bind, Sem.run_pure, Result.andThen_ok, List.map_toArray, List.map_cons, List.map_nil, hs, hx, hr]
  exact hK _ _ (h v' w' h2 h3)

open Go.Maps in
theorem own_ne_map {w : World} {P : Program} {b1 n1 b n : Nat} {e1 k : TypeId} {s1 : Nat} {v1 : Value} {xs1 : List Value} {R : Value → Option (DataW Unit × List MemPlace)} {D : DataW Unit} (h1 : w.ownsRow b1 e1 s1 v1 n1 xs1) (h2 : w.ownsMap P k R b n D) :
    v1.ownBlock = none ∨ v1.ownBlock ≠ some b := by
  rcases h1.2 with ⟨rfl, _⟩ | ⟨g, cap, cur, rfl, _, hh, _⟩
  · exact .inl rfl
  · right
    obtain ⟨es, clock, hb, _⟩ := h2
    intro e
    simp only [Value.ownBlock, Option.some.injEq] at e
    subst e
    rw [hh] at hb
    injection hb with hb
    cases hb
theorem own_ne_i {w : World} {b1 n1 b n : Nat} {e1 : TypeId} {s1 : Nat} {v1 : Value} {xs1 : List Value} {f : Int → Option Nat} (h1 : w.ownsRow b1 e1 s1 v1 n1 xs1) (h2 : IMap w b n f) : v1.ownBlock = none ∨ v1.ownBlock ≠ some b := by
  obtain ⟨D, h, _⟩ := h2
  exact own_ne_map h1 h
theorem own_ne_b {w : World} {b1 n1 b n : Nat} {e1 : TypeId} {s1 : Nat} {v1 : Value} {xs1 : List Value} {f : Int → Bool} (h1 : w.ownsRow b1 e1 s1 v1 n1 xs1) (h2 : BMap w b n f) : v1.ownBlock = none ∨ v1.ownBlock ≠ some b := by
  obtain ⟨D, h, _⟩ := h2
  exact own_ne_map h1 h
end Go.Proofs.Ytooegndajfopkaa
