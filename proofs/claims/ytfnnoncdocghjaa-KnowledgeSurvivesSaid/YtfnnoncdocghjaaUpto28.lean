/- Slices of events; who knows; counting. No statement of the seat is proved here. -/
import Derived.Test.YtfnnoncdocghjaaPast28
import Derived.Test.YtfnnoncdocghjaaBelieves
namespace Go.Proofs.Ytfnnoncdocghjaa
open Go.RowKit
set_option linter.unusedVariables false
set_option maxRecDepth 100000

theorem info_ev : (Try.prog.info? 30).map (fun i => (i.zero, i.size, i.bytes)) = some (some (.agg #[.int .i64 0, .int .i64 0, .int .i64 0, .int .i64 0, .int .i64 0, .int .i64 0, .int .i64 0]), 7, 56) := by kernel_rfl
theorem run_upto (w : World) (A : Option Addr) (n cap l : Nat) (li : Int) (hli : li = l) (hl : l ≤ cap) : (Instr.slice 65 (.slice A n cap) none (some (.int .i64 li)) none).run Try.prog w = .ok (.slice (if cap = 0 then A else A.map (·.add (0 * 7))) l cap) w := by
  subst hli
  obtain ⟨i0, hi, hz0, hz1, hz2⟩ := info_parts info_ev
  have h1 : (0 : Int) ≤ (l : Int) := by omega
  have h2 : (l : Int) ≤ (cap : Int) := by omega
  by_cases hc : cap = 0
  · subst hc
    obtain rfl : l = 0 := by omega
    simp [Instr.slice, Instr.sliceBounds, run_underlying Try.underlying65, go_sem, sizeOf, typeInfo, hi]
  · simp [Instr.slice, Instr.sliceBounds, run_underlying Try.underlying65, go_sem, sizeOf, typeInfo, hi, h1, h2, hc]
theorem ev_upto {w : World} {A : Option Addr} {es : List Ev} (h : EvSeg w A es) (cap l : Nat) (hl : l ≤ es.length) : EvSeg w (if cap = 0 then A else A.map (·.add (0 * 7))) (es.take l) := by
  have e : es.flatMap Ev.cells = (es.take l).flatMap Ev.cells ++ (es.drop l).flatMap Ev.cells := by rw [← List.flatMap_append, List.take_append_drop]
  refine ⟨flat_len Ev.cells 7 Ev.len _, fun hn => ?_⟩
  rw [List.length_take] at hn
  obtain ⟨b, off, rfl, hb, hc⟩ := h.2 (by omega)
  have hadd : (⟨b, off, none⟩ : Addr).add (0 * 7) = ⟨b, off, none⟩ := by unfold Addr.add; split <;> simp_all
  refine ⟨b, off, ?_, hb, fun j u hu => hc j u ?_⟩
  · split
    · rfl
    · rw [Option.map_some, hadd]
  · rw [e, List.getElem?_append_left (List.getElem?_eq_some_iff.1 hu).1]; exact hu

def kwB (s : Cm) (q : Nat) (d : Dt) : Bool := hasB ((s.kn.getD q []).map Kn.d) d
theorem kwB_iff (s : Cm) (q : Nat) (d : Dt) : kwB s q d = true ↔ Kw s q d := by
  unfold kwB Kw
  rw [hasB_iff, List.mem_map]
theorem nodup_len : ∀ {l L : List Nat}, l.Nodup → (∀ x ∈ l, x ∈ L) → l.length ≤ L.length
  | [], _, _, _ => Nat.zero_le _
  | x :: l, L, h, hs => by
    obtain ⟨h1, h2⟩ := List.nodup_cons.1 h
    obtain ⟨a, b, rfl⟩ := List.append_of_mem (hs x (List.mem_cons_self ..))
    have := nodup_len (L := a ++ b) h2 fun y hy => by
      have h3 := hs y (List.mem_cons_of_mem _ hy)
      have hne : y ≠ x := fun e => h1 (e ▸ hy)
      simp only [List.mem_append, List.mem_cons] at h3 ⊢
      rcases h3 with h3 | h3 | h3
      · exact .inl h3
      · exact absurd h3 hne
      · exact .inr h3
    simp only [List.length_append, List.length_cons] at this ⊢
    omega
/-- how many of the first know -/
def kcnt (s : Cm) (d : Dt) (r : Nat) : Nat := ((List.range r).filter fun q => kwB s q d).length
theorem kcnt_succ (s : Cm) (d : Dt) (r : Nat) : kcnt s d (r + 1) = kcnt s d r + if kwB s r d then 1 else 0 := by
  unfold kcnt
  rw [List.range_succ, List.filter_append, List.length_append]
  congr 1
  cases h : kwB s r d <;> simp [List.filter, h]
theorem kcnt_le (s : Cm) (d : Dt) (r : Nat) : kcnt s d r ≤ r := by
  have := List.length_filter_le (fun q => kwB s q d) (List.range r)
  rwa [List.length_range] at this
theorem rep_law {n f : Nat} {s : Cm} {S : List Dt} (h : Rep n f s S) {p q i : Nat} {X : List Nat} {e : Ev} (hp : p < n) (hq : q < n) (hX : PI s.ev p n X) (hi : i < X.getD q 0) (he : (s.ev.getD q [])[i]? = some e) :
    kwB s p ⟨q, (i : Int) + 1, e⟩ = true ∨ f < kcnt s ⟨q, (i : Int) + 1, e⟩ n ∨ hasB S ⟨q, (i : Int) + 1, e⟩ = true := by
  have h1 : Pst s.ev p (s.ev.getD p []).length q (i + 1) := (hX.p q hq (by omega)).down (by omega)
  rcases h.r1 p hp _ ⟨q, i, e, h1, he, rfl⟩ with hk | hs | ⟨H, h2, h3, h4⟩
  · exact .inl ((kwB_iff _ _ _).2 hk)
  · exact .inr (.inr ((hasB_iff _ _).2 hs))
  · refine .inr (.inl (Nat.lt_of_lt_of_le h4 (nodup_len h2 fun r hr => ?_)))
    exact List.mem_filter.2 ⟨List.mem_range.2 (h3 r hr).1, (kwB_iff _ _ _).2 (h3 r hr).2⟩
open Go.Sort in
theorem call_grownW {f : FuncId} {args : Array Value} {W : World} {d : Nat} {os : Array Obj} {v : Value} (h : ∀ X, Ext W X → Calls Try.prog f args X (ExtPost X v)) :
    Calls Try.prog f args (grow (redrawn W d) os) fun e w'' => e = .returned v ∧ ∃ p : Regrown, w'' = grow (redrawn W p.d) p.os := Calls.regrown_of (h _ (below_regrown W d os))
theorem linV_at (p : Int) (es : List Ev) (j : Nat) (hj : j < es.length) (h : j < (linV p es).length) : (linV p es)[j] = ⟨p, (j : Int) + 1, es[j]⟩ := by
  have h1 := linV_get p es 0 j hj
  rw [Nat.zero_add] at h1
  have h2 : (linV p es)[j]? = some (linV p es)[j] := List.getElem?_eq_getElem h
  unfold linV at h2 ⊢
  rw [h1] at h2
  injection h2 with h2
  exact h2.symm
def RrRel (w1 : World) (st : Cm) (d : Dt) (m : Nat) (gg : Nat) (hv v : Value) (wr : World) : Prop := ∃ j : Nat, j ≤ m ∧ v = .int .i64 j ∧ hv = .int .i64 (kcnt st d j) ∧ gg = m - j ∧ Ext w1 wr
end Go.Proofs.Ytfnnoncdocghjaa
