/- slices.Clone at determinants. No statement of the seat is proved here. -/
import Derived.Test.YthadaahemhamdaaCompact27b
namespace Go.Proofs.Ythadaahemhamdaa
open Go.RowKit
set_option linter.unusedVariables false

theorem infoDet : (Try.prog.info? 39).map (fun i => (i.zero, i.size, i.bytes)) = some (some (.agg #[.int .i64 0, .int .i64 0, .int .i64 0, .int .i64 0, .int .i64 0, .int .i64 0, .int .i64 0, .int .i64 0, .int .i64 0]), 9, 72) := by kernel_rfl
/-- append of a slice that reads as determinants -/
theorem run_cat (base : Nat) (ty : TypeId) (v : Value) (a b : List Dt) (w : World) (hown : w.ownsRow base 39 9 v a.length (a.flatMap Dt.cells)) (B : Option Addr) (c : Nat) (hb : DtSeg w B b) (hl : a.length + b.length ≤ 2000) (hbase : base ≤ w.heap.size) :
    ∃ v' w', (Builtin.append_ #[24, 24] ty #[v, .slice B b.length c]).run Try.prog w = .ok v' w' ∧ w'.ownsRow base 39 9 v' (a ++ b).length ((a ++ b).flatMap Dt.cells) ∧ w.grownBy w' v.ownBlock := by
  obtain ⟨i0, hi, hz0, hz1, hz2⟩ := info_parts infoDet
  cases B with
  | none =>
    have hl0 : b = [] := by
      cases b with
      | nil => rfl
      | cons x b =>
        obtain ⟨_, _, h, _⟩ := hb.2 (by simp)
        cases h
    subst hl0
    obtain ⟨A, cA, rfl, _, hle, _⟩ := own_slice hown
    refine ⟨_, _, run_append_nothing w _ _ ty _ i0 Try.underlying24 hi A a.length cA hle _ (Src.ofNil w Try.underlying24 c), by rw [List.append_nil]; exact hown, ext_grown (Ext.refl w) _⟩
  | some ad =>
    have hnews : ∀ k u, (b.flatMap Dt.cells)[k]? = some u → w.cell? (ad.add k) = some u := by
      intro k u hu
      have hk := (List.getElem?_eq_some_iff.1 hu).1
      rw [flat_len Dt.cells 9 Dt.len] at hk
      obtain ⟨x, off, h, _, hc⟩ := hb.2 (by omega)
      injection h with h
      subst h
      have hadd : (⟨x, off, none⟩ : Addr).add k = ⟨x, off + k, none⟩ := by unfold Addr.add; split <;> simp_all
      rw [hadd]
      exact hc k u hu
    obtain ⟨v', w', hr, h2, h3, _, _⟩ := run_append_own_at (P := Try.prog) w base _ ty _ i0 _ 9 72 Try.underlying24 hi hz0 hz1 hz2 rfl (by omega) v a.length _ hown ad b.length c (b.flatMap Dt.cells) (flat_len Dt.cells 9 Dt.len b) hnews (Dt.ones b) (by unfold maxLen; omega) (by omega) hbase
    exact ⟨v', w', hr, by rw [List.length_append, List.flatMap_append]; exact h2, h3⟩
theorem wpList_cat {ops : Array Oper} {rest : List Oper} {o : Oper} {ac : Act} {Q : Exit → Act → World → Prop} (w : World) (hgd : o.guard = none) (s x : Operand) (ho : o.op = .call { callee := .builtin .append, args := #[s, x], argTypes := #[24, 24] })
    (base : Nat) (v : Value) (a b : List Dt) (hs : ac.eval s = v) (hown : w.ownsRow base 39 9 v a.length (a.flatMap Dt.cells)) (B : Option Addr) (c : Nat) (hx : ac.eval x = .slice B b.length c) (hb : DtSeg w B b) (hl : a.length + b.length ≤ 2000) (hbase : base ≤ w.heap.size)
    (h : ∀ v' w', w'.ownsRow base 39 9 v' (a ++ b).length ((a ++ b).flatMap Dt.cells) → w.grownBy w' v.ownBlock → wpList Try.prog ops Q rest (ac.put o.dst v') w') : wpList Try.prog ops Q (o :: rest) ac w := by
  refine wpList_plain hgd fun K hK => ?_
  obtain ⟨v', w', hr, h2, h3⟩ := run_cat base o.type v a b w hown B c hb hl hbase
  unfold Oper.wp execOp
  simp only [ho, resolve, invoke, builtin, Sem.run_bind, Sem.run_pure, Result.andThen_ok, List.map_toArray, List.map_cons, List.map_nil, hs, hx, hr]
  exact hK _ _ (h v' w' h2 h3)
def OwnPost (l : List Dt) (w : World) (e : Ending) (w' : World) : Prop := ∃ v, e = .returned v ∧ w'.ownsRow w.heap.size 39 9 v l.length (l.flatMap Dt.cells) ∧ Ext w w'
set_option maxRecDepth 100000 in
set_option maxHeartbeats 800000 in
theorem clone_any (A : Option Addr) (c : Nat) (l : List Dt) (w : World) (hs : DtSeg w A l) (hn : l.length ≤ 1000) :
    Calls Try.prog 49 #[.slice A l.length c] w (OwnPost l w) := by
  cases A with
  | none =>
    have hl0 : l = [] := by
      cases l with
      | nil => rfl
      | cons x b =>
        obtain ⟨_, _, h, _⟩ := hs.2 (by simp)
        cases h
    subst hl0
    have heq := fun w => Lib.run_eql_slice_nil (P := Try.prog) w 24 39 none 0 c 0 0 Try.underlying24
    go_enter Try.func49, Try.ntmps49
    go_wp2_with fail
    go_ret
    exact ⟨.slice none 0 0, rfl, World.ownsRow_nil _ _ _ _, Ext.refl w⟩
  | some ad =>
    have hm := World.ownsRow_made (base := w.heap.size) (e := 39) (size := 9) w #[] 0 (Nat.le_refl _) (by unfold maxLen; omega) rfl
    have HM := Lib.hid hm
    clear hm
    have heq := fun w => Lib.run_eql_slice_nil (P := Try.prog) w 24 39 (some ad) l.length c 0 0 Try.underlying24
    go_enter Try.func49, Try.ntmps49
    go_wp2_with (at_builtin; refine wpList_cat _ rfl _ _ rfl w.heap.size _ [] l rfl HM.out (some ad) c rfl (hs.alloc _) (by simp; omega) (by simp) ?_; intro v' w' hown' hg')
    have hE : Ext w w' := Ext.own ((Ext.refl w).allocs _) HM.out (Nat.le_refl _) hg'
    go_ret
    exact ⟨v', rfl, hown', hE⟩
end Go.Proofs.Ythadaahemhamdaa
