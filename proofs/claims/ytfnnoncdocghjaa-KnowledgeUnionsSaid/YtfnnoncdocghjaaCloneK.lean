/- slices.Clone and slices.Concat at known determinants. No statement of the seat is proved here. -/
import Derived.Test.YtfnnoncdocghjaaSelK
import Derived.Test.YtfnnoncdocghjaaGrowLayK
import Derived.Lib.SliceRun
import Derived.Lib.RowBridge
namespace Go.Proofs.Ytfnnoncdocghjaa
open Go.RowKit
set_option linter.unusedVariables false
set_option maxRecDepth 100000

theorem Kn.ones (l : List Kn) : ∀ u ∈ l.flatMap Kn.cells, u.oneCell' = true := by
  intro u hu
  obtain ⟨c, _, hc⟩ := List.mem_flatMap.1 hu
  exact Kn.one c u hc


theorem infoKn : (Try.prog.info? 34).map (fun i => (i.zero, i.size, i.bytes)) = some (some (.agg #[.int .i64 0, .int .i64 0, .int .i64 0, .int .i64 0, .int .i64 0, .int .i64 0, .int .i64 0, .int .i64 0, .int .i64 0, .int .u32 0]), 10, 80) := by kernel_rfl
/-- append of a slice that reads as determinants -/
theorem run_cat (base : Nat) (ty : TypeId) (v : Value) (a b : List Kn) (w : World) (hown : w.ownsRow base 34 10 v a.length (a.flatMap Kn.cells)) (B : Option Addr) (c : Nat) (hb : KnSeg w B b) (hl : a.length + b.length ≤ 2000) (hbase : base ≤ w.heap.size) :
    ∃ v' w', (Builtin.append_ #[26, 26] ty #[v, .slice B b.length c]).run Try.prog w = .ok v' w' ∧ w'.ownsRow base 34 10 v' (a ++ b).length ((a ++ b).flatMap Kn.cells) ∧ w.grownBy w' v.ownBlock := by
  obtain ⟨i0, hi, hz0, hz1, hz2⟩ := info_parts infoKn
  cases B with
  | none =>
    have hl0 : b = [] := by
      cases b with
      | nil => rfl
      | cons x b =>
        obtain ⟨_, _, h, _⟩ := hb.2 (by simp)
        cases h
    subst hl0
    obtain ⟨A, cA, rfl, _, hle, _⟩ := own_slice hown
    refine ⟨_, _, run_append_nothing w _ _ ty _ i0 Try.underlying26 hi A a.length cA hle _ (Src.ofNil w Try.underlying26 c), by rw [List.append_nil]; exact hown, World.grownBy.refl w _⟩
  | some ad =>
    have hnews : ∀ k u, (b.flatMap Kn.cells)[k]? = some u → w.cell? (ad.add k) = some u := by
      intro k u hu
      have hk := (List.getElem?_eq_some_iff.1 hu).1
      rw [flat_len Kn.cells 10 Kn.len] at hk
      obtain ⟨x, off, h, _, hc⟩ := hb.2 (by omega)
      injection h with h
      subst h
      have hadd : (⟨x, off, none⟩ : Addr).add k = ⟨x, off + k, none⟩ := by unfold Addr.add; split <;> simp_all
      rw [hadd]
      exact hc k u hu
    obtain ⟨v', w', hr, h2, h3, _, _⟩ := run_append_own_at (P := Try.prog) w base _ ty _ i0 _ 10 80 Try.underlying26 hi hz0 hz1 hz2 rfl (by omega) v a.length _ hown ad b.length c (b.flatMap Kn.cells) (flat_len Kn.cells 10 Kn.len b) hnews (Kn.ones b) (by unfold maxLen; omega) (by omega) hbase
    exact ⟨v', w', hr, by rw [List.length_append, List.flatMap_append]; exact h2, h3⟩
theorem wpList_cat {ops : Array Oper} {rest : List Oper} {o : Oper} {ac : Act} {Q : Exit → Act → World → Prop} (w : World) (hgd : o.guard = none) (s x : Operand) (ho : o.op = .call { callee := .builtin .append, args := #[s, x], argTypes := #[26, 26] })
    (base : Nat) (v : Value) (a b : List Kn) (hs : ac.eval s = v) (hown : w.ownsRow base 34 10 v a.length (a.flatMap Kn.cells)) (B : Option Addr) (c : Nat) (hx : ac.eval x = .slice B b.length c) (hb : KnSeg w B b) (hl : a.length + b.length ≤ 2000) (hbase : base ≤ w.heap.size)
    (h : ∀ v' w', w'.ownsRow base 34 10 v' (a ++ b).length ((a ++ b).flatMap Kn.cells) → w.grownBy w' v.ownBlock → wpList Try.prog ops Q rest (ac.put o.dst v') w') : wpList Try.prog ops Q (o :: rest) ac w := by
  refine wpList_plain hgd fun K hK => ?_
  obtain ⟨v', w', hr, h2, h3⟩ := run_cat base o.type v a b w hown B c hb hl hbase
  unfold Oper.wp execOp
  simp only [ho, resolve, invoke, builtin, Sem.run_bind, Sem.run_pure, Result.andThen_ok, List.map_toArray, List.map_cons, List.map_nil, hs, hx, hr]
  exact hK _ _ (h v' w' h2 h3)
set_option maxRecDepth 100000 in
set_option maxHeartbeats 800000 in
theorem clone_any (A : Option Addr) (c : Nat) (l : List Kn) (w : World) (hs : KnSeg w A l) (hn : l.length ≤ 1000) :
    Calls Try.prog 55 #[.slice A l.length c] w (OwnPostK l w) := by
  cases A with
  | none =>
    have hl0 : l = [] := by
      cases l with
      | nil => rfl
      | cons x b =>
        obtain ⟨_, _, h, _⟩ := hs.2 (by simp)
        cases h
    subst hl0
    have heq := fun w => Lib.run_eql_slice_nil (P := Try.prog) w 26 34 none 0 c 0 0 Try.underlying26
    go_enter Try.func55, Try.ntmps55
    go_wp2_with fail
    go_ret
    exact ⟨.slice none 0 0, rfl, World.ownsRow_nil _ _ _ _, Ext.refl w⟩
  | some ad =>
    have hm := World.ownsRow_made (base := w.heap.size) (e := 34) (size := 10) w #[] 0 (Nat.le_refl _) (by unfold maxLen; omega) rfl
    have HM := Lib.hid hm
    clear hm
    have heq := fun w => Lib.run_eql_slice_nil (P := Try.prog) w 26 34 (some ad) l.length c 0 0 Try.underlying26
    go_enter Try.func55, Try.ntmps55
    go_wp2_with (at_builtin; refine wpList_cat _ rfl _ _ rfl w.heap.size _ [] l rfl HM.out (some ad) c rfl (hs.alloc _) (by simp; omega) (by simp) ?_; intro v' w' hown' hg')
    have hE : Ext w w' := Ext.own ((Ext.refl w).allocs _) HM.out (Nat.le_refl _) hg'
    go_ret
    exact ⟨v', rfl, hown', hE⟩


theorem zero_sizeK (n : Nat) : (Builtin.zeroCells (Value.agg #[.int .i64 0, .int .i64 0, .int .i64 0, .int .i64 0, .int .i64 0, .int .i64 0, .int .i64 0, .int .i64 0, .int .i64 0, .int .u32 0]).cells n).size = n * 10 := by
  simp [Builtin.zeroCells, Value.cells]
theorem grow_any (n : Nat) (hn : n ≤ 2000) (w : World) : Calls Try.prog 73 #[.slice none 0 0, .int .i64 n] w (OwnPostK [] w) := by
  obtain ⟨i0, hi, hz0, hz1, hz2⟩ := info_parts infoKn
  by_cases h0 : n = 0
  · subst h0
    refine Calls.mono (Any8.slices_Grow_room Try.growKn none 0 0 0 w (by omega) (by omega) (by omega) (by omega)) ?_
    rintro e w' ⟨rfl, rfl⟩
    exact ⟨_, rfl, World.ownsRow_nil _ _ _ _, Ext.refl _⟩
  · refine Calls.mono (Any8.slices_Grow_grow Try.growKn i0 _ hi hz0 (by rw [hz1]; omega) none 0 0 n [] w (by omega) (by omega) (by rw [hz2]; omega) (by omega) (by simp) (fun _ => rfl) (fun a h => by cases h)) ?_
    rintro e w' ⟨rfl, rfl⟩
    have hge := grownCap_ge w (0 + n) 0 34
    have hcm := grownCap_le_maxLen w (0 + n) 0 34 (by unfold maxLen; omega)
    refine ⟨_, rfl, ?_, Ext.allocs (Below.drew (Ext.refl w)) _⟩
    refine World.ownsRow_made (base := w.heap.size) (e := 34) (size := 10) w.drew _ _ (Nat.le_refl _) hcm ?_
    rw [Array.size_append, Array.size_append, zero_sizeK, zero_sizeK]
    simp only [List.size_toArray, List.length_nil]
    show 0 + (0 + n - 0) * 10 + (grownCap w (0 + n) 0 34 - (0 + n)) * 10 = grownCap w (0 + n) 0 34 * 10
    omega
def CcRel (w : World) (a b : List Kn) (g : Nat) (sv iv : Value) (wr : World) : Prop := ∃ k : Nat, k ≤ 2 ∧ iv = .int .i64 k ∧ g = 2 - k ∧ wr = w ∧ sv = .int .i64 ((if k = 0 then 0 else if k = 1 then a.length else a.length + b.length : Nat) : Int)
def CdRel (w : World) (gS : Nat) (cs : Array Value) (a b : List Kn) (g : Nat) (v iv : Value) (wr : World) : Prop := ∃ k : Nat, k ≤ 2 ∧ iv = .int .i64 k ∧ g = 2 - k ∧ Ext w wr ∧ wr.ownsRow w.heap.size 34 10 v (if k = 0 then [] else if k = 1 then a else a ++ b).length ((if k = 0 then [] else if k = 1 then a else a ++ b).flatMap Kn.cells)
set_option maxRecDepth 100000 in
set_option maxHeartbeats 1600000 in
theorem concat_two (gS : Nat) (A B : Option Addr) (ca cb : Nat) (a b : List Kn) (w : World) (hS : Blk w gS 26 #[.slice A a.length ca, .slice B b.length cb]) (ha : KnSeg w A a) (hb : KnSeg w B b) (hla : a.length ≤ 700) (hlb : b.length ≤ 300) :
    Calls Try.prog 60 #[.slice (some ⟨gS, 0, none⟩) 2 2] w (OwnPostK (a ++ b) w) := by
  have hla' : (a.length : Int) ≤ 700 := by omega
  have hlb' : (b.length : Int) ≤ 300 := by omega
  have s0 := hS.cell 0
  have s1 := hS.cell 1
  simp only [List.getElem?_toArray, List.getElem?_cons_zero, List.getElem?_cons_succ] at s0 s1
  go_enter Try.func60, Try.ntmps60
  go_wp2_with fail
  go_loopg [3, 11] 2 (fun g sv iv wr => CcRel w a b g sv iv wr)
  case atStart => exact ⟨0, by omega, rfl, rfl, rfl, rfl⟩
  case round =>
    obtain ⟨k, hk, rfl, rfl, rfl, rfl⟩ := hrel
    have hk3 : k = 0 ∨ k = 1 ∨ k = 2 := by omega
    rcases hk3 with rfl | rfl | rfl
    · simp only [if_true]
      go_wp2_with fail
      go_roundg (2 - (0 + 1))
      case measure => omega
      case rel => exact ⟨1, by omega, rfl, rfl, rfl, by simp⟩
    · simp only [if_true, if_neg (show ¬ (1 : Nat) = 0 by omega)]
      go_wp2_with fail
      go_roundg (2 - (1 + 1))
      case measure => omega
      case rel => exact ⟨2, by omega, rfl, rfl, rfl, by go_num⟩
    · simp only [if_neg (show ¬ (2 : Nat) = 0 by omega), if_neg (show ¬ (2 : Nat) = 1 by omega)]
      have hg := grow_any (a.length + b.length) (by omega) wr
      simp only [Int.natCast_add] at hg
      go_wp2_with fail
      refine hg.mono ?_
      rintro e w2 ⟨v, rfl, hown, hE2⟩
      have hsz := hE2.size
      have HS := Lib.hid hS
      clear hg s0 s1 hS
      obtain ⟨w0, hw0⟩ : ∃ w0, wr = w0 := ⟨_, rfl⟩
      rw [hw0] at hE2 hown hsz HS ha hb ⊢
      have HW0 := Lib.hid hw0
      clear hw0
      go_wp2_with fail
      go_loopg [6, 27] 2 (fun g v iv wr => CdRel w0 gS #[] a b g v iv wr)
      case atStart => exact ⟨0, by omega, rfl, rfl, hE2, hown⟩
      case round =>
        clear hown hE2
        obtain ⟨k, hk, rfl, rfl, hE, hown⟩ := hrel
        have hsz2 := hE.size
        have s0 := (HS.out.ext hE).cell 0
        have s1 := (HS.out.ext hE).cell 1
        simp only [List.getElem?_toArray, List.getElem?_cons_zero, List.getElem?_cons_succ] at s0 s1
        have hk3 : k = 0 ∨ k = 1 ∨ k = 2 := by omega
        rcases hk3 with rfl | rfl | rfl
        · simp only [if_true] at hown
          have HOWN := Lib.hid hown
          clear hown
          go_wp2_with (at_builtin; refine wpList_cat _ rfl _ _ rfl w0.heap.size _ [] a rfl HOWN.out A ca rfl (ha.ext hE) (by simp; omega) hsz2 ?_; intro v' w' hown' hg')
          have hE' : Ext w0 w' := Ext.own hE HOWN.out (Nat.le_refl _) hg'
          go_roundg (2 - (0 + 1))
          case measure => omega
          case rel => exact ⟨1, by omega, rfl, rfl, hE', by simpa using hown'⟩
        · simp only [if_true, if_neg (show ¬ (1 : Nat) = 0 by omega)] at hown
          have HOWN := Lib.hid hown
          clear hown
          go_wp2_with (at_builtin; refine wpList_cat _ rfl _ _ rfl w0.heap.size _ a b rfl HOWN.out B cb rfl (hb.ext hE) (by omega) hsz2 ?_; intro v' w' hown' hg')
          have hE' : Ext w0 w' := Ext.own hE HOWN.out (Nat.le_refl _) hg'
          go_roundg (2 - (1 + 1))
          case measure => omega
          case rel => exact ⟨2, by omega, rfl, rfl, hE', hown'⟩
        · simp only [if_neg (show ¬ (2 : Nat) = 0 by omega), if_neg (show ¬ (2 : Nat) = 1 by omega)] at hown
          go_wp2_with fail
          go_ret
          exact ⟨_, rfl, by rw [HW0.out]; exact hown, by rw [HW0.out]; exact hE⟩
end Go.Proofs.Ytfnnoncdocghjaa
