/- Chapter 38: the memory of the reference's table. No statement of the seat is proved here. -/
import Derived.Test.YtddcgholnhhcoaaRDivPlain
import Derived.Deep.AppendLies
import Derived.Deep.AppendSrc
import Derived.Deep.CutRange
namespace Go.Proofs.Ytddcgholnhhcoaa
open Go.RowKit
set_option linter.unusedVariables false

/-- a plan of the reference -/
structure RP where
  there : Bool
  cost : Int
  A : Option Addr
  L : List Int
  c : Nat
def RP.cells (p : RP) : List Value := [.bool p.there, .int .i64 p.cost, .slice p.A p.L.length p.c]
theorem RP.len (p : RP) : p.cells.length = 3 := rfl
def RP.zero : RP := ⟨false, 0, none, [], 0⟩
def RP.last : RP := ⟨true, 0, none, [], 0⟩
abbrev RP.val (p : RP) : Value := .agg #[.bool p.there, .int .i64 p.cost, .slice p.A p.L.length p.c]
def RP.fine (w : World) (g : Nat) (p : RP) : Prop := IntSeg w p.A p.L ∧ ∀ ad, p.A = some ad → g < ad.block
abbrev RTab (w : World) (g : Nat) (T : List RP) : Prop := Blk w g 67 (T.flatMap RP.cells).toArray
def TabOk (w : World) (g n : Nat) (wx : World) (T : List RP) : Prop := Ext w wx ∧ w.heap.size ≤ g ∧ RTab wx g T ∧ T.length = n + 1 ∧ ∀ x, x ≤ n → (T.getD x RP.zero).fine wx g
abbrev RP.sol (ts : List Tk) (M : Int) (i : Nat) (C : List Int → Prop) (p : RP) : Prop := Sol ts M i C p.there p.cost p.L
def SolAbove (ts : List Tk) (M : Int) (lo : Nat) (T : List RP) : Prop := ∀ x, lo ≤ x → x ≤ ts.length → (T.getD x RP.zero).sol ts M x (fun _ => True)
def ZeroBelow (hi : Nat) (T : List RP) : Prop := ∀ x, x < hi → T.getD x RP.zero = RP.zero

theorem RP.fine.ext {w w' : World} {g : Nat} {p : RP} (h : p.fine w g) (hE : Ext w w') : p.fine w' g := ⟨h.1.ext hE, h.2⟩
theorem RP.fine.set {w : World} {g o : Nat} {vs : List Value} {p : RP} (h : p.fine w g) : p.fine (w.setCells g o vs) g :=
  ⟨h.1.keep (by rw [setCells_size]; omega) fun _ ad ha hlt => World.heap_setCells_other w g o vs hlt (by have := h.2 ad ha; omega), h.2⟩
theorem TabOk.ext {w w1 w2 : World} {g n : Nat} {T : List RP} (h : TabOk w g n w1 T) (hE : Ext w1 w2) : TabOk w g n w2 T := by
  obtain ⟨h1, h2, h3, h4, h5⟩ := h
  exact ⟨Ext.trans h1 hE, h2, h3.ext hE, h4, fun x hx => (h5 x hx).ext hE⟩
theorem TabOk.put {w w1 : World} {g n : Nat} {T : List RP} (h : TabOk w g n w1 T) {i : Nat} (hi : i ≤ n) {p : RP} (hp : p.fine w1 g) : TabOk w g n (w1.setCells g (i * 3) p.cells) (T.set i p) := by
  obtain ⟨h1, h2, h3, h4, h5⟩ := h
  refine ⟨Ext.setCells h2 _ _ _ h1, h2, Blk.setAt h3 (by omega) RP.len (by omega) p, by rw [List.length_set]; exact h4, fun x hx => ?_⟩
  by_cases e : i = x
  · subst e
    rw [getD_set_self _ _ _ _ (by omega)]
    exact hp.set
  · rw [getD_set_ne _ _ _ _ _ (by omega)]
    exact (h5 x hx).set
theorem rtab_at {w : World} {g : Nat} {T : List RP} (h : RTab w g T) {x : Nat} (hx : x < T.length) :
    w.cell? ⟨g, x * 3, none⟩ = some (.bool (T.getD x RP.zero).there) ∧ w.cell? ⟨g, x * 3 + 1, none⟩ = some (.int .i64 (T.getD x RP.zero).cost) ∧ w.cell? ⟨g, x * 3 + 2, none⟩ = some (.slice (T.getD x RP.zero).A (T.getD x RP.zero).L.length (T.getD x RP.zero).c) := by
  have hx' : T[x]? = some (T.getD x RP.zero) := by rw [getD_at T x _ hx, List.getElem?_eq_getElem hx]
  exact ⟨h.tabAt RP.len hx' (j := 0) (by omega) rfl, h.tabAt RP.len hx' (j := 1) (by omega) rfl, h.tabAt RP.len hx' (j := 2) (by omega) rfl⟩
theorem infoRP : (Try.prog.info? 67).map (fun i => (i.zero, i.size, i.bytes)) = some (some (.agg #[.bool false, .int .i64 0, .slice none 0 0]), 3, 40) := by kernel_rfl
theorem mk_rtab (n : Nat) (hn : n ≤ 1000) (w : World) : (Instr.makeSlice 85 (.int .i64 ((n : Int) + 1)) (.int .i64 ((n : Int) + 1))).run Try.prog w =
    .ok (.slice (some ⟨w.heap.size, 0, none⟩) (n + 1) (n + 1)) (w.alloc (.cells ((List.replicate (n + 1) RP.zero).flatMap RP.cells).toArray 67)) := by
  obtain ⟨i0, hi, hz0, hz1, hz2⟩ := info_parts infoRP
  rw [run_make w 85 67 i0 _ Try.underlying85 hi hz0 .i64 .i64 _ _ (by omega) (Int.le_refl _) (by rw [hz2]; omega) (by omega)]
  rw [hz1, show ((n : Int) + 1).toNat = n + 1 by omega, made_flat RP.cells 3 (by omega) RP.len RP.zero (Value.agg #[.bool false, .int .i64 0, .slice none 0 0]).cells rfl]

theorem own_block_ge {w : World} {base : Nat} {e : TypeId} {size n : Nat} {A : Option Addr} {c : Nat} {xs : List Value} (h : w.ownsRow base e size (.slice A n c) n xs) : ∀ ad, A = some ad → base ≤ ad.block := fun ad ha => by
  subst ha
  exact (h.lt ad.block rfl).1
/-- append onto a new slice of one element -/
theorem run_cons (W w : World) (ty : TypeId) (j : Int) (L : List Int) (g : Nat) (A : Option Addr) (c : Nat) (hb : Blk w g 3 #[.int .i64 j]) (hL : IntSeg w A L) (hlen : L.length ≤ 1000) (hW : Ext W w) (hg : W.heap.size ≤ g) :
    ∃ A' c' w', (Builtin.append_ #[33, 33] ty #[.slice (some ⟨g, 0, none⟩) 1 1, .slice A L.length c]).run Try.prog w = .ok (.slice A' (L.length + 1) c') w' ∧ IntSeg w' A' (j :: L) ∧ (∀ ad, A' = some ad → W.heap.size ≤ ad.block) ∧ Ext W w' := by
  obtain ⟨i0, hi, hz0, hz1, hz2⟩ := info_parts (show (Try.prog.info? 3).map (fun i => (i.zero, i.size, i.bytes)) = some (some (.int .i64 0), 1, 8) by kernel_rfl)
  have hown : w.ownsRow W.heap.size 3 1 (.slice (some ⟨g, 0, none⟩) 1 1) 1 [.int .i64 j] := ⟨rfl, .inr ⟨g, 1, _, rfl, hg, hb, Nat.le_refl _, by unfold maxLen; omega, rfl, rfl⟩⟩
  cases A with
  | none =>
    have hl0 : L = [] := by
      cases L with
      | nil => rfl
      | cons x L =>
        obtain ⟨b, off, h, _⟩ := hL.2 (by simp)
        cases h
    subst hl0
    refine ⟨_, _, _, run_append_nothing w _ _ ty _ i0 Try.underlying33 hi _ 1 1 (Nat.le_refl _) _ (Src.ofNil w Try.underlying33 c), Seg.of_own hown, fun ad h => ?_, hW⟩
    cases h
    exact hg
  | some ad =>
    have hnews : ∀ k u, (L.flatMap Iv)[k]? = some u → w.cell? (ad.add k) = some u := by
      intro k u hu
      have hk := (List.getElem?_eq_some_iff.1 hu).1
      rw [flat_len Iv 1 Iv.len] at hk
      obtain ⟨b, off, h, _, hc⟩ := hL.2 (by omega)
      injection h with h
      subst h
      have hadd : (⟨b, off, none⟩ : Addr).add k = ⟨b, off + k, none⟩ := by unfold Addr.add; split <;> simp_all
      rw [hadd]
      exact hc k u hu
    obtain ⟨v', w', hr, h2, h3, _, h5⟩ := run_append_own_at (P := Try.prog) w W.heap.size _ ty _ i0 _ 1 8 Try.underlying33 hi hz0 hz1 hz2 rfl (by omega) _ 1 _ hown ad L.length c (L.flatMap Iv) (flat_len Iv 1 Iv.len L) hnews
      (fun u hu => by obtain ⟨z, _, hz⟩ := List.mem_flatMap.1 hu; exact Iv.one z u hz) (by unfold maxLen; omega) (by omega) hW.size
    rw [Nat.add_comm 1 L.length] at h2
    obtain ⟨A', c', rfl, hs, _, _⟩ := own_slice h2
    refine ⟨A', c', w', hr, hs, own_block_ge h2, Ext.own hW hown (Nat.le_refl _) h3⟩
theorem wp_cons {o : Oper} {a : Act} {K : Act → World → Prop} {Q : Exit → Act → World → Prop} (W w : World) (s x : Operand) (ho : o.op = .call { callee := .builtin .append, args := #[s, x], argTypes := #[33, 33] })
    (j : Int) (L : List Int) (g : Nat) (A : Option Addr) (c : Nat) (hs : a.eval s = .slice (some ⟨g, 0, none⟩) 1 1) (hx : a.eval x = .slice A L.length c) (hb : Blk w g 3 #[.int .i64 j]) (hL : IntSeg w A L) (hlen : L.length ≤ 1000) (hW : Ext W w) (hg : W.heap.size ≤ g)
    (h : ∀ A' c' w', IntSeg w' A' (j :: L) → (∀ ad, A' = some ad → W.heap.size ≤ ad.block) → Ext W w' → K (a.put o.dst (.slice A' (L.length + 1) c')) w') : o.wp Try.prog a w K Q := by
  obtain ⟨A', c', w', hr, h1, h2, h3⟩ := run_cons W w o.type j L g A c hb hL hlen hW hg
  unfold Oper.wp execOp
  simp only [ho, resolve, invoke, builtin, Sem.run_bind, Sem.run_pure, Result.andThen_ok, List.map_toArray, List.map_cons, List.map_nil, hs, hx, hr]
  exact h A' c' w' h1 h2 h3
theorem step_cons {ops : Array Oper} {o : Oper} {a : Act} {K : Act → World → Prop} {Q : Exit → Act → World → Prop} {E : Prop} (W w : World) (hgd : o.guard = none) (s x : Operand) (ho : o.op = .call { callee := .builtin .append, args := #[s, x], argTypes := #[33, 33] })
    (j : Int) (L : List Int) (g : Nat) (A : Option Addr) (c : Nat) (hs : a.eval s = .slice (some ⟨g, 0, none⟩) 1 1) (hx : a.eval x = .slice A L.length c) (hb : Blk w g 3 #[.int .i64 j]) (hL : IntSeg w A L) (hlen : L.length ≤ 1000) (hW : Ext W w) (hg : W.heap.size ≤ g)
    (h : ∀ A' c' w', IntSeg w' A' (j :: L) → (∀ ad, A' = some ad → W.heap.size ≤ ad.block) → Ext W w' → K (a.put o.dst (.slice A' (L.length + 1) c')) w') :
    if Region.wanted o (yielded ops a.tmps) = true then Oper.wp Try.prog o a w K Q else E := by
  have hw : Region.wanted o (yielded ops a.tmps) = true := by simp [Region.wanted, hgd]
  rw [if_pos hw]
  exact wp_cons W w s x ho j L g A c hs hx hb hL hlen hW hg h
end Go.Proofs.Ytddcgholnhhcoaa
