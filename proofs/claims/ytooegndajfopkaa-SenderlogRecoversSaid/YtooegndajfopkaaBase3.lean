/- Words for what a call leaves: a new row, nothing but draws; blocks known whole; ints. No statement of the seat is proved here. -/
import Derived.Test.YtooegndajfopkaaBase2
import Derived.Deep.LoopGhost
namespace Go.Proofs.Ytooegndajfopkaa
open Go.RowKit
set_option linter.unusedVariables false

/-- a new row -/
def RowPost (w : World) (e : TypeId) (s n : Nat) (xs : List Value) (r : Ending) (w' : World) : Prop := ∃ v, r = .returned v ∧ w'.ownsRow w.heap.size e s v n xs ∧ Ext w w'
/-- a value, and the memory as it was -/
def StillPost (w : World) (v : Value) (e : Ending) (w' : World) : Prop := e = .returned v ∧ ∃ q, w' = w.drewN q
/-- a value, and new blocks alone -/
def ExtPost (w : World) (v : Value) (e : Ending) (w' : World) : Prop := e = .returned v ∧ Ext w w'
/-- a counter that goes up to n; the memory as it was -/
def StillRel (w : World) (n : Nat) (g : Nat) (i : Value) (wr : World) : Prop := ∃ j q : Nat, j ≤ n ∧ i = .int .i64 j ∧ g = n - j ∧ wr = w.drewN q

def Iv (z : Int) : List Value := [.int .i64 z]
theorem Iv.len (z : Int) : (Iv z).length = 1 := rfl
theorem Iv.one (z : Int) : ∀ u ∈ Iv z, u.oneCell' = true := by simp [Iv, Value.oneCell']
theorem Iv.ones (l : List Int) : ∀ u ∈ l.flatMap Iv, u.oneCell' = true := by
  intro u hu
  obtain ⟨c, _, hc⟩ := List.mem_flatMap.1 hu
  exact Iv.one c u hc
abbrev IntSeg (w : World) (A : Option Addr) (l : List Int) : Prop := Seg w 1 A l.length (l.flatMap Iv)
theorem Iv.at_ {w : World} {A : Option Addr} {l : List Int} (h : IntSeg w A l) {j : Nat} (hj : j < l.length) :
    ∃ b off, A = some ⟨b, off, none⟩ ∧ w.cell? ⟨b, off + j, none⟩ = some (.int .i64 l[j]) := by
  obtain ⟨b, off, hA, _, hc⟩ := Seg.at_ h Iv.len hj
  have := hc 0 _ rfl
  exact ⟨b, off, hA, by simpa using this⟩
theorem mul_one_cell {b off j : Nat} {w : World} {v : Value} (h : w.cell? ⟨b, off + j, none⟩ = some v) : w.cell? ⟨b, off + j * 1, none⟩ = some v := by simpa using h

theorem Ext.of_grown {w w' : World} {v : Value} (hv : v.ownBlock = none) (hg : w.grownBy w' v.ownBlock) : Ext w w' :=
  ⟨hg.os, hg.tape, hg.output, hg.size, fun k hk => hg.block k hk (by rw [hv]; simp)⟩
/-- a row of the call's own grew -/
theorem Ext.own {w0 w w' : World} {e : TypeId} {base s n : Nat} {v : Value} {xs : List Value} (h : Ext w0 w) (ho : w.ownsRow base e s v n xs) (hb : w0.heap.size ≤ base) (hg : w.grownBy w' v.ownBlock) : Ext w0 w' :=
  Below.grown h hg h.size (fun k hk => by have := (ho.lt k hk).1; omega)

/-- 'append(v, x)': the element x lies in a new block of its own, whose number is spelt in whatever way -/
theorem wpList_push_at {P : Program} {α : Type} (f : α → List Value) (s bytes : Nat) (hf : ∀ a, (f a).length = s) (h1 : ∀ a, ∀ u ∈ f a, u.oneCell' = true) (hs0 : 0 < s)
    {w : World} {ops : Array Oper} {rest : List Oper} {o : Oper} {a : Act} {Q : Exit → Act → World → Prop} (hgd : o.guard = none) (so xo : Operand) (t : TypeId)
    (ho : o.op = .call { callee := .builtin .append, args := #[so, xo], argTypes := #[t, t] })
    (base : Nat) (e : TypeId) (ht : P.underlying t = some (.slice e)) (hinfo : elemOf P e = some (s, s, bytes))
    (v : Value) (l : List α) (x : α) (g : Nat) (hso : a.eval so = v) (hown : w.ownsRow base e s v l.length (l.flatMap f)) (hxo : a.eval xo = .slice (some ⟨g, 0, none⟩) 1 1) (hg : w.heap.size = g)
    (h63 : l.length + 1 ≤ maxLen) (hbytes : (l.length + 1) * bytes ≤ 140737488355328) (hbase : base ≤ w.heap.size)
    (h : ∀ v' w', w'.ownsRow base e s v' (l ++ [x]).length ((l ++ [x]).flatMap f) → w.grownBy w' v.ownBlock → wpList P ops Q rest (a.put o.dst v') w') :
    wpList P ops Q (o :: rest) a (w.alloc (.cells (f x).toArray e)) := by
  subst hg
  exact wpList_push f s bytes hf h1 hs0 hgd so xo t ho base e ht hinfo v l x hso hown hxo h63 hbytes hbase h

/-- rows of different types of elements lie in different blocks -/
theorem own_ne {w : World} {b1 b2 : Nat} {e1 e2 : TypeId} {s1 s2 n1 n2 : Nat} {v1 v2 : Value} {xs1 xs2 : List Value} (h1 : w.ownsRow b1 e1 s1 v1 n1 xs1) (h2 : w.ownsRow b2 e2 s2 v2 n2 xs2) (hne : e1 ≠ e2) :
    v1.ownBlock = none ∨ v1.ownBlock ≠ v2.ownBlock := by
  rcases h1.2 with ⟨rfl, _⟩ | ⟨g, cap, cur, rfl, _, hh, _⟩
  · exact .inl rfl
  · right
    rcases h2.2 with ⟨rfl, _⟩ | ⟨g', cap', cur', rfl, _, hh', _⟩
    · simp [Value.ownBlock]
    · intro e
      simp only [Value.ownBlock, Option.some.injEq] at e
      subst e
      rw [hh] at hh'
      injection hh' with hh'
      injection hh' with _ ht
      exact hne ht

/-- the same in a region that draws its order -/
theorem step_push_at {P : Program} {α : Type} (f : α → List Value) (s bytes : Nat) (hf : ∀ a, (f a).length = s) (h1 : ∀ a, ∀ u ∈ f a, u.oneCell' = true) (hs0 : 0 < s)
    {w : World} {ops : Array Oper} {o : Oper} {a : Act} {K : Act → World → Prop} {Q : Exit → Act → World → Prop} {E : Prop} (hgd : o.guard = none) (so xo : Operand) (t : TypeId)
    (ho : o.op = .call { callee := .builtin .append, args := #[so, xo], argTypes := #[t, t] })
    (base : Nat) (e : TypeId) (ht : P.underlying t = some (.slice e)) (hinfo : elemOf P e = some (s, s, bytes))
    (v : Value) (l : List α) (x : α) (g : Nat) (hso : a.eval so = v) (hown : w.ownsRow base e s v l.length (l.flatMap f)) (hxo : a.eval xo = .slice (some ⟨g, 0, none⟩) 1 1) (hg : w.heap.size = g)
    (h63 : l.length + 1 ≤ maxLen) (hbytes : (l.length + 1) * bytes ≤ 140737488355328) (hbase : base ≤ w.heap.size)
    (h : ∀ v' w', w'.ownsRow base e s v' (l ++ [x]).length ((l ++ [x]).flatMap f) → w.grownBy w' v.ownBlock → K (a.put o.dst v') w') :
    if Region.wanted o (yielded ops a.tmps) = true then Oper.wp P o a (w.alloc (.cells (f x).toArray e)) K Q else E := by
  subst hg
  have hw : Region.wanted o (yielded ops a.tmps) = true := by simp [Region.wanted, hgd]
  rw [if_pos hw]
  obtain ⟨i, z, hi, hz, hsz, hby, hzs⟩ := elemOf_some hinfo
  refine wp_append_own _ so xo t ho base e i z s bytes ht hi hz hsz hby hzs hs0 v l.length (l.flatMap f) hso (hown.alloc _) ⟨w.heap.size, 0, none⟩ 1 1 (f x) hxo
    (by rw [hf]; omega) ?_ (h1 x) h63 hbytes (by simp; omega) ?_
  · intro j u hu
    have hc : (w.alloc (.cells (f x).toArray e)).heap[w.heap.size]? = some (.cells (f x).toArray e (0, 0)) := heap_alloc_new w _
    have ha : (⟨w.heap.size, 0, none⟩ : Addr).add j = ⟨w.heap.size, j, none⟩ := by unfold Addr.add; split <;> simp_all
    rw [ha]
    simp only [World.cell?, hc]
    simpa using hu
  · intro v' w' h2 h3 _
    refine h v' w' ?_ ?_
    · rw [List.flatMap_append, List.length_append]
      simpa using h2
    · exact ⟨h3.os, h3.tape, h3.output, Nat.le_trans (by simp) h3.size, fun k hk hne => (h3.block k (by simp; omega) hne).trans (Below.heap_alloc w _ k hk)⟩

theorem results_tmp4 {fn : Func} {t u v x : Tmp} (h : fn.results = #[.tmp t, .tmp u, .tmp v, .tmp x]) (tmps : Array Value) (P : Program) (w : World) :
    (results fn tmps).run P w = .ok (.tuple #[tmps.getD t undef, tmps.getD u undef, tmps.getD v undef, tmps.getD x undef]) w := by simp [results, h]
end Go.Proofs.Ytooegndajfopkaa
