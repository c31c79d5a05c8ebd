/- Patterns in memory, for the maker of lineages. No statement of the seat is proved here. -/
import Derived.Test.YtcljdkjlfciacaaPast1
namespace Go.Proofs.Ytcljdkjlfciacaa
open Go.RowKit
set_option linter.unusedVariables false

/-- 'append(v, x...)' in a region that draws its order -/
theorem step_append_seg {P : Program} {w : World} {ops : Array Oper} {o : Oper} {a : Act} {K : Act → World → Prop} {Q : Exit → Act → World → Prop} {E : Prop} (hgd : o.guard = none) (so xo : Operand) (t : TypeId)
    (ho : o.op = .call { callee := .builtin .append, args := #[so, xo], argTypes := #[t, t] })
    (base : Nat) (e : TypeId) (s bytes : Nat) (hs0 : 0 < s) (ht : P.underlying t = some (.slice e)) (hinfo : elemOf P e = some (s, s, bytes))
    (v : Value) (n : Nat) (xs : List Value) (hso : a.eval so = v) (hown : w.ownsRow base e s v n xs)
    (A : Option Addr) (m c : Nat) (news : List Value) (hxo : a.eval xo = .slice A m c) (hseg : Seg w s A m news) (h1 : ∀ u ∈ news, u.oneCell' = true)
    (h63 : n + m ≤ maxLen) (hbytes : (n + m) * bytes ≤ 140737488355328) (hbase : base ≤ w.heap.size)
    (h : ∀ v' w', w'.ownsRow base e s v' (n + m) (xs ++ news) → w.grownBy w' v.ownBlock → K (a.put o.dst v') w') :
    if Region.wanted o (yielded ops a.tmps) = true then Oper.wp P o a w K Q else E := by
  have hw : Region.wanted o (yielded ops a.tmps) = true := by simp [Region.wanted, hgd]
  rw [if_pos hw]
  obtain ⟨i, z, hi, hz, hsz, hby, hzs⟩ := elemOf_some hinfo
  rcases A with _ | ad
  · have hm : m = 0 := by
      rcases Nat.eq_zero_or_pos m with h0 | h0
      · exact h0
      · obtain ⟨b, off, h, _⟩ := hseg.2 h0
        cases h
    subst hm
    have hn : news = [] := List.eq_nil_of_length_eq_zero (by have := hseg.1; omega)
    subst hn
    have hrun : (Builtin.append_ #[t, t] o.type #[v, .slice none 0 c]).run P w = .ok v w := by
      rcases hown.2 with ⟨rfl, rfl⟩ | ⟨g, cap, cur, rfl, _, _, hnc, _⟩
      · simp [Builtin.append_, run_underlying ht, sizeOf, typeInfo, hi, Builtin.lenOf, Builtin.firstCells]
      · simp [Builtin.append_, run_underlying ht, sizeOf, typeInfo, hi, Builtin.lenOf, Builtin.firstCells, hnc, storeCells]
    unfold Oper.wp execOp
    simp only [ho, resolve, invoke, builtin, Sem.run_bind, Sem.run_pure, Result.andThen_ok, List.map_toArray, List.map_cons, List.map_nil, hso, hxo, hrun]
    exact h v w (by simpa using hown) (World.grownBy.refl w _)
  · refine wp_append_own _ so xo t ho base e i z s bytes ht hi hz hsz hby hzs hs0 v n xs hso hown ad m c news hxo hseg.1 ?_ h1 h63 hbytes hbase ?_
    · intro j u hu
      have hm : 0 < m := by
        rcases Nat.eq_zero_or_pos m with h0 | h0
        · have := hseg.1
          have hj := (List.getElem?_eq_some_iff.1 hu).1
          subst h0; omega
        · exact h0
      obtain ⟨b, off, hA, _, hc⟩ := hseg.2 hm
      injection hA with hA
      subst hA
      have ha : (⟨b, off, none⟩ : Addr).add j = ⟨b, off + j, none⟩ := by unfold Addr.add; split <;> simp_all
      rw [ha]
      exact hc j u hu
    · intro v' w' h2 h3 _
      exact h v' w' h2 h3

/-- a list of checkpoints as it lies in a list of them -/
structure Kr where
  A : Option Addr
  c : Nat
  l : List Int
def Kr.cells (k : Kr) : List Value := [.slice k.A k.l.length k.c]
theorem Kr.len (k : Kr) : k.cells.length = 1 := rfl
theorem Kr.one (k : Kr) : ∀ u ∈ k.cells, u.oneCell' = true := by simp [Kr.cells, Value.oneCell']
theorem Kr.ones (l : List Kr) : ∀ u ∈ l.flatMap Kr.cells, u.oneCell' = true := by
  intro u hu
  obtain ⟨c, _, hc⟩ := List.mem_flatMap.1 hu
  exact Kr.one c u hc
/-- an arc -/
structure Ar where
  frm : Int
  idx : Int
  dst : Int
  at_ : Int
def Ar.cells (a : Ar) : List Value := [.int .i64 a.frm, .int .i64 a.idx, .int .i64 a.dst, .int .i64 a.at_]
theorem Ar.len (a : Ar) : a.cells.length = 4 := rfl
theorem Ar.one (a : Ar) : ∀ u ∈ a.cells, u.oneCell' = true := by simp [Ar.cells, Value.oneCell']
theorem Ar.ones (l : List Ar) : ∀ u ∈ l.flatMap Ar.cells, u.oneCell' = true := by
  intro u hu
  obtain ⟨c, _, hc⟩ := List.mem_flatMap.1 hu
  exact Ar.one c u hc
/-- a pattern -/
structure Pt where
  A0 : Option Addr
  c0 : Nat
  Ls : List Int
  A1 : Option Addr
  c1 : Nat
  Ks : List Kr
  v2 : Value
  As : List Ar
def Pt.cells (p : Pt) : List Value := [.slice p.A0 p.Ls.length p.c0, .slice p.A1 p.Ks.length p.c1, p.v2]
def Far (b : Nat) (A : Option Addr) : Prop := ∀ ad, A = some ad → b ≤ ad.block
/-- no part of the pattern lies in the block of its arcs -/
def PtSep (p : Pt) : Prop := ∀ g, p.v2.ownBlock = some g → (0 < p.Ls.length → ∀ ad, p.A0 = some ad → ad.block ≠ g) ∧ (0 < p.Ks.length → ∀ ad, p.A1 = some ad → ad.block ≠ g) ∧ ∀ r ∈ p.Ks, 0 < r.l.length → ∀ ad, r.A = some ad → ad.block ≠ g
structure PtMem (W : World) (b : Nat) (p : Pt) : Prop where
  l : IntSeg W p.A0 p.Ls
  lf : Far b p.A0
  lc : p.Ls.length ≤ p.c0 ∧ p.c0 ≤ maxLen
  k : Seg W 1 p.A1 p.Ks.length (p.Ks.flatMap Kr.cells)
  kf : Far b p.A1
  ks : ∀ r ∈ p.Ks, IntSeg W r.A r.l ∧ Far b r.A
  a : W.ownsRow b 86 4 p.v2 p.As.length (p.As.flatMap Ar.cells)
  sp : PtSep p
theorem Seg.grownFar {W W' : World} {s n b c : Nat} {A : Option Addr} {xs : List Value} (h : Seg W s A n xs) (hf : Far b A) (hg : W.grownBy W' (some c)) (hc : c < b) : Seg W' s A n xs :=
  h.grown hg (fun _ ad hA e => by have := hf ad hA; injection e; omega)
theorem PtMem.ext {W W' : World} {b : Nat} {p : Pt} (h : PtMem W b p) (hE : Ext W W') : PtMem W' b p :=
  ⟨h.l.ext hE, h.lf, h.lc, h.k.ext hE, h.kf, fun r hr => ⟨(h.ks r hr).1.ext hE, (h.ks r hr).2⟩, own_ext h.a hE, h.sp⟩
theorem own_keptc {w w' : World} {c base : Nat} {e : TypeId} {s n : Nat} {v : Value} {xs : List Value} (h : w.ownsRow base e s v n xs) (hg : w.grownBy w' (some c)) (hc : c < base) : w'.ownsRow base e s v n xs :=
  h.kept hg (by rcases hb : v.ownBlock with _ | g; · exact .inl rfl
                · right; intro e; have := (h.lt g hb).1; injection e; omega)
theorem PtMem.grown {W W' : World} {b c : Nat} {p : Pt} (h : PtMem W b p) (hg : W.grownBy W' (some c)) (hc : c < b) : PtMem W' b p :=
  ⟨h.l.grownFar h.lf hg hc, h.lf, h.lc, h.k.grownFar h.kf hg hc, h.kf, fun r hr => ⟨(h.ks r hr).1.grownFar (h.ks r hr).2 hg hc, (h.ks r hr).2⟩, own_keptc h.a hg hc, h.sp⟩
/-- no part of the pattern lies in block g -/
structure PtAway (g : Nat) (p : Pt) : Prop where
  l : 0 < p.Ls.length → ∀ ad, p.A0 = some ad → ad.block ≠ g
  k : 0 < p.Ks.length → ∀ ad, p.A1 = some ad → ad.block ≠ g
  ks : ∀ r ∈ p.Ks, 0 < r.l.length → ∀ ad, r.A = some ad → ad.block ≠ g
  a : p.v2.ownBlock ≠ some g
theorem Seg.under {W : World} {s n : Nat} {A : Option Addr} {xs : List Value} (h : Seg W s A n xs) (hn : 0 < n) : ∀ ad, A = some ad → ad.block < W.heap.size := fun ad e => by
  obtain ⟨b, off, hA, hb, _⟩ := h.2 hn
  rw [hA] at e
  injection e with e
  subst e
  exact hb
theorem PtMem.away {W : World} {b g : Nat} {p : Pt} (h : PtMem W b p) (hg : W.heap.size ≤ g) : PtAway g p :=
  ⟨fun hn ad e => by have := h.l.under hn ad e; omega, fun hn ad e => by have := h.k.under hn ad e; omega, fun r hr hn ad e => by have := (h.ks r hr).1.under hn ad e; omega, fun e => by have := (h.a.lt g e).2; omega⟩
theorem PtMem.put {W W' : World} {b g : Nat} {p : Pt} (h : PtMem W b p) (hw : PtAway g p) (hg : W.grownBy W' (some g)) : PtMem W' b p :=
  ⟨h.l.grown hg (fun hn ad e e' => hw.l hn ad e (by injection e')), h.lf, h.lc, h.k.grown hg (fun hn ad e e' => hw.k hn ad e (by injection e')), h.kf, fun r hr => ⟨(h.ks r hr).1.grown hg (fun hn ad e e' => hw.ks r hr hn ad e (by injection e')), (h.ks r hr).2⟩, h.a.kept hg (by
    rcases e : p.v2.ownBlock with _ | r
    · exact .inl rfl
    · right; rw [← e]; exact hw.a), h.sp⟩
def okA (Ls : List Int) (n : Nat) (a : Ar) : Prop := (0 ≤ a.frm ∧ a.frm < n) ∧ (0 ≤ a.dst ∧ a.dst < n) ∧ a.frm ≠ a.dst ∧ (0 ≤ a.idx ∧ a.idx ≤ elX Ls a.frm.toNat) ∧ (0 ≤ a.at_ ∧ a.at_ ≤ elX Ls a.dst.toNat)
/-- each index of each process has a cut that is closed under the arcs and goes no farther in the process itself -/
def PtGood (Ls : List Int) (As : List Ar) : Prop := ∀ q, q < Ls.length → ∀ k : Int, 0 ≤ k → k ≤ elX Ls q → ∃ V : Nat → Int, V q = k ∧ (∀ r, r < Ls.length → 0 ≤ V r ∧ V r ≤ elX Ls r) ∧ ∀ a ∈ As, 0 < a.at_ → a.at_ ≤ V a.dst.toNat → a.idx ≤ V a.frm.toNat
structure PtOk (n N : Nat) (p : Pt) : Prop where
  ll : p.Ls.length = n
  kl : p.Ks.length = n
  lb : ∀ q, q < n → 0 ≤ elX p.Ls q ∧ elX p.Ls q ≤ N
  kb : ∀ r ∈ p.Ks, 0 < r.l.length ∧ r.l.length ≤ N + 1
  al : p.As.length ≤ N
  ab : ∀ a ∈ p.As, okA p.Ls n a
  gd : PtGood p.Ls p.As
theorem PtOk.mono {n N M : Nat} {p : Pt} (h : PtOk n N p) (hNM : N ≤ M) : PtOk n M p :=
  ⟨h.ll, h.kl, fun q hq => by have := h.lb q hq; omega, fun r hr => by have := h.kb r hr; omega, by have := h.al; omega, h.ab, h.gd⟩
/-- a process has one more event -/
def upL (Ls : List Int) (q : Nat) : List Int := Ls.set q (elX Ls q + 1)
theorem upL_at {Ls : List Int} {q r : Nat} (hq : q < Ls.length) : elX (upL Ls q) r = if r = q then elX Ls q + 1 else elX Ls r := elX_set _ _ _ _ hq
theorem upL_le {Ls : List Int} {q r : Nat} (hq : q < Ls.length) : elX Ls r ≤ elX (upL Ls q) r := by
  rw [upL_at hq]; split
  · rename_i e; subst e; omega
  · omega
theorem okA_up {Ls : List Int} {n q : Nat} {a : Ar} (h : okA Ls n a) (hq : q < Ls.length) : okA (upL Ls q) n a := by
  obtain ⟨h1, h2, h3, h4, h5⟩ := h
  have := upL_le (r := a.frm.toNat) hq
  have := upL_le (r := a.dst.toNat) hq
  exact ⟨h1, h2, h3, by omega, by omega⟩

theorem PtGood.sub {Ls : List Int} {As Bs : List Ar} (h : PtGood Ls As) (hs : ∀ a ∈ Bs, 0 < a.at_ → a ∈ As) : PtGood Ls Bs := fun q hq k h0 h1 => by
  obtain ⟨V, hV, hb, hc⟩ := h q hq k h0 h1
  exact ⟨V, hV, hb, fun a ha hp => hc a (hs a ha hp) hp⟩
theorem PtGood.tick {Ls : List Int} {As : List Ar} {n q0 : Nat} (h : PtGood Ls As) (hok : ∀ a ∈ As, okA Ls n a) (hn : Ls.length = n) (hq0 : q0 < Ls.length) (hL : 0 ≤ elX Ls q0) : PtGood (upL Ls q0) As := fun q hq k h0 h1 => by
  have hl : (upL Ls q0).length = Ls.length := List.length_set
  rw [hl] at hq
  rw [upL_at hq0] at h1
  by_cases hk : k ≤ elX Ls q
  · obtain ⟨V, hV, hb, hc⟩ := h q hq k h0 hk
    refine ⟨V, hV, fun r hr => ?_, hc⟩
    rw [hl] at hr
    have := hb r hr
    have := upL_le (r := r) hq0
    omega
  · have hqq : q = q0 := by
      by_cases e : q = q0
      · exact e
      · rw [if_neg e] at h1; omega
    subst hqq
    rw [if_pos rfl] at h1
    obtain ⟨V, hV, hb, hc⟩ := h q hq (elX Ls q) hL (Int.le_refl _)
    refine ⟨fun r => if r = q then k else V r, if_pos rfl, fun r hr => ?_, fun a ha hp hle => ?_⟩
    · rw [hl] at hr
      have := hb r hr
      rw [upL_at hq0]
      dsimp only
      by_cases e : r = q
      · subst e; rw [if_pos rfl, if_pos rfl]; omega
      · rw [if_neg e, if_neg e]; omega
    · obtain ⟨h1', h2', h3', h4', h5'⟩ := hok a ha
      have hx : a.idx ≤ V a.frm.toNat := hc a ha hp (by
        dsimp only at hle
        by_cases e : a.dst.toNat = q
        · rw [e] at h5' ⊢; omega
        · rw [if_neg e] at hle; exact hle)
      dsimp only
      by_cases e : a.frm.toNat = q
      · rw [if_pos e]; rw [e] at hx; omega
      · rw [if_neg e]; exact hx
theorem PtGood.arc {Ls : List Int} {As : List Ar} {n q0 : Nat} {fr sn : Int} (h : PtGood Ls As) (hok : ∀ a ∈ As, okA Ls n a) (hn : Ls.length = n) (hq0 : q0 < Ls.length) (hf0 : 0 ≤ fr) (hf1 : fr < n) (hfq : fr ≠ (q0 : Int)) (hs0 : 0 ≤ sn) (hs1 : sn ≤ elX Ls fr.toNat) (hL : 0 ≤ elX Ls q0) :
    PtGood (upL Ls q0) (As ++ [(⟨fr, sn, (q0 : Int), elX Ls q0 + 1⟩ : Ar)]) := fun q hq k h0 h1 => by
  have hl : (upL Ls q0).length = Ls.length := List.length_set
  rw [hl] at hq
  rw [upL_at hq0] at h1
  by_cases hk : k ≤ elX Ls q
  · obtain ⟨V, hV, hb, hc⟩ := h q hq k h0 hk
    refine ⟨V, hV, fun r hr => ?_, fun a ha hp hle => ?_⟩
    · rw [hl] at hr
      have := hb r hr
      have := upL_le (r := r) hq0
      omega
    · rcases List.mem_append.1 ha with ha | ha
      · exact hc a ha hp hle
      · rw [List.mem_singleton] at ha
        subst ha
        dsimp only at hle
        have := hb q0 hq0
        rw [show ((q0 : Int)).toNat = q0 by omega] at hle
        omega
  · have hqq : q = q0 := by
      by_cases e : q = q0
      · exact e
      · rw [if_neg e] at h1; omega
    subst hqq
    rw [if_pos rfl] at h1
    obtain ⟨V, hV, hb, hc⟩ := h q hq (elX Ls q) hL (Int.le_refl _)
    obtain ⟨U, hU, hbU, hcU⟩ := h fr.toNat (by omega) sn hs0 hs1
    have hUq := hbU q hq
    refine ⟨fun r => if r = q then k else max (V r) (U r), if_pos rfl, fun r hr => ?_, fun a ha hp hle => ?_⟩
    · rw [hl] at hr
      have := hb r hr
      have := hbU r hr
      rw [upL_at hq0]
      dsimp only
      by_cases e : r = q
      · subst e; rw [if_pos rfl, if_pos rfl]; omega
      · rw [if_neg e, if_neg e]; omega
    · have key : ∀ i : Int, i ≤ max (V a.frm.toNat) (U a.frm.toNat) → i ≤ (if a.frm.toNat = q then k else max (V a.frm.toNat) (U a.frm.toNat)) := fun i hi => by
        by_cases e : a.frm.toNat = q
        · rw [if_pos e]; rw [e] at hi; omega
        · rw [if_neg e]; exact hi
      dsimp only
      refine key _ ?_
      dsimp only at hle
      rcases List.mem_append.1 ha with ha | ha
      · obtain ⟨h1', h2', h3', h4', h5'⟩ := hok a ha
        by_cases e : a.dst.toNat = q
        · have := hc a ha hp (by rw [e] at h5' ⊢; omega)
          omega
        · rw [if_neg e] at hle
          by_cases hv : a.at_ ≤ V a.dst.toNat
          · have := hc a ha hp hv; omega
          · have := hcU a ha hp (by omega); omega
      · rw [List.mem_singleton] at ha
        subst ha
        dsimp only
        omega

theorem blk3 {w : World} {g : Nat} {t : TypeId} {a b c : Value} (h : Blk w g t #[a, b, c]) : (w.cell? ⟨g, 0, none⟩ = some a ∧ w.cell? ⟨g, 1, none⟩ = some b ∧ w.cell? ⟨g, 2, none⟩ = some c) ∧ (w.frozen? ⟨g, 0, none⟩ = false ∧ w.frozen? ⟨g, 1, none⟩ = false ∧ w.frozen? ⟨g, 2, none⟩ = false) := by simp [h.cell, h.frozen]
set_option maxHeartbeats 800000 in
theorem proc_any (A0 : Option Addr) (n c0 : Nat) (v1 v2 : Value) (q : Int) (w : World) (h0 : 0 ≤ q) (h1 : q < (n : Int)) :
    Calls Try.prog 68 #[.agg #[.slice A0 n c0, v1, v2], .int .i64 q] w (ExtPost w (.bool true)) := by
  have hX := (Ext.refl w).allocs (.cells #[.slice A0 n c0, v1, v2] 32)
  have d0 : decide (0 ≤ q) = true := decide_eq_true h0
  have d1 : decide (q < (n : Int)) = true := decide_eq_true h1
  go_enter Try.func68, Try.ntmps68
  go_wp2_with fail
  go_ret
  exact ⟨rfl, hX⟩
end Go.Proofs.Ytcljdkjlfciacaa
