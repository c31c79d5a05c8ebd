/- More on memory: an append of a whole slice, stores into a row. No statement of the seat is proved here. -/
import Derived.Test.YtooegndajfopkaaBase
import Derived.WalkSpells
namespace Go.Proofs.Ytooegndajfopkaa
open Go.RowKit
set_option linter.unusedVariables false

/-- 'append(v, xs...)': the source is nil, empty or not -/
theorem wpList_append_seg {P : Program} {w : World} {ops : Array Oper} {rest : List Oper} {o : Oper} {a : Act} {Q : Exit → Act → World → Prop} (hgd : o.guard = none) (so xo : Operand) (t : TypeId)
    (ho : o.op = .call { callee := .builtin .append, args := #[so, xo], argTypes := #[t, t] })
    (base : Nat) (e : TypeId) (s bytes : Nat) (hs0 : 0 < s) (ht : P.underlying t = some (.slice e)) (hinfo : elemOf P e = some (s, s, bytes))
    (v : Value) (n : Nat) (xs : List Value) (hso : a.eval so = v) (hown : w.ownsRow base e s v n xs)
    (A : Option Addr) (m c : Nat) (news : List Value) (hxo : a.eval xo = .slice A m c) (hseg : Seg w s A m news) (h1 : ∀ u ∈ news, u.oneCell' = true)
    (h63 : n + m ≤ maxLen) (hbytes : (n + m) * bytes ≤ 140737488355328) (hbase : base ≤ w.heap.size)
    (h : ∀ v' w', w'.ownsRow base e s v' (n + m) (xs ++ news) → w.grownBy w' v.ownBlock → wpList P ops Q rest (a.put o.dst v') w') :
    wpList P ops Q (o :: rest) a w := by
  obtain ⟨i, z, hi, hz, hsz, hby, hzs⟩ := elemOf_some hinfo
  rcases A with _ | ad
  · have hm : m = 0 := by
      rcases Nat.eq_zero_or_pos m with h0 | h0
      · exact h0
      · obtain ⟨b, off, h, _⟩ := hseg.2 h0
        cases h
    subst hm
    have hn : news = [] := List.eq_nil_of_length_eq_zero (by have := hseg.1; omega)
    subst hn
    have hrun : (Builtin.append_ #[t, t] o.type #[v, .slice none 0 c]).run P w = .ok v w := by
      rcases hown.2 with ⟨rfl, rfl⟩ | ⟨g, cap, cur, rfl, _, _, hnc, _⟩
      · simp [Builtin.append_, run_underlying ht, sizeOf, typeInfo, hi, Builtin.lenOf, Builtin.firstCells]
      · simp [Builtin.append_, run_underlying ht, sizeOf, typeInfo, hi, Builtin.lenOf, Builtin.firstCells, hnc, storeCells]
    refine wpList_plain hgd fun K hK => ?_
    unfold Oper.wp execOp
    simp only [ho, resolve, invoke, builtin, Sem.run_bind, Sem.run_pure, Result.andThen_ok, List.map_toArray, List.map_cons, List.map_nil, hso, hxo, hrun]
    exact hK _ _ (h v w (by simpa using hown) (World.grownBy.refl w _))
  · refine wpList_append_own _ hgd so xo t ho base e i z s bytes ht hi hz hsz hby hzs hs0 v n xs hso hown ad m c news hxo hseg.1 ?_ h1 h63 hbytes hbase ?_
    · intro j u hu
      have hm : 0 < m := by
        rcases Nat.eq_zero_or_pos m with h0 | h0
        · have := hseg.1
          have hj := (List.getElem?_eq_some_iff.1 hu).1
          subst h0; omega
        · exact h0
      obtain ⟨b, off, hA, _, hc⟩ := hseg.2 hm
      injection hA with hA
      subst hA
      have ha : (⟨b, off, none⟩ : Addr).add j = ⟨b, off + j, none⟩ := by unfold Addr.add; split <;> simp_all
      rw [ha]
      exact hc j u hu
    · intro v' w' h2 h3 _
      exact h v' w' h2 h3

/-! ### stores into a row of the call's own -/
def setAll : List Value → Nat → List Value → List Value
  | xs, _, [] => xs
  | xs, o, v :: vs => setAll (xs.set o v) (o + 1) vs
theorem setAll_get (vs : List Value) : ∀ (xs : List Value) (o q : Nat), (setAll xs o vs)[q]? = if o ≤ q ∧ q < o + vs.length ∧ q < xs.length then vs[q - o]? else xs[q]? := by
  induction vs with
  | nil => intro xs o q; rw [if_neg (by simp; omega)]; rfl
  | cons v vs ih =>
    intro xs o q
    rw [setAll, ih]
    simp only [List.length_set, List.length_cons]
    by_cases h1 : q = o
    · subst h1
      rw [if_neg (by omega)]
      by_cases hl : q < xs.length
      · rw [if_pos ⟨by omega, by omega, hl⟩]; simp [hl]
      · rw [if_neg (by omega), List.getElem?_eq_none (by simp; omega), List.getElem?_eq_none (by omega)]
    · rw [List.getElem?_set_ne (by omega)]
      by_cases h2 : o + 1 ≤ q ∧ q < o + 1 + vs.length ∧ q < xs.length
      · rw [if_pos h2, if_pos (by omega), show q - o = (q - (o + 1)) + 1 by omega]; simp
      · rw [if_neg h2, if_neg (by omega)]
theorem setAll_flat {α : Type} (f : α → List Value) (s : Nat) (hs : 0 < s) (hf : ∀ a, (f a).length = s) (l : List α) (j : Nat) (x : α) (hj : j < l.length) : setAll (l.flatMap f) (j * s) (f x) = (l.set j x).flatMap f := by
  refine List.ext_getElem? fun q => ?_
  rw [setAll_get, hf, flat_len f s hf]
  by_cases hq : q < l.length * s
  · have hd : q / s < l.length := Nat.div_lt_of_lt_mul (by rw [Nat.mul_comm]; exact hq)
    have hm := Nat.mod_lt q hs
    have e : q / s * s + q % s = q := by rw [Nat.mul_comm]; exact Nat.div_add_mod q s
    have hr := flat_get f s hf (l.set j x) (q / s) (q % s) ((l.set j x)[q / s]'(by simpa using hd)) (List.getElem?_eq_getElem (by simpa using hd)) hm
    rw [e] at hr
    rw [hr]
    by_cases hqj : q / s = j
    · have e2 : j * s + q % s = q := by rw [← hqj]; exact e
      rw [if_pos ⟨by omega, by omega, by omega⟩]
      have : (l.set j x)[q / s]'(by simpa using hd) = x := by simp [hqj]
      rw [this]
      congr 1; omega
    · have h0 := flat_get f s hf l (q / s) (q % s) l[q / s] (List.getElem?_eq_getElem hd) hm
      rw [e] at h0
      have hn : ¬ (j * s ≤ q ∧ q < j * s + s ∧ q < l.length * s) := by
        rintro ⟨h1, h2, _⟩
        apply hqj
        have a1 : j ≤ q / s := (Nat.le_div_iff_mul_le hs).2 h1
        have a2 : q / s < j + 1 := (Nat.div_lt_iff_lt_mul hs).2 (by rw [Nat.add_mul]; omega)
        omega
      rw [if_neg hn, h0]
      have : (l.set j x)[q / s]'(by simpa using hd) = l[q / s] := by rw [List.getElem_set_ne (by omega)]
      rw [this]
  · rw [if_neg (by omega), List.getElem?_eq_none (by rw [flat_len f s hf]; omega), List.getElem?_eq_none (by rw [flat_len f s hf]; simp; omega)]

theorem Ext.set {w w' : World} (h : Ext w w') {b o : Nat} (hb : w.heap.size ≤ b) (v : Value) : Ext w (w'.setCell ⟨b, o, none⟩ v) := Below.setCell h hb v
theorem own_ext {w w' : World} {base : Nat} {e : TypeId} {size n : Nat} {v : Value} {xs : List Value} (h : w.ownsRow base e size v n xs) (hE : Ext w w') : w'.ownsRow base e size v n xs :=
  h.kept (row := none) ⟨hE.os, hE.tape, hE.output, hE.size, fun k hk _ => hE.block k hk⟩ (by cases hv : v.ownBlock <;> simp)
theorem own_base {w : World} {base base' : Nat} {e : TypeId} {size n : Nat} {v : Value} {xs : List Value} (h : w.ownsRow base e size v n xs) (hb : base' ≤ base) : w.ownsRow base' e size v n xs := by
  obtain ⟨h1, h2⟩ := h
  rcases h2 with h2 | ⟨g, cap, cur, hv, hg, r⟩
  · exact ⟨h1, .inl h2⟩
  · exact ⟨h1, .inr ⟨g, cap, cur, hv, by omega, r⟩⟩

end Go.Proofs.Ytooegndajfopkaa
