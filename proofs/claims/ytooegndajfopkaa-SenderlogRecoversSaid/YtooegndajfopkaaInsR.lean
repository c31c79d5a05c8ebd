/- Insertion into a row of receipts that the call owns. No statement of the seat is proved here. -/
import Derived.Test.YtooegndajfopkaaCatR
import Derived.StillTailTactics
namespace Go.Proofs.Ytooegndajfopkaa
open Go.RowKit Go.Sort
set_option linter.unusedVariables false
set_option maxRecDepth 100000

theorem setAll_split (xs vs : List Value) (o : Nat) (h : o + vs.length ≤ xs.length) : setAll xs o vs = xs.take o ++ vs ++ xs.drop (o + vs.length) := by
  apply List.ext_getElem?
  intro q
  rw [setAll_get]
  by_cases h1 : q < o
  · rw [if_neg (by omega), List.append_assoc, List.getElem?_append_left (by rw [List.length_take]; omega), List.getElem?_take_of_lt h1]
  · by_cases h2 : q < o + vs.length
    · rw [if_pos ⟨by omega, h2, by omega⟩, List.append_assoc, List.getElem?_append_right (by rw [List.length_take]; omega), List.getElem?_append_left (by rw [List.length_take]; omega), List.length_take, Nat.min_eq_left (by omega)]
    · rw [if_neg (by omega), List.getElem?_append_right (by rw [List.length_append, List.length_take]; omega), List.getElem?_drop, List.length_append, List.length_take, Nat.min_eq_left (by omega)]
      congr 1
      omega
theorem drop_flat (l : List Rc) (k : Nat) (hk : k ≤ l.length) : (l.drop k).flatMap Rc.cells = (l.flatMap Rc.cells).drop (k * 3) := by
  have e : l.flatMap Rc.cells = (l.take k).flatMap Rc.cells ++ (l.drop k).flatMap Rc.cells := by rw [← List.flatMap_append, List.take_append_drop]
  have hA : ((l.take k).flatMap Rc.cells).length = k * 3 := by rw [flat_len Rc.cells 3 Rc.len, List.length_take, Nat.min_eq_left hk]
  rw [e, ← hA]
  exact List.drop_left.symm
theorem setAll_flats (X Y : List Rc) (r : Nat) (h : r + Y.length ≤ X.length) : setAll (X.flatMap Rc.cells) (r * 3) (Y.flatMap Rc.cells) = (X.take r ++ Y ++ X.drop (r + Y.length)).flatMap Rc.cells := by
  have hY := flat_len Rc.cells 3 Rc.len Y
  have hX := flat_len Rc.cells 3 Rc.len X
  rw [setAll_split _ _ _ (by omega), List.flatMap_append, List.flatMap_append, take_flat X r (by omega), drop_flat X (r + Y.length) h, hY]
  congr 2
  omega
/-- stores into a row that the call owns -/
theorem own_sets {w : World} {base g n cap : Nat} {xs vs : List Value} {o : Nat} (h : w.ownsRow base 54 3 (.slice (some ⟨g, 0, none⟩) n cap) n xs) (hl : o + vs.length ≤ xs.length) : (w.setCells g o vs).ownsRow base 54 3 (.slice (some ⟨g, 0, none⟩) n cap) n (setAll xs o vs) := by
  refine ⟨by rw [setAll_len]; exact h.1, .inr ?_⟩
  rcases h.2 with ⟨hv, _⟩ | ⟨g', cap', cur, hv, hb, hh, hc, hm, hs, ht⟩
  · injection hv with hv; cases hv
  · injection hv with hv _ hcap
    injection hv with hv
    injection hv with hv _
    subst hv hcap
    refine ⟨g, cap, (setAll cur.toList o vs).toArray, rfl, hb, heap_sets vs o w cur.toList hh, hc, hm, by simp only [List.size_toArray, setAll_len, Array.length_toList]; exact hs, ?_⟩
    have hxl : xs.length = n * 3 := h.1
    have hcl : n * 3 ≤ cur.toList.length := by
      have := congrArg List.length ht
      rw [List.length_take, hxl] at this
      omega
    show (setAll cur.toList o vs).take (n * 3) = setAll xs o vs
    apply List.ext_getElem?
    intro q
    by_cases hq : q < n * 3
    · rw [List.getElem?_take_of_lt hq, setAll_get, setAll_get]
      have hcx : cur.toList[q]? = xs[q]? := by rw [← ht, List.getElem?_take_of_lt hq]
      by_cases hin : o ≤ q ∧ q < o + vs.length
      · rw [if_pos ⟨hin.1, hin.2, by omega⟩, if_pos ⟨hin.1, hin.2, by omega⟩]
      · rw [if_neg (fun h => hin ⟨h.1, h.2.1⟩), if_neg (fun h => hin ⟨h.1, h.2.1⟩), hcx]
    · rw [List.getElem?_eq_none (by rw [List.length_take, setAll_len]; omega), List.getElem?_eq_none (by rw [setAll_len]; omega)]
theorem ins_list {out : List Rc} {r : Nat} (x : Rc) (hr : r < out.length) : (out.take (r + 1) ++ out.drop r).set r x = out.take r ++ x :: out.drop r := by
  rw [List.take_succ_eq_append_getElem hr, List.append_assoc, List.set_append_right _ _ (by rw [List.length_take]; omega), List.length_take, Nat.min_eq_left (by omega), Nat.sub_self]
  rfl
/-- copy within a row, by one place -/
theorem run_copy_rc (w : World) (ty : TypeId) (g r n dc sc : Nat) (X : List Rc) (h : Row w g X) (hX : X.length = n + 1) (hr : r < n) :
    (Builtin.copy_ #[47, 47] ty #[.slice (some ⟨g, (r + 1) * 3, none⟩) (n - r) dc, .slice (some ⟨g, r * 3, none⟩) (n + 1 - r) sc]).run Try.prog w = .ok (goInt (n - r : Nat)) (w.setCells g ((r + 1) * 3) (((X.drop r).take (n - r)).flatMap Rc.cells)) := by
  obtain ⟨i0, hi, hz0, hz1, hz2⟩ := info_parts infoRc
  have hfl := flat_len Rc.cells 3 Rc.len X
  have hcl : (((X.drop r).take (n - r)).flatMap Rc.cells).length = (n - r) * 3 := by rw [flat_len Rc.cells 3 Rc.len, List.length_take, List.length_drop]; congr 1; omega
  have hsrc : ∀ j v, (((X.drop r).take (n - r)).flatMap Rc.cells)[j]? = some v → w.cell? ((⟨g, r * 3, none⟩ : Addr).add j) = some v := by
    intro j v hv
    have hj := (List.getElem?_eq_some_iff.1 hv).1
    rw [hcl] at hj
    rw [take_flat _ _ (by rw [List.length_drop]; omega), drop_flat X r (by omega), List.getElem?_take_of_lt hj, List.getElem?_drop] at hv
    have hadd : (⟨g, r * 3, none⟩ : Addr).add j = ⟨g, r * 3 + j, none⟩ := by unfold Addr.add; split <;> simp_all
    rw [hadd]
    exact (h.2 _ v hv).1
  have ho := Rc.ones ((X.drop r).take (n - r))
  generalize ((X.drop r).take (n - r)).flatMap Rc.cells = cs at *
  have hfc := run_firstCells_some (P := Try.prog) w 3 (n - r) ⟨g, r * 3, none⟩ (n + 1 - r) sc cs hcl hsrc
  have hst := run_storeCells_cells (P := Try.prog) g ((r + 1) * 3) cs 0 w (fun j hj => by
      have hj' : (r + 1) * 3 + j < (X.flatMap Rc.cells).length := by omega
      rw [Nat.add_zero, (h.2 _ _ (List.getElem?_eq_getElem hj')).1]; rfl) (fun j hj => by
      have hj' : (r + 1) * 3 + j < (X.flatMap Rc.cells).length := by omega
      rw [Nat.add_zero]; exact (h.2 _ _ (List.getElem?_eq_getElem hj')).2) ho
  simp only [Nat.add_zero] at hst
  have hmin : Nat.min (n + 1 - r) (n - r) = n - r := by
    show min (n + 1 - r) (n - r) = n - r
    omega
  simp [Builtin.copy_, run_underlying Try.underlying47, Builtin.lenOf, sizeOf, typeInfo, hi, hz1, hmin, hfc, hst]
theorem run_copy_none (w : World) (ty : TypeId) (d s : Option Addr) (dc sl sc : Nat) :
    (Builtin.copy_ #[47, 47] ty #[.slice d 0 dc, .slice s sl sc]).run Try.prog w = .ok (goInt 0) w := by
  obtain ⟨i0, hi, hz0, hz1, hz2⟩ := info_parts infoRc
  have hl : ∀ (x : Addr), (loadCells x 0).run Try.prog w = .ok #[] w := fun x => by simpa using run_loadCells_list (P := Try.prog) w x [] (by simp)
  cases d <;> cases s <;> simp [Builtin.copy_, run_underlying Try.underlying47, Builtin.lenOf, Builtin.firstCells, sizeOf, typeInfo, hi, storeCells, hl]
theorem Row.atR {w : World} {g : Nat} {l : List Rc} (h : Row w g l) {i : Nat} (hi : i < l.length) : w.cell? ⟨g, i * 3, none⟩ = some (.int .i64 l[i].frm) ∧ w.cell? ⟨g, i * 3 + 1, none⟩ = some (.int .i64 l[i].ssn) ∧ w.cell? ⟨g, i * 3 + 2, none⟩ = some (.int .i64 l[i].val) := by
  have hc : ∀ o u, o < 3 → (l[i]).cells[o]? = some u → w.cell? ⟨g, i * 3 + o, none⟩ = some u := fun o u ho hu => (h.2 (i * 3 + o) u (by rw [flat_get Rc.cells 3 Rc.len l i o l[i] (List.getElem?_eq_getElem hi) ho]; exact hu)).1
  exact ⟨hc 0 _ (by omega) rfl, hc 1 _ (by omega) rfl, hc 2 _ (by omega) rfl⟩
theorem Row.frzR {w : World} {g : Nat} {l : List Rc} (h : Row w g l) {i : Nat} (hi : i < l.length) : w.frozen? ⟨g, i * 3, none⟩ = false ∧ w.frozen? ⟨g, i * 3 + 1, none⟩ = false ∧ w.frozen? ⟨g, i * 3 + 2, none⟩ = false := by
  have hc : ∀ o, o < 3 → w.frozen? ⟨g, i * 3 + o, none⟩ = false := fun o ho => (h.2 (i * 3 + o) _ (List.getElem?_eq_getElem (by rw [flat_len Rc.cells 3 Rc.len]; omega))).2
  exact ⟨hc 0 (by omega), hc 1 (by omega), hc 2 (by omega)⟩
def putR (W : World) (g o : Nat) (k : Rc) : World := ((W.setCell ⟨g, o, none⟩ (.int .i64 k.frm)).setCell ⟨g, o + 1, none⟩ (.int .i64 k.ssn)).setCell ⟨g, o + 2, none⟩ (.int .i64 k.val)
theorem putR_eq (W : World) (g o : Nat) (k : Rc) : W.setCells g o k.cells = putR W g o k := rfl
abbrev zRc : Rc := ⟨0, 0, 0⟩
theorem ext_grown {w w' : World} (h : Ext w w') (row : Option Nat) : w.grownBy w' row := ⟨h.os, h.tape, h.output, h.size, fun k hk _ => h.block k hk⟩
theorem grown_trans {a b c : World} {r : Option Nat} (h : a.grownBy b r) (k : b.grownBy c r) : a.grownBy c r := ⟨k.os.trans h.os, k.tape.trans h.tape, k.output.trans h.output, Nat.le_trans h.size k.size, fun i hi hne => (k.block i (Nat.lt_of_lt_of_le hi h.size) hne).trans (h.block i hi hne)⟩
theorem own_lt {w : World} {base : Nat} {e : TypeId} {s n : Nat} {v : Value} {xs : List Value} (h : w.ownsRow base e s v n xs) : ∀ q, v.ownBlock = some q → q < w.heap.size := fun q hq => (h.lt q hq).2
theorem own_extD {w w' : World} {base : Nat} {e : TypeId} {s n : Nat} {v : Value} {xs : List Value} (h : w.ownsRow base e s v n xs) (hE : Ext w w') : w'.ownsRow base e s v n xs := h.kept (ext_grown hE none) (by cases hq : v.ownBlock <;> simp)
theorem run_from (w : World) (g n cap l : Nat) (li : Int) (hli : li = l) (hl : l ≤ n) : (Instr.slice 47 (.slice (some ⟨g, 0, none⟩) n cap) (some (.int .i64 li)) none none).run Try.prog w = .ok (.slice (some (if cap = l then ⟨g, 0, none⟩ else ⟨g, l * 3, none⟩)) (n - l) (cap - l)) w := by
  subst hli
  obtain ⟨i0, hi, hz0, hz1, hz2⟩ := info_parts infoRc
  have h1 : (0 : Int) ≤ (l : Int) := by omega
  have h2 : (l : Int) ≤ (n : Int) := by omega
  by_cases hc : cap = l
  · simp [Instr.slice, Instr.sliceBounds, run_underlying Try.underlying47, go_sem, sizeOf, typeInfo, hi, hz1, h1, h2, hc]
  · simp [Instr.slice, Instr.sliceBounds, run_underlying Try.underlying47, go_sem, sizeOf, typeInfo, hi, hz1, h1, h2, hc]
theorem wpList_pushZ {ops : Array Oper} {rest : List Oper} {o : Oper} {ac : Act} {Q : Exit → Act → World → Prop} (W : World) (hgd : o.guard = none) (so xo : Operand) (ho : o.op = .call { callee := .builtin .append, args := #[so, xo], argTypes := #[47, 47] })
    (base : Nat) (v : Value) (out : List Rc) (hso : ac.eval so = v) (hown : W.ownsRow base 54 3 v out.length (out.flatMap Rc.cells)) (hxo : ac.eval xo = .slice (some ⟨W.heap.size, 0, none⟩) 1 1) (hl : out.length ≤ 2000) (hbase : base ≤ W.heap.size)
    (h : ∀ g cap w', w'.ownsRow base 54 3 (.slice (some ⟨g, 0, none⟩) (out.length + 1) cap) (out.length + 1) ((out ++ [zRc]).flatMap Rc.cells) → out.length + 1 ≤ cap → cap ≤ maxLen → W.grownBy w' v.ownBlock → (v.ownBlock = some g ∨ W.heap.size < g) → wpList Try.prog ops Q rest (ac.put o.dst (.slice (some ⟨g, 0, none⟩) (out.length + 1) cap)) w') :
    wpList Try.prog ops Q (o :: rest) ac (W.alloc (.cells zRc.cells.toArray 54)) := by
  obtain ⟨i0, hi, hz0, hz1, hz2⟩ := info_parts infoRc
  have hO := own_extD hown ((Ext.refl W).allocs (.cells zRc.cells.toArray 54))
  have hB := Blk.new W 54 zRc.cells.toArray
  refine wpList_append_own_at (P := Try.prog) _ hgd so xo _ ho base _ i0 _ 3 24 Try.underlying47 hi hz0 hz1 hz2 rfl (by omega) v out.length _ hso hO ⟨W.heap.size, 0, none⟩ 1 1 zRc.cells hxo rfl (fun j u hu => ?_) (Rc.one zRc) (by unfold maxLen; omega) (by omega) (by simp; omega) ?_
  · have hadd : (⟨W.heap.size, 0, none⟩ : Addr).add j = ⟨W.heap.size, j, none⟩ := by unfold Addr.add; split <;> simp_all
    rw [hadd, hB.cell]
    simpa using hu
  · intro v' w' hown' hg' _ hblk
    obtain ⟨A', c', rfl, _, hc, hcm⟩ := own_slice hown'
    obtain ⟨g, rfl⟩ : ∃ g, A' = some ⟨g, 0, none⟩ := by
      rcases hown'.2 with ⟨_, h0⟩ | ⟨g, _, _, hv, _⟩
      · omega
      · injection hv with hv _ _
        exact ⟨g, hv⟩
    refine h g c' w' (by rw [List.flatMap_append]; simpa using hown') hc hcm (grown_trans (ext_grown ((Ext.refl W).allocs _) _) hg') ?_
    rcases hblk with hq | hq
    · exact .inl hq.symm
    · right
      simp only [Value.ownBlock, Option.some.injEq] at hq
      rw [hq]
      simp

end Go.Proofs.Ytooegndajfopkaa
