/- Lemmas for the reference's Add of chapter 28. No statement of the seat is proved here. -/
import Derived.Test.YtfnnoncdocghjaaMergeK
import Derived.Test.YtfnnoncdocghjaaRowK
import Derived.Test.YtfnnoncdocghjaaCloneK
import Derived.Test.YtfnnoncdocghjaaFrugalPlain
import Derived.Test.YtfnnoncdocghjaaGrownS28
import Derived.StillTailTactics
namespace Go.Proofs.Ytfnnoncdocghjaa
open Go.RowKit Go.Sort
set_option linter.unusedVariables false
set_option maxRecDepth 100000

theorem setAll_split (xs vs : List Value) (o : Nat) (h : o + vs.length ≤ xs.length) : setAll xs o vs = xs.take o ++ vs ++ xs.drop (o + vs.length) := by
  apply List.ext_getElem?
  intro q
  rw [setAll_get]
  by_cases h1 : q < o
  · rw [if_neg (by omega), List.append_assoc, List.getElem?_append_left (by rw [List.length_take]; omega), List.getElem?_take_of_lt h1]
  · by_cases h2 : q < o + vs.length
    · rw [if_pos ⟨by omega, h2, by omega⟩, List.append_assoc, List.getElem?_append_right (by rw [List.length_take]; omega), List.getElem?_append_left (by rw [List.length_take]; omega), List.length_take, Nat.min_eq_left (by omega)]
    · rw [if_neg (by omega), List.getElem?_append_right (by rw [List.length_append, List.length_take]; omega), List.getElem?_drop, List.length_append, List.length_take, Nat.min_eq_left (by omega)]
      congr 1
      omega
theorem drop_flat (l : List Kn) (k : Nat) (hk : k ≤ l.length) : (l.drop k).flatMap Kn.cells = (l.flatMap Kn.cells).drop (k * 10) := by
  have e : l.flatMap Kn.cells = (l.take k).flatMap Kn.cells ++ (l.drop k).flatMap Kn.cells := by rw [← List.flatMap_append, List.take_append_drop]
  have hA : ((l.take k).flatMap Kn.cells).length = k * 10 := by rw [flat_len Kn.cells 10 Kn.len, List.length_take, Nat.min_eq_left hk]
  rw [e, ← hA]
  exact List.drop_left.symm
theorem setAll_flats (X Y : List Kn) (r : Nat) (h : r + Y.length ≤ X.length) : setAll (X.flatMap Kn.cells) (r * 10) (Y.flatMap Kn.cells) = (X.take r ++ Y ++ X.drop (r + Y.length)).flatMap Kn.cells := by
  have hY := flat_len Kn.cells 10 Kn.len Y
  have hX := flat_len Kn.cells 10 Kn.len X
  rw [setAll_split _ _ _ (by omega), List.flatMap_append, List.flatMap_append, take_flat X r (by omega), drop_flat X (r + Y.length) h, hY]
  congr 2
  omega
/-- stores into a row that the call owns -/
theorem own_sets {w : World} {base g n cap : Nat} {xs vs : List Value} {o : Nat} (h : w.ownsRow base 34 10 (.slice (some ⟨g, 0, none⟩) n cap) n xs) (hl : o + vs.length ≤ xs.length) : (w.setCells g o vs).ownsRow base 34 10 (.slice (some ⟨g, 0, none⟩) n cap) n (setAll xs o vs) := by
  refine ⟨by rw [setAll_len]; exact h.1, .inr ?_⟩
  rcases h.2 with ⟨hv, _⟩ | ⟨g', cap', cur, hv, hb, hh, hc, hm, hs, ht⟩
  · injection hv with hv; cases hv
  · injection hv with hv _ hcap
    injection hv with hv
    injection hv with hv _
    subst hv hcap
    refine ⟨g, cap, (setAll cur.toList o vs).toArray, rfl, hb, heap_sets vs o w cur.toList hh, hc, hm, by simp only [List.size_toArray, setAll_len, Array.length_toList]; exact hs, ?_⟩
    have hxl : xs.length = n * 10 := h.1
    have hcl : n * 10 ≤ cur.toList.length := by
      have := congrArg List.length ht
      rw [List.length_take, hxl] at this
      omega
    show (setAll cur.toList o vs).take (n * 10) = setAll xs o vs
    apply List.ext_getElem?
    intro q
    by_cases hq : q < n * 10
    · rw [List.getElem?_take_of_lt hq, setAll_get, setAll_get]
      have hcx : cur.toList[q]? = xs[q]? := by rw [← ht, List.getElem?_take_of_lt hq]
      by_cases hin : o ≤ q ∧ q < o + vs.length
      · rw [if_pos ⟨hin.1, hin.2, by omega⟩, if_pos ⟨hin.1, hin.2, by omega⟩]
      · rw [if_neg (fun h => hin ⟨h.1, h.2.1⟩), if_neg (fun h => hin ⟨h.1, h.2.1⟩), hcx]
    · rw [List.getElem?_eq_none (by rw [List.length_take, setAll_len]; omega), List.getElem?_eq_none (by rw [setAll_len]; omega)]
theorem ins_list {out : List Kn} {r : Nat} (x : Kn) (hr : r < out.length) : (out.take (r + 1) ++ out.drop r).set r x = out.take r ++ x :: out.drop r := by
  rw [List.take_succ_eq_append_getElem hr, List.append_assoc, List.set_append_right _ _ (by rw [List.length_take]; omega), List.length_take, Nat.min_eq_left (by omega), Nat.sub_self]
  rfl
/-- copy within a row, by one place -/
theorem run_copy_kn (w : World) (ty : TypeId) (g r n dc sc : Nat) (X : List Kn) (h : Row w g X) (hX : X.length = n + 1) (hr : r < n) :
    (Builtin.copy_ #[26, 26] ty #[.slice (some ⟨g, (r + 1) * 10, none⟩) (n - r) dc, .slice (some ⟨g, r * 10, none⟩) (n + 1 - r) sc]).run Try.prog w = .ok (goInt (n - r : Nat)) (w.setCells g ((r + 1) * 10) (((X.drop r).take (n - r)).flatMap Kn.cells)) := by
  obtain ⟨i0, hi, hz0, hz1, hz2⟩ := info_parts infoKn
  have hfl := flat_len Kn.cells 10 Kn.len X
  have hcl : (((X.drop r).take (n - r)).flatMap Kn.cells).length = (n - r) * 10 := by rw [flat_len Kn.cells 10 Kn.len, List.length_take, List.length_drop]; congr 1; omega
  have hsrc : ∀ j v, (((X.drop r).take (n - r)).flatMap Kn.cells)[j]? = some v → w.cell? ((⟨g, r * 10, none⟩ : Addr).add j) = some v := by
    intro j v hv
    have hj := (List.getElem?_eq_some_iff.1 hv).1
    rw [hcl] at hj
    rw [take_flat _ _ (by rw [List.length_drop]; omega), drop_flat X r (by omega), List.getElem?_take_of_lt hj, List.getElem?_drop] at hv
    have hadd : (⟨g, r * 10, none⟩ : Addr).add j = ⟨g, r * 10 + j, none⟩ := by unfold Addr.add; split <;> simp_all
    rw [hadd]
    exact (h.2 _ v hv).1
  have ho := Kn.ones ((X.drop r).take (n - r))
  generalize ((X.drop r).take (n - r)).flatMap Kn.cells = cs at *
  have hfc := run_firstCells_some (P := Try.prog) w 10 (n - r) ⟨g, r * 10, none⟩ (n + 1 - r) sc cs hcl hsrc
  have hst := run_storeCells_cells (P := Try.prog) g ((r + 1) * 10) cs 0 w (fun j hj => by
      have hj' : (r + 1) * 10 + j < (X.flatMap Kn.cells).length := by omega
      rw [Nat.add_zero, (h.2 _ _ (List.getElem?_eq_getElem hj')).1]; rfl) (fun j hj => by
      have hj' : (r + 1) * 10 + j < (X.flatMap Kn.cells).length := by omega
      rw [Nat.add_zero]; exact (h.2 _ _ (List.getElem?_eq_getElem hj')).2) ho
  simp only [Nat.add_zero] at hst
  have hmin : Nat.min (n + 1 - r) (n - r) = n - r := by
    show min (n + 1 - r) (n - r) = n - r
    omega
  simp [Builtin.copy_, run_underlying Try.underlying26, Builtin.lenOf, sizeOf, typeInfo, hi, hz1, hmin, hfc, hst]
theorem run_copy_none (w : World) (ty : TypeId) (d s : Option Addr) (dc sl sc : Nat) :
    (Builtin.copy_ #[26, 26] ty #[.slice d 0 dc, .slice s sl sc]).run Try.prog w = .ok (goInt 0) w := by
  obtain ⟨i0, hi, hz0, hz1, hz2⟩ := info_parts infoKn
  have hl : ∀ (x : Addr), (loadCells x 0).run Try.prog w = .ok #[] w := fun x => by simpa using run_loadCells_list (P := Try.prog) w x [] (by simp)
  cases d <;> cases s <;> simp [Builtin.copy_, run_underlying Try.underlying26, Builtin.lenOf, Builtin.firstCells, sizeOf, typeInfo, hi, storeCells, hl]
theorem Row.atK {w : World} {g : Nat} {l : List Kn} (h : Row w g l) {i : Nat} (hi : i < l.length) : KnAt w g (i * 10) l[i] := by
  have hc : ∀ o u, o < 10 → (l[i]).cells[o]? = some u → w.cell? ⟨g, i * 10 + o, none⟩ = some u := fun o u ho hu => (h.2 (i * 10 + o) u (by rw [flat_get Kn.cells 10 Kn.len l i o l[i] (List.getElem?_eq_getElem hi) ho]; exact hu)).1
  exact ⟨hc 0 _ (by omega) rfl, hc 1 _ (by omega) rfl, hc 2 _ (by omega) rfl, hc 3 _ (by omega) rfl, hc 4 _ (by omega) rfl, hc 5 _ (by omega) rfl, hc 6 _ (by omega) rfl, hc 7 _ (by omega) rfl, hc 8 _ (by omega) rfl, hc 9 _ (by omega) rfl⟩
theorem Row.frzK {w : World} {g : Nat} {l : List Kn} (h : Row w g l) {i : Nat} (hi : i < l.length) : w.frozen? ⟨g, i * 10, none⟩ = false ∧ w.frozen? ⟨g, i * 10 + 1, none⟩ = false ∧ w.frozen? ⟨g, i * 10 + 2, none⟩ = false ∧ w.frozen? ⟨g, i * 10 + 3, none⟩ = false ∧ w.frozen? ⟨g, i * 10 + 4, none⟩ = false ∧ w.frozen? ⟨g, i * 10 + 5, none⟩ = false ∧ w.frozen? ⟨g, i * 10 + 6, none⟩ = false ∧ w.frozen? ⟨g, i * 10 + 7, none⟩ = false ∧ w.frozen? ⟨g, i * 10 + 8, none⟩ = false ∧ w.frozen? ⟨g, i * 10 + 9, none⟩ = false := by
  have hc : ∀ o, o < 10 → w.frozen? ⟨g, i * 10 + o, none⟩ = false := fun o ho => (h.2 (i * 10 + o) _ (List.getElem?_eq_getElem (by rw [flat_len Kn.cells 10 Kn.len]; omega))).2
  exact ⟨hc 0 (by omega), hc 1 (by omega), hc 2 (by omega), hc 3 (by omega), hc 4 (by omega), hc 5 (by omega), hc 6 (by omega), hc 7 (by omega), hc 8 (by omega), hc 9 (by omega)⟩
def putK (W : World) (g o : Nat) (k : Kn) : World := ((((((((((W.setCell ⟨g, o, none⟩ (.int .i64 k.d.proc)).setCell ⟨g, o + 1, none⟩ (.int .i64 k.d.index)).setCell ⟨g, o + 2, none⟩ (.int .i64 k.d.ev.kind)).setCell ⟨g, o + 3, none⟩ (.int .i64 k.d.ev.inc)).setCell ⟨g, o + 4, none⟩ (.int .i64 k.d.ev.frm)).setCell ⟨g, o + 5, none⟩ (.int .i64 k.d.ev.sinc)).setCell ⟨g, o + 6, none⟩ (.int .i64 k.d.ev.sidx)).setCell ⟨g, o + 7, none⟩ (.int .i64 k.d.ev.ord)).setCell ⟨g, o + 8, none⟩ (.int .i64 k.d.ev.val)).setCell ⟨g, o + 9, none⟩ (.int .u32 k.h))
theorem putK_eq (W : World) (g o : Nat) (k : Kn) : W.setCells g o k.cells = putK W g o k := rfl
/-- one more in its place: the memory of one more element -/
theorem memV_put {L : List Kn} {i : Nat} (hi : i < L.length) (hok : ∀ y ∈ L, okH y.h) {x : Kn} (hx : L[i] = x) (k : Nat) (hk : k ≤ (memV (L.take i)).length)
    (hgt : ∀ q (hq : q < (memV (L.take i)).length), k ≤ q → 0 < cmpD ((memV (L.take i))[q]).d x.d) (hlt : ∀ j (hj : j < (memV (L.take i)).length), k = j + 1 → cmpD ((memV (L.take i))[j]).d x.d < 0) :
    memV (L.take (i + 1)) = (memV (L.take i)).take k ++ x :: (memV (L.take i)).drop k := by
  have hM := memV_of (L.take i) fun y hy => hok y (List.mem_of_mem_take hy)
  have hxo : okH x.h := by rw [← hx]; exact hok _ (List.getElem_mem hi)
  generalize memV (L.take i) = out at *
  have e : L.take (i + 1) = L.take i ++ [x] := by rw [List.take_succ_eq_append_getElem hi, hx]
  rw [e]
  rw [← List.take_append_drop k out] at hM
  refine (MemOf.eqV (hM.put hxo (fun y hy => ?_) (fun y hy => ?_)) ?_).symm
  · obtain ⟨q, hq, rfl⟩ := List.mem_iff_getElem.1 hy
    rw [List.length_take] at hq
    rw [List.getElem_take]
    obtain ⟨j, rfl⟩ : ∃ j, k = j + 1 := ⟨k - 1, by omega⟩
    have h1 := hlt j (by omega) rfl
    by_cases hqj : q = j
    · subst hqj; exact h1
    · have ha := hM.asc
      rw [List.take_append_drop] at ha
      have := List.pairwise_iff_getElem.1 ha q j (by simp; omega) (by simp; omega) (by omega)
      simp only [List.getElem_map] at this
      exact cmpD_lt_trans this h1
  · obtain ⟨q, hq, rfl⟩ := List.mem_iff_getElem.1 hy
    rw [List.length_drop] at hq
    rw [List.getElem_drop]
    have h1 := hgt (k + q) (by omega) (by omega)
    have := cmpD_anti (out[k + q]'(by omega)).d x.d
    omega
  · intro y hy
    rcases List.mem_append.1 hy with hy | hy
    · exact hok y (List.mem_of_mem_take hy)
    · rw [List.mem_singleton] at hy; subst hy; exact hxo
theorem memV_join {L : List Kn} {i : Nat} (hi : i < L.length) (hok : ∀ y ∈ L, okH y.h) {x : Kn} (hx : L[i] = x) (j : Nat) (hj : j < (memV (L.take i)).length) {y : Kn} (hy : (memV (L.take i))[j] = y) (hd : y.d = x.d) :
    memV (L.take (i + 1)) = (memV (L.take i)).set j (orK y x) := by
  have hM := memV_of (L.take i) fun y hy => hok y (List.mem_of_mem_take hy)
  have hxo : okH x.h := by rw [← hx]; exact hok _ (List.getElem_mem hi)
  generalize memV (L.take i) = out at *
  have e : L.take (i + 1) = L.take i ++ [x] := by rw [List.take_succ_eq_append_getElem hi, hx]
  rw [e]
  have e2 : out = out.take j ++ y :: out.drop (j + 1) := by
    rw [← hy]
    rw [show out[j] :: out.drop (j + 1) = out.drop j from (List.drop_eq_getElem_cons hj).symm, List.take_append_drop]
  have e3 : out.set j (orK y x) = out.take j ++ orK y x :: out.drop (j + 1) := by
    rw [List.set_eq_take_append_cons_drop, if_pos hj]
  rw [e3]
  rw [e2] at hM
  refine (MemOf.eqV (hM.join hxo hd) ?_).symm
  intro z hz
  rcases List.mem_append.1 hz with hz | hz
  · exact hok z (List.mem_of_mem_take hz)
  · rw [List.mem_singleton] at hz; subst hz; exact hxo
theorem memV_idem {l r : List Kn} (hok : ∀ k ∈ l, okH k.h) : memV (memV l ++ r) = memV (l ++ r) := by
  have h := memV_of l hok
  unfold memV
  rw [List.foldl_append, List.foldl_append]
  show List.foldl memIns (memV (memV l)) r = List.foldl memIns (memV l) r
  rw [memV_asc h.asc h.ok]
theorem Kn.grownK {W : World} {g : Nat} {L : List Kn} (h : KnSeg W (some ⟨g, 0, none⟩) L) {i : Nat} (hi : i < L.length) {x : Kn} (hx : L[i] = x) (d : Nat) (os : Array Obj) : KnAt (grow (redrawn W d) os) g (i * 10) x := by
  obtain ⟨b', off', hA, _, hc⟩ := Seg.at_ (h.ext (below_regrown W d os)) Kn.len hi
  injection hA with hA
  injection hA with h1 h2
  subst h1 h2 hx
  simp only [Nat.zero_add] at hc
  exact ⟨hc 0 _ rfl, hc 1 _ rfl, hc 2 _ rfl, hc 3 _ rfl, hc 4 _ rfl, hc 5 _ rfl, hc 6 _ rfl, hc 7 _ rfl, hc 8 _ rfl, hc 9 _ rfl⟩
end Go.Proofs.Ytfnnoncdocghjaa
