/- Arguments with their sizes: what is read takes at most the reach's bytes. No statement of the seat is proved here. -/
import Derived.Test.YtooegndajfopkaaTables
import Derived.SizedLaws
namespace Go.Proofs.Ytooegndajfopkaa
open Go.RowKit
set_option linter.unusedVariables false

section
variable {H : Type} {enc : TypeId × Value → H} {P : Program} {w : World} {base : Nat} {spare : Nat → Bool} {held : Bool}
theorem weightsAll_mem {e : TypeId} {d : DataW H} {n : Nat} : ∀ {l : List (DataW H)}, d ∈ l → n ∈ d.weights P e → n ∈ DataW.weightsAll P e l
  | [], h, _ => by cases h
  | x :: l, h, hn => by
    simp only [DataW.weightsAll, List.mem_append]
    rcases List.mem_cons.1 h with rfl | h
    · exact .inl hn
    · exact .inr (weightsAll_mem h hn)
theorem slice_weight {t e : TypeId} (ht : P.underlying t = some (.slice e)) (es sp : List (DataW H)) : (es.length + sp.length) * P.bytesOf e ∈ (DataW.slice es sp).weights P t := by
  simp [DataW.weights, ht]
theorem slice_weights {t e : TypeId} (ht : P.underlying t = some (.slice e)) (es sp : List (DataW H)) {d : DataW H} {n : Nat} (hd : d ∈ es) (hn : n ∈ d.weights P e) : n ∈ (DataW.slice es sp).weights P t := by
  simp only [DataW.weights, ht, List.mem_cons, List.mem_append]
  exact .inr (.inl (weightsAll_mem hd hn))
theorem sized_at {ts : List TypeId} {ds : List (DataW H)} {B : Nat} (h : (DataW.weightsEach P ts ds).all (· ≤ B) = true) {j : Nat} {t : TypeId} {d : DataW H} (ht : ts[j]? = some t) (hd : ds[j]? = some d) : ∀ n ∈ d.weights P t, n ≤ B := fun n hn => by
  have := List.all_eq_true.1 h _ (DataW.weights_mem_each ht hd n hn)
  simpa using this
/-- a slice's reading: its elements' cells -/
theorem open_seg_sized {B : Nat} {t e : TypeId} {fuel len cap : Nat} {a : Option Addr} {x : DataW H × List MemPlace} (s : Nat) (ht : P.underlying t = some (.slice e)) (hs : P.cellsOf e = s) (hs0 : 0 < s)
    (h : DataW.trod enc P w base spare held fuel t [.slice a len cap] = some x) (hz : ∀ n ∈ x.1.weights P t, n ≤ B) :
    ∃ css : List (List Value), css.length = len ∧ Seg w s a len css.flatten ∧ len ≤ cap ∧ cap ≤ maxLen ∧
      (∀ cs ∈ css, cs.length = s ∧ ∃ n y, DataW.trod enc P w base spare held n e cs = some y ∧ ∀ n ∈ y.1.weights P e, n ≤ B) ∧ len * P.bytesOf e ≤ B := by
  rcases Go.Deep.open_slice ht h with ⟨hcs, _⟩ | ⟨a', len', cap', m, n, D, Pl, hcs, hb, hl, hm, hmm, hx, hi⟩
  · simp at hcs
    obtain ⟨rfl, rfl, rfl⟩ := hcs
    exact ⟨[], rfl, Seg.nil, Nat.le_refl _, by unfold maxLen; omega, by simp, by rw [Nat.zero_mul]; exact Nat.zero_le _⟩
  · simp at hcs
    obtain ⟨rfl, rfl, rfl⟩ := hcs
    have hlm : len ≤ m := by rw [hmm]; split <;> omega
    rw [hx] at hz
    have hzl := hz _ (slice_weight ht _ _)
    have hzi : ∀ i, i < len → ∀ n ∈ (D i).weights P e, n ≤ B := fun i hi n hn => hz n (slice_weights ht _ _ (List.mem_map.2 ⟨i, by simpa using hi, rfl⟩) hn)
    simp only [List.length_map, List.length_range] at hzl
    obtain ⟨C, hC⟩ := Go.Deep.choose_lt (α := List Value) (n := len) (p := fun i cs' => w.cells? base (a'.add (i * P.cellsOf e)) (P.cellsOf e) = some cs' ∧ DataW.trod enc P w base spare held n e cs' = some (D i, Pl i)) (fun i h => hi i (by omega))
    have hC2 : ∀ i, i < len → (C i).length = s ∧ ∀ j, j < s → w.cell? (a'.add (i * s + j)) = (C i)[j]? := by
      intro i hi
      obtain ⟨_, h1, h2⟩ := World.cells?_some (hC i hi).1
      rw [hs] at h1 h2
      refine ⟨h1, fun j hj => ?_⟩
      rw [← h2 j hj]
      congr 1
      unfold Addr.add
      by_cases h0 : i * s = 0 <;> by_cases hj0 : j = 0 <;> simp [h0, hj0, Nat.add_assoc]
    have hfl : ∀ k, k ≤ len → ((List.range k).map C).flatten.length = k * s := by
      intro k hk
      induction k with
      | zero => simp
      | succ k ih => rw [List.range_succ, List.map_append, List.flatten_append, List.length_append, ih (by omega)]; simp [(hC2 k (by omega)).1, Nat.add_mul]
    have hat : ∀ k, k ≤ len → ∀ j u, ((List.range k).map C).flatten[j]? = some u → w.cell? (a'.add j) = some u := by
      intro k hk
      induction k with
      | zero => simp
      | succ k ih =>
        intro j u hu
        rw [List.range_succ, List.map_append, List.flatten_append, List.getElem?_append] at hu
        split at hu
        · exact ih (by omega) j u hu
        · rename_i hnlt
          rw [hfl k (by omega)] at hu hnlt
          simp at hu
          have hj := (List.getElem?_eq_some_iff.1 hu).1
          rw [(hC2 k (by omega)).1] at hj
          have := (hC2 k (by omega)).2 (j - k * s) hj
          rw [hu] at this
          rw [← this]; congr 2; omega
    refine ⟨(List.range len).map C, by simp, ⟨hfl len (Nat.le_refl _), fun hn => ?_⟩, hl, hm, ?_, Nat.le_trans (Nat.mul_le_mul_right _ (by omega)) hzl⟩
    · have h0 := (hC2 0 hn).2 0 hs0
      have hl0 := (hC2 0 hn).1
      rw [List.getElem?_eq_getElem (by omega)] at h0
      simp only [Nat.zero_mul, Nat.zero_add] at h0
      have h00 : a'.add 0 = a' := by simp [Addr.add]
      rw [h00] at h0
      have hsp : a'.spot = none := by
        unfold World.cell? at h0
        split at h0
        · split at h0
          · cases h0
          · rename_i hh; simpa using hh
        · cases h0
      obtain ⟨bb, oo, ss⟩ := a'
      simp only at hsp
      subst hsp
      refine ⟨bb, oo, rfl, World.block_lt_of_cell? w ⟨bb, oo, none⟩ h0, fun j u hu => ?_⟩
      have := hat len (Nat.le_refl _) j u hu
      rw [← this]
      congr 1
      unfold Addr.add
      split <;> simp_all
    · intro cs hcs
      simp only [List.mem_map, List.mem_range] at hcs
      obtain ⟨i, hi', rfl⟩ := hcs
      exact ⟨(hC2 i hi').1, n, _, (hC i hi').2, hzi i hi'⟩

end
theorem bytesCp : Try.prog.bytesOf 42 = 32 := by kernel_rfl
theorem bytesCps : Try.prog.bytesOf 40 = 24 := by kernel_rfl
theorem open_tables_sized {H : Type} {enc : TypeId × Value → H} {w : World} {base : Nat} {spare : Nat → Bool} {held : Bool} {a : Option Addr} {len cap : Nat} {d : DataW H} {p : List MemPlace} (h : DataW.Trod enc Try.prog w base spare held 46 (.slice a len cap) d p) (hz : ∀ n ∈ d.weights Try.prog 46, n ≤ reachBytes) :
    ∃ R : List TR, len = R.length ∧ TabSeg w a R ∧ len ≤ cap ∧ cap ≤ maxLen ∧ (∀ r ∈ R, ∀ x ∈ r.cs, x.ok) ∧ R.length * 24 ≤ reachBytes ∧ ∀ r ∈ R, r.cs.length * 32 ≤ reachBytes := by
  obtain ⟨fuel, hf⟩ := h
  obtain ⟨css, hl, hs, h1, h2, hc, hz1⟩ := open_seg_sized 1 Try.underlying46 (by kernel_rfl) (by omega) (show DataW.trod enc Try.prog w base spare held fuel 46 [.slice a len cap] = some (d, p) from hf) hz
  obtain ⟨R, rfl, hok⟩ := lift_all' TR.cells (fun r => r.fine w ∧ (∀ x ∈ r.cs, x.ok) ∧ r.cs.length * 32 ≤ reachBytes) css (fun cs hcs => by
    obtain ⟨hl1, n, y, hy, hzy⟩ := hc cs hcs
    have hsl : ∃ A m c, cs = [.slice A m c] := by
      rcases Go.Deep.open_slice Try.underlying40 hy with ⟨hcs, _⟩ | ⟨a', len', cap', m, n, D, Pl, hcs, _⟩
      · exact ⟨_, _, _, hcs⟩
      · exact ⟨_, _, _, hcs⟩
    obtain ⟨A, m, c, rfl⟩ := hsl
    obtain ⟨es, rfl, he, hc1, hc2, ho⟩ := open_copies_ok (d := y.1) (p := y.2) ⟨n, hy⟩
    obtain ⟨_, _, _, _, _, _, hz2⟩ := open_seg_sized 4 Try.underlying40 (by kernel_rfl) (by omega) hy hzy
    rw [bytesCp] at hz2
    exact ⟨⟨A, c, es⟩, rfl, ⟨he, hc1, hc2⟩, ho, hz2⟩)
  rw [List.length_map] at hl
  subst hl
  refine ⟨R, rfl, ⟨?_, fun r hr => (hok r hr).1⟩, h1, h2, fun r hr => (hok r hr).2.1, by rw [bytesCps] at hz1; exact hz1, fun r hr => (hok r hr).2.2⟩
  show Seg w 1 a R.length (R.flatMap TR.cells)
  rw [List.flatMap_def]
  exact hs

end Go.Proofs.Ytooegndajfopkaa
