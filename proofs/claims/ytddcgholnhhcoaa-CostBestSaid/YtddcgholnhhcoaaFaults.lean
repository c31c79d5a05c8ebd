/- The walk of the law CostFaults. -/
import Derived.Test.YtddcgholnhhcoaaTasks
namespace Go.Proofs.Ytddcgholnhhcoaa
open Go.RowKit
set_option linter.unusedVariables false

theorem small_fine {ts : List Tk} (h : ∀ t ∈ ts, t.small) : ts.all Tk.fine = true := by
  rw [List.all_eq_true]
  intro t ht
  obtain ⟨h1, h2⟩ := h t ht
  rw [Tk.fine_iff]
  omega
theorem small_ref {ts : List Tk} {f r : Int} (h : ∀ t ∈ ts, t.small) (h1 : 1 ≤ ts.length) (h2 : ts.length ≤ 64) (hf : 0 ≤ f ∧ f ≤ 1048576) (hr : 0 ≤ r ∧ r ≤ 1048576) : refuseV ts f r = 0 := by
  rw [refuse_args h2 (by omega) (small_fine h), if_pos]
  simp only [Bool.and_eq_true, amountB_iff]
  exact ⟨hf, hr⟩
theorem worst_small {ts : List Tk} {ps : List Int} {f r : Int} (h : ts.all Tk.fine = true) (h1 : 1 ≤ ts.length) (h2 : ts.length ≤ 64) (hf : 0 ≤ f ∧ f ≤ 1048576) (hr : 0 ≤ r ∧ r ≤ 1048576) (ha : Asc ps ts.length) :
    worstV ts ps f r = (worstOf ts ps f r, 0) := by
  refine worst_ok ?_
  have hz : refuseV ts f r = 0 := by
    rw [refuse_args h2 (by omega) h, if_pos]
    simp only [Bool.and_eq_true, amountB_iff]
    exact ⟨hf, hr⟩
  rw [err_places hz, ha.ok _ (Nat.le_refl _)]
  rfl
/-- one unit of work more -/
def NearS (s s' : WS) : Prop := s'.total = s.total + 1 ∧ s'.next = s.next ∧ (s.longest ≤ s'.longest ∧ s'.longest ≤ s.longest + 1) ∧ (s.length ≤ s'.length ∧ s'.length ≤ s.length + 1)
theorem near_step {ps : List Int} {i : Nat} {t : Tk} {s s' : WS} (h : NearS s s') : NearS (wStep ps i t s) (wStep ps i t s') := by
  obtain ⟨h1, h2, h3, h4⟩ := h
  unfold wStep NearS
  rw [h2]
  by_cases hc : s.next < ps.length ∧ ps.getD s.next 0 = i
  · simp only [if_pos hc]
    exact ⟨by omega, trivial, ⟨by omega, by omega⟩, by omega, by omega⟩
  · simp only [if_neg hc]
    exact ⟨by omega, trivial, ⟨by omega, by omega⟩, by omega, by omega⟩
theorem near_first {ps : List Int} {i : Nat} {x y : Int} {s : WS} : NearS (wStep ps i ⟨x, y⟩ s) (wStep ps i ⟨x + 1, y⟩ s) := by
  unfold wStep NearS
  by_cases hc : s.next < ps.length ∧ ps.getD s.next 0 = i
  · simp only [if_pos hc]
    exact ⟨by omega, trivial, ⟨by omega, by omega⟩, by omega, by omega⟩
  · simp only [if_neg hc]
    exact ⟨by omega, trivial, ⟨by omega, by omega⟩, by omega, by omega⟩
theorem wAt_set (ts : List Tk) (ps : List Int) (k : Nat) (hk : k < ts.length) (x y : Int) (ht : ts.getD k noTk = ⟨x, y⟩) : ∀ i, i ≤ ts.length →
    (i ≤ k → wAt (ts.set k ⟨x + 1, y⟩) ps i = wAt ts ps i) ∧ (k < i → NearS (wAt ts ps i) (wAt (ts.set k ⟨x + 1, y⟩) ps i)) := by
  intro i
  induction i with
  | zero => intro _; exact ⟨fun _ => rfl, fun h => by omega⟩
  | succ i ih =>
    intro hi
    obtain ⟨h1, h2⟩ := ih (by omega)
    refine ⟨fun h => ?_, fun h => ?_⟩
    · rw [wAt, wAt, h1 (by omega), getD_set_ne _ _ _ _ _ (by omega)]
    · rw [wAt, wAt]
      by_cases e : i = k
      · subst e
        rw [h1 (Nat.le_refl _), getD_set_self _ _ _ _ hk, ht]
        exact near_first
      · rw [getD_set_ne _ _ _ _ _ (by omega)]
        exact near_step (h2 (by omega))
theorem faults_law (ts : List Tk) (ps : List Int) (f r : Int) (k : Nat) (hk : k < ts.length) (x y : Int) (ht : ts.getD k noTk = ⟨x, y⟩) (hf : AllFine ts) (hf0 : 0 ≤ f) (hr : 0 ≤ r) :
    worstOf ts ps f r = worstOf ts ps 0 r + f * (worstOf ts ps 1 r - worstOf ts ps 0 r) ∧ worstOf ts ps f r < worstOf (ts.set k ⟨x + 1, y⟩) ps f r ∧ worstOf (ts.set k ⟨x + 1, y⟩) ps f r ≤ worstOf ts ps f r + 1 + f ∧ worstOf ts ps 0 r + r ≤ worstOf ts ps 1 r := by
  have hn := (wAt_set ts ps k hk x y ht ts.length (Nat.le_refl _)).2 hk
  have hL := longV_bd ts ps hf
  obtain ⟨h1, h2, h3, h4⟩ := hn
  have hl : longV ts ps ≤ longV (ts.set k ⟨x + 1, y⟩) ps ∧ longV (ts.set k ⟨x + 1, y⟩) ps ≤ longV ts ps + 1 := by
    unfold longV
    rw [List.length_set]
    omega
  have hT : (wAt (ts.set k ⟨x + 1, y⟩) ps (ts.set k ⟨x + 1, y⟩).length).total = (wAt ts ps ts.length).total + 1 := by rw [List.length_set]; exact h1
  unfold worstOf
  rw [hT]
  generalize longV ts ps = L at *
  generalize longV (ts.set k ⟨x + 1, y⟩) ps = L' at *
  generalize (wAt ts ps ts.length).total = T at *
  have e1 : f * (r + L) ≤ f * (r + L') := Int.mul_le_mul_of_nonneg_left (by omega) hf0
  have e2 : f * (r + L') ≤ f * (r + L + 1) := Int.mul_le_mul_of_nonneg_left (by omega) hf0
  have e3 : f * (r + L + 1) = f * (r + L) + f := by rw [Int.mul_add f (r + L) 1, Int.mul_one]
  rw [Int.zero_mul, Int.one_mul]
  rw [show T + (r + L) - (T + 0) = r + L by omega]
  omega
theorem worstOf_bd (ts : List Tk) (ps : List Int) (f r : Int) (hf : AllFine ts) (hn : ts.length ≤ 64) (h1 : 0 ≤ f ∧ f ≤ 100) (h2 : 0 ≤ r ∧ r ≤ 100) : 0 ≤ worstOf ts ps f r ∧ worstOf ts ps f r ≤ 100000000000 := by
  obtain ⟨b1, _⟩ := wAt_bd ts ps hf ts.length (Nat.le_refl _)
  have hL := longV_bd ts ps hf
  unfold worstOf
  have e1 : 0 ≤ f * (r + longV ts ps) := Int.mul_nonneg h1.1 (by omega)
  have e2 : f * (r + longV ts ps) ≤ 100 * 134217900 := Int.mul_le_mul h1.2 (by omega) (by omega) (by omega)
  omega
theorem Seg.set1 {w : World} {s n : Nat} {b off : Nat} {xs : List Value} (h : Seg w s (some ⟨b, off, none⟩) n xs) {p : Nat} (hp : p < xs.length) (v : Value) (hn : 0 < n) : Seg (w.setCell ⟨b, off + p, none⟩ v) s (some ⟨b, off, none⟩) n (xs.set p v) := by
  refine ⟨by rw [List.length_set]; exact h.1, fun hn' => ?_⟩
  obtain ⟨b', off', hA, hb, hc⟩ := h.2 hn
  injection hA with hA
  injection hA with hA1 hA2
  subst hA1 hA2
  refine ⟨b, off, rfl, by simpa using hb, fun j u hu => ?_⟩
  by_cases e : p = j
  · subst e
    rw [List.getElem?_set_self hp] at hu
    injection hu with hu
    subst hu
    have := hc p xs[p] (List.getElem?_eq_getElem hp)
    exact World.cell?_setCell_same' _ _ _ (by rw [this]; rfl)
  · rw [List.getElem?_set_ne e] at hu
    rw [World.cell?_setCell_other]
    · exact hc j u hu
    · intro h; injection h; omega

theorem flat_set0 (ts : List Tk) (k : Nat) (hk : k < ts.length) (x y : Int) (ht : ts[k] = ⟨x, y⟩) (z : Int) : (ts.flatMap Tk.cells).set (k * 2) (.int .i64 z) = (ts.set k ⟨z, y⟩).flatMap Tk.cells := by
  have h1 := setAll_flat Tk.cells 2 (by omega) Tk.len ts k ⟨z, y⟩ hk
  rw [← h1]
  show (ts.flatMap Tk.cells).set (k * 2) (.int .i64 z) = ((ts.flatMap Tk.cells).set (k * 2) (.int .i64 z)).set (k * 2 + 1) (.int .i64 y)
  have hl : k * 2 + 1 < (ts.flatMap Tk.cells).length := by rw [flat_len Tk.cells 2 Tk.len]; omega
  refine List.ext_getElem? fun q => ?_
  by_cases e : k * 2 + 1 = q
  · subst e
    rw [List.getElem?_set_self (by rw [List.length_set]; exact hl), List.getElem?_set_ne (by omega)]
    have := flat_get Tk.cells 2 Tk.len ts k 1 ⟨x, y⟩ (by rw [List.getElem?_eq_getElem hk, ht]) (by omega)
    rw [this]
    rfl
  · rw [List.getElem?_set_ne e]
theorem set_fine {ts : List Tk} (h : ∀ t ∈ ts, t.small) (k : Nat) (x y : Int) (hx : 0 ≤ x ∧ x ≤ 19) (hy : 0 ≤ y ∧ y ≤ 5) : (ts.set k ⟨x + 1, y⟩).all Tk.fine = true := by
  rw [List.all_eq_true]
  intro t ht
  rcases List.mem_or_eq_of_mem_set ht with h1 | h1
  · obtain ⟨a, b⟩ := h t h1
    rw [Tk.fine_iff]; omega
  · subst h1
    rw [Tk.fine_iff]; simp only; omega
theorem mulf_bd (f z : Int) (hf : 0 ≤ f ∧ f ≤ 3) (hz : 0 ≤ z ∧ z ≤ 100000000000) : 0 ≤ f * z ∧ f * z ≤ 300000000000 := by
  have a : 0 ≤ f * z := Int.mul_nonneg hf.1 hz.1
  have b : f * z ≤ 3 * 100000000000 := Int.mul_le_mul hf.2 hz.2 hz.1 (by omega)
  omega

set_option maxRecDepth 100000 in
set_option maxHeartbeats 3200000 in
theorem faults_walk (A : Option Addr) (cap : Nat) (bs : List Int) (at_ : Int) (w : World)
    (h0 : Seg w 1 A bs.length (bs.map (Value.int .u8)) ∧ bs.length ≤ cap ∧ cap ≤ maxLen ∧ ∀ b ∈ bs, 0 ≤ b ∧ b < 256) (hk : (Lit.int .i64 at_).wf = true) :
    Calls Try.prog 8 #[.slice A bs.length cap, .int .i64 at_] w fun e w' => e = .returned (.bool true) ∧ Below w.heap.size w w' := by
  obtain ⟨hb, hb1, hb2, hb3⟩ := h0
  have HB3 := Lib.hid hb3
  clear hb3 hk
  go_enter Try.func8, Try.ntmps8
  go_wp2_with fail
  refine (awake_any _).mono ?_
  rintro e w1 ⟨rfl, hE1⟩
  go_wp2_with fail
  refine (tasks_any A cap bs 12 w1 (hb.ext hE1) hb1 hb2 HB3.out (by omega) (by omega)).mono ?_
  rintro e w2 ⟨vT, vP, ts, ps, f, r, rfl, hownT, hownP, hE2, ⟨hn1, hn2⟩, hsm, hasc, hpl, ⟨hf0, hf1⟩, hr0, hr1⟩
  obtain ⟨AT, cT, rfl, hsT, hcT, hcTm⟩ := own_slice hownT
  obtain ⟨AP, cP, rfl, hsP, hcP, hcPm⟩ := own_slice hownP
  have hX2 := Ext.trans hE1 hE2
  clear hE1 hE2 hownT hownP hb
  have hfine := small_fine hsm
  have HFINE := Lib.hid (allFine_of ts hfine)
  have W0 := Lib.hid (worst_small (f := 0) (r := r) hfine hn1 (by omega) (by omega) (by omega) hasc)
  have W1 := Lib.hid (worst_small (f := 1) (r := r) hfine hn1 (by omega) (by omega) (by omega) hasc)
  have WF := Lib.hid (worst_small (f := f) (r := r) hfine hn1 (by omega) (by omega) (by omega) hasc)
  have HSM := Lib.hid hsm
  have HASC := Lib.hid hasc
  clear hsm hasc hfine
  have k0 := worstOf_bd ts ps 0 r HFINE.out (by omega) (by omega) (by omega)
  have k1 := worstOf_bd ts ps 1 r HFINE.out (by omega) (by omega) (by omega)
  have kf := worstOf_bd ts ps f r HFINE.out (by omega) (by omega) (by omega)
  have hn12 : (ts.length : Int) ≤ 12 := by omega
  have hm := modv_bd at_ ts.length (by omega)
  go_wp2_with fail
  refine (worst_any AT cT ts AP cP ps 0 r w2 hsT (by omega) hsP (by omega)).mono ?_
  rintro e w3 ⟨rfl, hE3⟩
  rw [W0.out]
  go_wp2_with fail
  refine (worst_any AT cT ts AP cP ps 1 r w3 (hsT.ext hE3) (by omega) (hsP.ext hE3) (by omega)).mono ?_
  rintro e w4 ⟨rfl, hE4⟩
  rw [W1.out]
  have hE34 := Ext.trans hE3 hE4
  go_wp2_with fail
  refine (worst_any AT cT ts AP cP ps f r w4 (hsT.ext hE34) (by omega) (hsP.ext hE34) (by omega)).mono ?_
  rintro e w5 ⟨rfl, hE5⟩
  rw [WF.out]
  have hE35 := Ext.trans hE34 hE5
  have hsT5 := hsT.ext hE35
  have hsP5 := hsP.ext hE35
  have hX5 := Ext.trans hX2 hE35
  clear hE3 hE4 hE5 hE34 hE35 hsT hsP hX2 W0 W1 WF
  go_wp2_with (at_builtin; refine wpList_append_seg rfl _ _ _ rfl w5.heap.size 46 2 16 (by omega) Try.underlying32 (by kernel_rfl) (.slice none 0 0) 0 [] rfl ⟨by simp, .inl ⟨rfl, rfl⟩⟩ AT ts.length cT (ts.flatMap Tk.cells) rfl hsT5 (Tk.ones ts) (by unfold maxLen; omega) (by omega) (Nat.le_refl _) ?_; intro v' w6 hown6 hg6)
  have hE6 : Ext w5 w6 := Ext.of_grown (v := .slice none 0 0) rfl hg6
  rw [Nat.zero_add, List.nil_append] at hown6
  obtain ⟨g, cap', cur, rfl, hgb, hB⟩ : ∃ g cap' cur, v' = .slice (some ⟨g, 0, none⟩) ts.length cap' ∧ w5.heap.size ≤ g ∧ Blk w6 g 46 cur := by
    rcases hown6.2 with ⟨_, h⟩ | ⟨g, cap', cur, hv, hbase, hh, _⟩
    · omega
    · exact ⟨g, cap', cur, hv, hbase, hh⟩
  have hsM := Seg.of_own hown6
  refine (mod_any at_ ts.length w6 (by omega) (by omega)).mono ?_
  rintro e w' ⟨rfl, rfl⟩
  obtain ⟨k, ek⟩ : ∃ k : Nat, modv at_ ts.length = k := ⟨(modv at_ ts.length).toNat, by omega⟩
  rw [ek] at hm ⊢
  have hkl : k < ts.length := by omega
  obtain ⟨b', off', hA, p0, p1⟩ := Tk.at_ hsM hkl
  injection hA with hA
  injection hA with hA1 hA2
  subst hA1 hA2
  rw [Nat.zero_add] at p0 p1
  have f0 := hB.frozen (k * 2)
  obtain ⟨x, y, ht⟩ : ∃ x y, ts[k] = ⟨x, y⟩ := ⟨_, _, rfl⟩
  rw [ht] at p0 p1
  have hsmall := HSM.out ts[k] (List.getElem_mem hkl)
  rw [ht] at hsmall
  obtain ⟨hx, hy⟩ := hsmall
  simp only at hx hy p0 p1
  have hsM2 := Seg.set1 hsM (p := k * 2) (by rw [flat_len Tk.cells 2 Tk.len]; omega) (.int .i64 (x + 1)) (by omega)
  rw [flat_set0 ts k hkl x y ht (x + 1), Nat.zero_add] at hsM2
  have hE7 : Ext w5 (w6.setCell ⟨g, k * 2, none⟩ (.int .i64 (x + 1))) := Ext.set hE6 hgb _
  have hfine := set_fine HSM.out k x y hx hy
  have WM := Lib.hid (worst_small (ts := ts.set k ⟨x + 1, y⟩) (ps := ps) (f := f) (r := r) hfine (by rw [List.length_set]; omega) (by rw [List.length_set]; omega) (by omega) (by omega) (by rw [List.length_set]; exact HASC.out))
  have km := worstOf_bd (ts.set k ⟨x + 1, y⟩) ps f r (allFine_of _ hfine) (by rw [List.length_set]; omega) (by omega) (by omega)
  obtain ⟨l1, l2, l3, l4⟩ := faults_law ts ps f r k hkl x y (by rw [getD_at ts k noTk hkl, ht]) HFINE.out hf0 hr0
  have HC := Lib.hid (worst_any (some ⟨g, 0, none⟩) cap' (ts.set k ⟨x + 1, y⟩) AP cP ps f r (w6.setCell ⟨g, k * 2, none⟩ (.int .i64 (x + 1))) (by show Seg _ 2 _ (ts.set k ⟨x + 1, y⟩).length _; rw [List.length_set]; exact hsM2) (by rw [List.length_set]; omega) (hsP5.ext hE7) (by omega))
  unfold WorstPost at HC
  rw [List.length_set, WM.out] at HC
  have hX7 := Ext.trans hX5 hE7
  clear WM hfine hsM hsM2 hE7 hE6 hown6 hg6 hB ek
  obtain ⟨v0, e0⟩ : ∃ v, worstOf ts ps 0 r = v := ⟨_, rfl⟩
  obtain ⟨v1, e1⟩ : ∃ v, worstOf ts ps 1 r = v := ⟨_, rfl⟩
  obtain ⟨vf, ef⟩ : ∃ v, worstOf ts ps f r = v := ⟨_, rfl⟩
  obtain ⟨vm, em⟩ : ∃ v, worstOf (ts.set k ⟨x + 1, y⟩) ps f r = v := ⟨_, rfl⟩
  rw [e0] at l1 l4 k0 ⊢
  rw [e1] at l1 l4 k1 ⊢
  rw [ef] at l1 l2 l3 kf ⊢
  rw [em] at l2 l3 km HC
  have hmf := mulf_bd f (v1 - v0) ⟨hf0, hf1⟩ (by omega)
  have hl1 : (vf == v0 + f * (v1 - v0)) = true := beq_iff_eq.2 l1
  clear e0 e1 ef em l1 ht
  go_wp2_with fail
  refine HC.out.mono ?_
  rintro e w8 ⟨rfl, hE8⟩
  go_wp2_with fail
  go_ret
  exact ⟨rfl, Ext.trans hX7 hE8⟩
end Go.Proofs.Ytddcgholnhhcoaa
