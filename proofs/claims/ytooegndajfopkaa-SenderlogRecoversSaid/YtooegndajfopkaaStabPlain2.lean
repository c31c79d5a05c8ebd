/- The stable sort's plain law, second part: the merge, the blocks, the passes. No statement of the seat is proved here. -/
import Derived.Test.YtooegndajfopkaaStabPlain
import Derived.Test.YtooegndajfopkaaSym3
namespace Go.Proofs.Ytooegndajfopkaa
open Go.Sort
set_option linter.unusedVariables false
section
variable {α : Type} [Inhabited α] {lt : α → α → Bool}
omit [Inhabited α] in
theorem srtd_app {A B : List α} : Srtd lt (A ++ B) ↔ Srtd lt A ∧ Srtd lt B ∧ ∀ x ∈ A, ∀ y ∈ B, lt y x = false := List.pairwise_append
theorem symm_law (hO : SWO lt) : ∀ (f : Nat) (d : Array α) (a m b : Nat) (X U V Y : List α), b - a ≤ f → d.toList = X ++ (U ++ (V ++ Y)) → X.length = a → U.length = m - a → V.length = b - m → a < m → m < b → Srtd lt U → Srtd lt V →
    ∃ L, (symm lt f d a m b).toList = X ++ (L ++ Y) ∧ Srtd lt L ∧ Cls lt (U ++ V) L := by
  intro f
  induction f with
  | zero => intro d a m b X U V Y h; omega
  | succ f ih =>
    intro d a m b X U V Y hf hd hX hU hV ham hmb sU sV
    have hdV : d.toList = (X ++ U) ++ (V ++ Y) := by rw [hd]; simp
    have hXU : (X ++ U).length = m := by simp; omega
    by_cases h1 : m - a = 1
    · obtain ⟨u, rfl⟩ : ∃ u, U = [u] := List.length_eq_one_iff.1 (by omega)
      rw [symm, if_pos h1]
      have hu : d[a]! = u := get_at (R := V ++ Y) (by rw [hd]; rfl) hX
      obtain ⟨b1, b2⟩ := bsr_in (fun h => lt d[h]! d[a]!) _ m b (Nat.le_refl _) (by omega)
      obtain ⟨s1, s2⟩ := bsr_spec (fun h => lt d[h]! d[a]!) _ m b (Nat.le_refl _) (by omega) (fun x y hx hxy hy hp => by
        have h1 : lt d[y]! d[x]! = false := srtd_le hO hdV sV hXU hx hxy (by omega)
        cases hc : lt d[x]! d[a]! with
        | true => rfl
        | false => have := hO.ntrans _ _ _ h1 hc; rw [this] at hp; exact hp)
      generalize bsr (fun h => lt d[h]! d[a]!) m b = r at *
      obtain ⟨V1, V2, rfl, hV1⟩ := take_drop_len V (r - m) (by omega)
      have g1 : ∀ v ∈ V1, lt v u = true := fun v hv => by
        obtain ⟨p, hp1, hp2, rfl⟩ := mem_idx (d := d) (X := X ++ [u]) (V := V1) (Y := V2 ++ Y) (by rw [hd]; simp) hXU hv
        have := s1 p hp1 (by omega)
        rwa [hu] at this
      have g2 : ∀ v ∈ V2, lt v u = false := fun v hv => by
        obtain ⟨p, hp1, hp2, rfl⟩ := mem_idx (d := d) (X := (X ++ [u]) ++ V1) (V := V2) (Y := Y) (k := r) (by rw [hd]; simp) (by simp; omega) hv
        rw [List.length_append] at hV
        have := s2 p hp1 (by omega)
        rwa [hu] at this
      obtain ⟨q1, q2, q3⟩ := srtd_app.1 sV
      refine ⟨V1 ++ u :: V2, ?_, ?_, ?_⟩
      · rw [upS_list (r - 1) V1 a d X u (V2 ++ Y) (by rw [hd]; simp) hX (by omega)]
        simp
      · refine srtd_app.2 ⟨q1, List.pairwise_cons.2 ⟨g2, q2⟩, fun x hx y hy => ?_⟩
        rcases List.mem_cons.1 hy with rfl | hy
        · exact SWO.asy hO (g1 x hx)
        · exact q3 x hx y hy
      · have := (Cls.swap hO (U := [u]) (V := V1) (fun x hx v hv => by rw [List.mem_singleton] at hx; rw [hx]; exact g1 v hv)).app (Cls.refl V2)
        simpa using this
    · by_cases h2 : b - m = 1
      · obtain ⟨v, rfl⟩ : ∃ v, V = [v] := List.length_eq_one_iff.1 (by omega)
        rw [symm, if_neg h1, if_pos h2]
        have hv : d[m]! = v := get_at (R := Y) (by rw [hdV]; rfl) hXU
        obtain ⟨b1, b2⟩ := bsr_in (fun h => !lt d[m]! d[h]!) _ a m (Nat.le_refl _) (by omega)
        obtain ⟨s1, s2⟩ := bsr_spec (fun h => !lt d[m]! d[h]!) _ a m (Nat.le_refl _) (by omega) (fun x y hx hxy hy hp => by
          have h1 : lt d[y]! d[x]! = false := srtd_le hO hd sU hX hx hxy (by omega)
          have h3 : lt d[m]! d[y]! = false := by simpa using hp
          rw [hO.ntrans _ _ _ h3 h1]; rfl)
        generalize bsr (fun h => !lt d[m]! d[h]!) a m = r at *
        obtain ⟨U1, U2, rfl, hU1⟩ := take_drop_len U (r - a) (by omega)
        rw [List.length_append] at hU
        have g1 : ∀ u ∈ U1, lt v u = false := fun u hu => by
          obtain ⟨p, hp1, hp2, rfl⟩ := mem_idx (d := d) (X := X) (V := U1) (Y := U2 ++ ([v] ++ Y)) (by rw [hd]; simp) hX hu
          have := s1 p hp1 (by omega)
          rw [hv] at this
          simpa using this
        have g2 : ∀ u ∈ U2, lt v u = true := fun u hu => by
          obtain ⟨p, hp1, hp2, rfl⟩ := mem_idx (d := d) (X := X ++ U1) (V := U2) (Y := [v] ++ Y) (k := r) (by rw [hd]; simp) (by simp; omega) hu
          have := s2 p hp1 (by omega)
          rw [hv] at this
          simpa using this
        obtain ⟨q1, q2, q3⟩ := srtd_app.1 sU
        refine ⟨U1 ++ v :: U2, ?_, ?_, ?_⟩
        · rw [dnS_list r _ U2 m d (X ++ U1) v Y rfl (by rw [hd]; simp) (by simp; omega) (by omega)]
          simp
        · refine srtd_app.2 ⟨q1, List.pairwise_cons.2 ⟨fun y hy => SWO.asy hO (g2 y hy), q2⟩, fun x hx y hy => ?_⟩
          rcases List.mem_cons.1 hy with rfl | hy
          · exact g1 x hx
          · exact q3 x hx y hy
        · have := (Cls.refl U1).app (Cls.swap hO (U := U2) (V := [v]) (fun x hx y hy => by rw [List.mem_singleton] at hy; rw [hy]; exact g2 x hx))
          simpa using this
      · obtain ⟨s, hs, k1, k2, k3, k4, F1, F2⟩ := symS_facts hO d a m b X U V Y hd hX hU hV ham hmb sU sV
        obtain ⟨mid, hmid⟩ : ∃ q, q = (a + b) / 2 := ⟨_, rfl⟩
        obtain ⟨e, he⟩ : ∃ e, e = mid + m - s := ⟨_, rfl⟩
        have hm1 : a < mid := by omega
        have hm2 : mid < b := by omega
        rw [symm, if_neg h1, if_neg h2]
        dsimp only
        rw [← hs, ← hmid, ← he]
        rw [← hmid] at k3 k4 F1 F2
        rw [show mid + m - 1 - s = e - 1 by omega] at F1
        rw [← he] at F2 k4
        have he1 : e + s = mid + m := by omega
        clear hs hmid he
        obtain ⟨U1, U2, rfl, hU1⟩ := take_drop_len U (s - a) (by omega)
        obtain ⟨V1, V2, rfl, hV1⟩ := take_drop_len V (e - m) (by omega)
        rw [List.length_append] at hU hV
        obtain ⟨u1, u2, u3⟩ := srtd_app.1 sU
        obtain ⟨v1, v2, v3⟩ := srtd_app.1 sV
        have G1 : ∀ u ∈ U2, ∀ v ∈ V1, lt v u = true := fun u hu v hv => by
          have l1 := List.length_pos_of_mem hu
          have l2 := List.length_pos_of_mem hv
          have hF := F1 (by omega) (by omega)
          obtain ⟨p, hp1, hp2, rfl⟩ := mem_idx (d := d) (X := X ++ U1) (V := U2) (Y := V1 ++ (V2 ++ Y)) (k := s) (by rw [hd]; simp) (by simp; omega) hu
          obtain ⟨q, hq1, hq2, rfl⟩ := mem_idx (d := d) (X := X ++ (U1 ++ U2)) (V := V1) (Y := V2 ++ Y) (k := m) (by rw [hd]; simp) hXU hv
          have t1 : lt d[p]! d[s]! = false := srtd_le hO (d := d) (X := X ++ U1) (V := U2) (Y := V1 ++ (V2 ++ Y)) (k := s) (by rw [hd]; simp) u2 (by simp; omega) (Nat.le_refl _) hp1 hp2
          have t2 : lt d[e - 1]! d[q]! = false := srtd_le hO (d := d) (X := X ++ (U1 ++ U2)) (V := V1) (Y := V2 ++ Y) (k := m) (by rw [hd]; simp) v1 hXU hq1 (by omega) (by omega)
          cases hc : lt d[q]! d[p]! with
          | true => rfl
          | false =>
            have := hO.ntrans _ _ _ (hO.ntrans _ _ _ t2 hc) t1
            rw [this] at hF; exact hF
        have G2 : ∀ u ∈ U1, ∀ v ∈ V2, lt v u = false := fun u hu v hv => by
          have l1 := List.length_pos_of_mem hu
          have l2 := List.length_pos_of_mem hv
          have hF := F2 (by omega) (by omega)
          obtain ⟨p, hp1, hp2, rfl⟩ := mem_idx (d := d) (X := X) (V := U1) (Y := U2 ++ ((V1 ++ V2) ++ Y)) (k := a) (by rw [hd]; simp) hX hu
          obtain ⟨q, hq1, hq2, rfl⟩ := mem_idx (d := d) (X := X ++ (U1 ++ U2) ++ V1) (V := V2) (Y := Y) (k := e) (by rw [hd]; simp) (by simp; omega) hv
          have t1 : lt d[s - 1]! d[p]! = false := srtd_le hO (d := d) (X := X) (V := U1) (Y := U2 ++ ((V1 ++ V2) ++ Y)) (k := a) (by rw [hd]; simp) u1 hX hp1 (by omega) (by omega)
          have t2 : lt d[q]! d[e]! = false := srtd_le hO (d := d) (X := X ++ (U1 ++ U2) ++ V1) (V := V2) (Y := Y) (k := e) (by rw [hd]; simp) v2 (by simp; omega) (Nat.le_refl _) hq1 hq2
          exact hO.ntrans _ _ _ (hO.ntrans _ _ _ t2 hF) t1
        -- the rotation
        obtain ⟨d1, hd1, z1, e1⟩ : ∃ d1, (if s < m ∧ m < e then rotL d m (m - s) (e - m) else d) = d1 ∧ d1.size = d.size ∧ d1.toList = X ++ (U1 ++ (V1 ++ (U2 ++ (V2 ++ Y)))) := by
          refine ⟨_, rfl, ?_, ?_⟩
          · split
            · exact size_rotL _ _ _ _ _ (Nat.le_refl _)
            · rfl
          · split
            · rw [rotL_list m _ (m - s) (e - m) d (X ++ U1) U2 V1 (V2 ++ Y) (Nat.le_refl _) (by omega) (by omega) (by rw [hd]; simp) (by simp; omega) (by omega) hV1]
              simp
            · rw [hd]
              rcases (by omega : U2.length = 0 ∨ V1.length = 0) with h | h
              · rw [List.eq_nil_of_length_eq_zero h]; simp
              · rw [List.eq_nil_of_length_eq_zero h]; simp
        rw [hd1]
        obtain ⟨d2, hd2, z2, L1, e2, sL1, cL1⟩ : ∃ d2, (if a < s ∧ s < mid then symm lt f d1 a s mid else d1) = d2 ∧ d2.size = d1.size ∧ ∃ L1, d2.toList = X ++ (L1 ++ (U2 ++ (V2 ++ Y))) ∧ Srtd lt L1 ∧ Cls lt (U1 ++ V1) L1 := by
          refine ⟨_, rfl, ?_, ?_⟩
          · split
            · exact size_symm _ _ _ _ _ _
            · rfl
          · split
            · exact ih d1 a s mid X U1 V1 (U2 ++ (V2 ++ Y)) (by omega) e1 hX hU1 (by omega) (by omega) (by omega) u1 v1
            · refine ⟨U1 ++ V1, by rw [e1]; simp, ?_, Cls.refl _⟩
              rcases (by omega : U1.length = 0 ∨ V1.length = 0) with h | h
              · rw [List.eq_nil_of_length_eq_zero h]; exact v1
              · rw [List.eq_nil_of_length_eq_zero h, List.append_nil]; exact u1
        rw [hd2]
        have lL1 : X.length + L1.length = mid := by
          have a1 : d2.toList.length = d1.toList.length := z2
          rw [e1, e2] at a1
          simp only [List.length_append] at a1
          omega
        have e2' : d2.toList = (X ++ L1) ++ (U2 ++ (V2 ++ Y)) := by rw [e2]; simp
        obtain ⟨L2, e3, sL2, cL2⟩ : ∃ L2, (if mid < e ∧ e < b then symm lt f d2 mid e b else d2).toList = (X ++ L1) ++ (L2 ++ Y) ∧ Srtd lt L2 ∧ Cls lt (U2 ++ V2) L2 := by
          split
          · exact ih d2 mid e b (X ++ L1) U2 V2 Y (by omega) e2' (by simp; omega) (by omega) (by omega) (by omega) (by omega) u2 v2
          · refine ⟨U2 ++ V2, by rw [e2']; simp, ?_, Cls.refl _⟩
            rcases (by omega : U2.length = 0 ∨ V2.length = 0) with h | h
            · rw [List.eq_nil_of_length_eq_zero h]; exact v2
            · rw [List.eq_nil_of_length_eq_zero h, List.append_nil]; exact u2
        refine ⟨L1 ++ L2, by rw [e3]; simp, srtd_app.2 ⟨sL1, sL2, fun x hx y hy => ?_⟩, ?_⟩
        · have hx' := cL1.symm.mem hO hx
          have hy' := cL2.symm.mem hO hy
          rcases List.mem_append.1 hx' with p | p <;> rcases List.mem_append.1 hy' with q | q
          · exact u3 x p y q
          · exact G2 x p y q
          · exact SWO.asy hO (G1 y q x p)
          · exact v3 x p y q
        · have c1 : Cls lt ((U1 ++ U2) ++ (V1 ++ V2)) ((U1 ++ V1) ++ (U2 ++ V2)) := by
            have := ((Cls.refl (lt := lt) U1).app (Cls.swap hO G1)).app (Cls.refl V2)
            simpa using this
          exact c1.trans (cL1.app cL2)

/-! ### by places -/
omit [Inhabited α] in
theorem split3 (d : Array α) (a m b : Nat) (ham : a ≤ m) (hmb : m ≤ b) (hb : b ≤ d.size) : ∃ X U V Y : List α, d.toList = X ++ (U ++ (V ++ Y)) ∧ X.length = a ∧ U.length = m - a ∧ V.length = b - m := by
  obtain ⟨X, R, h1, h2⟩ := take_drop_len d.toList a (by rw [Array.length_toList]; omega)
  have l1 : X.length + R.length = d.size := by rw [← List.length_append, ← h1, Array.length_toList]
  obtain ⟨U, S, h3, h4⟩ := take_drop_len R (m - a) (by omega)
  have l2 : U.length + S.length = R.length := by rw [← List.length_append, ← h3]
  obtain ⟨V, Y, h5, h6⟩ := take_drop_len S (b - m) (by omega)
  exact ⟨X, U, V, Y, by rw [h1, h3, h5], h2, h4, h6⟩
theorem srtd_of_idx {d : Array α} {X V Y : List α} (h : d.toList = X ++ (V ++ Y)) {k e : Nat} (hk : X.length = k) (he : k + V.length = e) (hs : SortedIn lt k e d) : Srtd lt V := by
  refine List.pairwise_iff_getElem.2 fun i j hi hj hij => ?_
  rw [← get_in h hk hi, ← get_in h hk hj]
  exact hs _ _ (by omega) (by omega) (by omega)
theorem same_out {d d' : Array α} {X L L' Y : List α} (h : d.toList = X ++ (L ++ Y)) (h' : d'.toList = X ++ (L' ++ Y)) (hl : L.length = L'.length) {a b : Nat} (hX : X.length = a) (hb : a + L.length = b) : ∀ i, i < a ∨ b ≤ i → d'[i]! = d[i]! := by
  intro i hi
  have e : d'.toList[i]? = d.toList[i]? := by
    rw [h, h']
    rcases hi with hi | hi
    · rw [List.getElem?_append_left (by omega), List.getElem?_append_left (by omega)]
    · rw [List.getElem?_append_right (by omega), List.getElem?_append_right (by omega), List.getElem?_append_right (by omega), List.getElem?_append_right (by omega), hl]
  rw [Array.getElem?_toList, Array.getElem?_toList] at e
  rw [getElem!_def, getElem!_def, e]
theorem symm_idx (hO : SWO lt) (f : Nat) (d : Array α) (a m b : Nat) (hf : b - a ≤ f) (ham : a < m) (hmb : m < b) (hb : b ≤ d.size) (h1 : SortedIn lt a m d) (h2 : SortedIn lt m b d) :
    SortedIn lt a b (symm lt f d a m b) ∧ (∀ i, i < a ∨ b ≤ i → (symm lt f d a m b)[i]! = d[i]!) ∧ Cls lt d.toList (symm lt f d a m b).toList := by
  obtain ⟨X, U, V, Y, hd, hX, hU, hV⟩ := split3 d a m b (by omega) (by omega) hb
  have hdV : d.toList = (X ++ U) ++ (V ++ Y) := by rw [hd]; simp
  obtain ⟨L, e, sL, cL⟩ := symm_law hO f d a m b X U V Y hf hd hX hU hV ham hmb (srtd_of_idx hd hX (by omega) h1) (srtd_of_idx hdV (k := m) (by simp; omega) (by omega) h2)
  have hsz : (symm lt f d a m b).toList.length = d.toList.length := size_symm _ _ _ _ _ _
  rw [e, hd] at hsz
  simp only [List.length_append] at hsz
  refine ⟨fun i j hi hij hj => srtd_idx e sL hX hi hij (by omega), same_out (L := U ++ V) (by rw [hd]; simp) e (by simp; omega) hX (by simp; omega), ?_⟩
  rw [e, hd]
  have := (Cls.refl (lt := lt) X).app (cL.app (Cls.refl Y))
  simpa using this

/-! ### insertion keeps the order of equals -/
theorem cls_adj (hO : SWO lt) (d : Array α) (j : Nat) (hj : j + 1 < d.size) (hl : lt d[j + 1]! d[j]! = true) : Cls lt d.toList (swp d (j + 1) j).toList := by
  obtain ⟨X, U, V, Y, hd, hX, hU, hV⟩ := split3 d j (j + 1) (j + 2) (by omega) (by omega) (by omega)
  obtain ⟨u, rfl⟩ := List.length_eq_one_iff.1 (show U.length = 1 by omega)
  obtain ⟨v, rfl⟩ := List.length_eq_one_iff.1 (show V.length = 1 by omega)
  have e1 : d[j]! = u := get_at (R := [v] ++ Y) (by rw [hd]; rfl) hX
  have e2 : d[j + 1]! = v := get_at (X := X ++ [u]) (R := Y) (by rw [hd]; simp) (by simp; omega)
  rw [e1, e2] at hl
  rw [(swp_list (d := d) (X := X) (M := []) (Y := Y) (x := u) (y := v) (i := j) (j := j + 1) (by rw [hd]; rfl) hX rfl).2, hd]
  have := (Cls.refl (lt := lt) X).app ((Cls.swap hO (U := [u]) (V := [v]) (fun x hx y hy => by rw [List.mem_singleton] at hx hy; rw [hx, hy]; exact hl)).app (Cls.refl Y))
  simpa using this
theorem cls_inner (hO : SWO lt) (a : Nat) : ∀ (j : Nat) (d : Array α), j < d.size → Cls lt d.toList (insInner lt a j d).toList ∧ (insInner lt a j d).size = d.size := by
  intro j
  induction j with
  | zero => intro d h; rw [insInner]; exact ⟨Cls.refl _, rfl⟩
  | succ j ih =>
    intro d h
    rw [insInner]
    split
    · rename_i hc
      rw [Bool.and_eq_true] at hc
      obtain ⟨c, z⟩ := ih (swp d (j + 1) j) (by rw [size_swp]; omega)
      exact ⟨(cls_adj hO d j h hc.2).trans c, z.trans (size_swp _ _ _)⟩
    · exact ⟨Cls.refl _, rfl⟩
theorem cls_outer (hO : SWO lt) (a b : Nat) : ∀ (n i : Nat) (d : Array α), b - i ≤ n → b ≤ d.size → Cls lt d.toList (insOuter lt a b i d).toList := by
  intro n
  induction n with
  | zero => intro i d h hb; rw [insOuter, if_neg (by omega)]; exact Cls.refl _
  | succ n ih =>
    intro i d h hb
    by_cases hi : i < b
    · obtain ⟨c, z⟩ := cls_inner hO a i d (by omega)
      rw [insOuter, if_pos hi]
      exact c.trans (ih (i + 1) _ (by omega) (by omega))
    · rw [insOuter, if_neg hi]; exact Cls.refl _
theorem ins_idx (hO : SWO lt) (d : Array α) (a b : Nat) (hab : a ≤ b) (hb : b ≤ d.size) :
    SortedIn lt a b (insertionSort lt d a b) ∧ (∀ i, i < a ∨ b ≤ i → (insertionSort lt d a b)[i]! = d[i]!) ∧ Cls lt d.toList (insertionSort lt d a b).toList ∧ (insertionSort lt d a b).size = d.size := by
  obtain ⟨⟨h1, h2, _⟩, h3⟩ := insertionSort_holds hO d a b hab hb
  exact ⟨h3, h2, cls_outer hO a b _ _ d (Nat.le_refl _) hb, h1⟩

/-! ### the blocks and the passes -/
/-- sorted block by block -/
def Blks (lt : α → α → Bool) (s n : Nat) (d : Array α) : Prop := ∀ k i j, k * s ≤ i → i < j → j < k * s + s → j < n → lt d[j]! d[i]! = false
theorem blks_of (lt : α → α → Bool) (s n : Nat) (d : Array α) (k : Nat) (hl : ∀ k' i j, k' < k → k' * s ≤ i → i < j → j < k' * s + s → lt d[j]! d[i]! = false) (hr : ∀ i j, k * s ≤ i → i < j → j < n → lt d[j]! d[i]! = false) : Blks lt s n d := by
  intro k' i j h1 h2 h3 h4
  by_cases hk : k' < k
  · exact hl k' i j hk h1 h2 h3
  · have : k * s ≤ k' * s := Nat.mul_le_mul_right s (by omega)
    exact hr i j (by omega) h2 h4
theorem insB_law (hO : SWO lt) (n : Nat) : ∀ (N k : Nat) (d : Array α), n - k * 20 ≤ N → k * 20 ≤ n → n ≤ d.size → (∀ k' i j, k' < k → k' * 20 ≤ i → i < j → j < k' * 20 + 20 → lt d[j]! d[i]! = false) →
    Blks lt 20 n (insB lt d (k * 20) n) ∧ Cls lt d.toList (insB lt d (k * 20) n).toList ∧ (insB lt d (k * 20) n).size = d.size := by
  intro N
  induction N with
  | zero =>
    intro k d h1 h2 h3 hl
    rw [insB_end _ _ (by omega)]
    obtain ⟨q1, q2, q3, q4⟩ := ins_idx hO d (k * 20) n h2 h3
    refine ⟨blks_of lt 20 n _ k (fun k' i j a b c e => ?_) (fun i j a b c => q1 i j a b c), q3, q4⟩
    rw [q2 i (.inl (by omega)), q2 j (.inl (by omega))]
    exact hl k' i j a b c e
  | succ N ih =>
    intro k d h1 h2 h3 hl
    by_cases hc : k * 20 + 20 ≤ n
    · rw [insB_go _ _ hc]
      obtain ⟨q1, q2, q3, q4⟩ := ins_idx hO d (k * 20) (k * 20 + 20) (by omega) (by omega)
      obtain ⟨r1, r2, r3⟩ := ih (k + 1) (insertionSort lt d (k * 20) (k * 20 + 20)) (by omega) (by omega) (by omega) (fun k' i j a b c e => by
        by_cases hk : k' < k
        · rw [q2 i (.inl (by omega)), q2 j (.inl (by omega))]
          exact hl k' i j hk b c e
        · obtain rfl : k' = k := by omega
          exact q1 i j b c e)
      rw [show (k + 1) * 20 = k * 20 + 20 by omega] at r1 r2 r3
      exact ⟨r1, q3.trans r2, r3.trans q4⟩
    · rw [insB_end _ _ hc]
      obtain ⟨q1, q2, q3, q4⟩ := ins_idx hO d (k * 20) n h2 h3
      refine ⟨blks_of lt 20 n _ k (fun k' i j a b c e => ?_) (fun i j a b c => q1 i j a b c), q3, q4⟩
      rw [q2 i (.inl (by omega)), q2 j (.inl (by omega))]
      exact hl k' i j a b c e
theorem mrgP_law (hO : SWO lt) (s n : Nat) (hs : 0 < s) : ∀ (N k : Nat) (d : Array α), n - k * (2 * s) ≤ N → k * (2 * s) ≤ n → n ≤ d.size → (∀ k' i j, k' < k → k' * (2 * s) ≤ i → i < j → j < k' * (2 * s) + 2 * s → lt d[j]! d[i]! = false) →
    (∀ k' i j, k * (2 * s) ≤ k' * s → k' * s ≤ i → i < j → j < k' * s + s → j < n → lt d[j]! d[i]! = false) →
    Blks lt (2 * s) n (mrgP lt s n d (k * (2 * s))) ∧ Cls lt d.toList (mrgP lt s n d (k * (2 * s))).toList ∧ (mrgP lt s n d (k * (2 * s))).size = d.size := by
  intro N
  induction N with
  | zero =>
    intro k d h1 h2 h3 hl hr
    rw [mrgP_end _ _ _ _ _ (by omega) (by omega)]
    exact ⟨blks_of lt _ n d k hl (fun i j a b c => by omega), Cls.refl _, rfl⟩
  | succ N ih =>
    intro k d h1 h2 h3 hl hr
    have eA : (k * 2) * s = k * (2 * s) := Nat.mul_assoc _ _ _
    have eB : (k * 2 + 1) * s = k * (2 * s) + s := by rw [Nat.add_mul, eA, Nat.one_mul]
    have eC : (k + 1) * (2 * s) = k * (2 * s) + 2 * s := by rw [Nat.add_mul, Nat.one_mul]
    obtain ⟨A, hA⟩ : ∃ A, A = k * (2 * s) := ⟨_, rfl⟩
    by_cases hc : k * (2 * s) + 2 * s ≤ n
    · rw [mrgP_go _ _ _ _ _ hs hc]
      obtain ⟨q1, q2, q3⟩ := symm_idx hO n d (k * (2 * s)) (k * (2 * s) + s) (k * (2 * s) + 2 * s) (by omega) (by omega) (by omega) (by omega)
        (fun i j a b c => hr (k * 2) i j (by rw [eA]; exact Nat.le_refl _) (by rw [eA]; exact a) b (by rw [eA]; exact c) (by omega))
        (fun i j a b c => hr (k * 2 + 1) i j (by rw [eB]; omega) (by rw [eB]; exact a) b (by rw [eB]; omega) (by omega))
      have q4 := size_symm lt n d (k * (2 * s)) (k * (2 * s) + s) (k * (2 * s) + 2 * s)
      obtain ⟨r1, r2, r3⟩ := ih (k + 1) (symm lt n d (k * (2 * s)) (k * (2 * s) + s) (k * (2 * s) + 2 * s)) (by omega) (by omega) (by omega) (fun k' i j a b c e => by
        by_cases hk : k' < k
        · have : (k' + 1) * (2 * s) ≤ k * (2 * s) := Nat.mul_le_mul_right _ (by omega)
          rw [Nat.add_mul, Nat.one_mul] at this
          rw [q2 i (.inl (by omega)), q2 j (.inl (by omega))]
          exact hl k' i j hk b c e
        · obtain rfl : k' = k := by omega
          exact q1 i j b c e) (fun k' i j a b c e f => by
        rw [q2 i (.inr (by omega)), q2 j (.inr (by omega))]
        exact hr k' i j (by omega) b c e f)
      rw [eC] at r1 r2 r3
      exact ⟨r1, q3.trans r2, r3.trans q4⟩
    · by_cases hc2 : k * (2 * s) + s < n
      · rw [mrgP_one _ _ _ _ _ hc hc2]
        obtain ⟨q1, q2, q3⟩ := symm_idx hO n d (k * (2 * s)) (k * (2 * s) + s) n (by omega) (by omega) (by omega) (by omega)
          (fun i j a b c => hr (k * 2) i j (by rw [eA]; exact Nat.le_refl _) (by rw [eA]; exact a) b (by rw [eA]; exact c) (by omega))
          (fun i j a b c => hr (k * 2 + 1) i j (by rw [eB]; omega) (by rw [eB]; exact a) b (by rw [eB]; omega) (by omega))
        refine ⟨blks_of lt _ n _ k (fun k' i j a b c e => ?_) (fun i j a b c => q1 i j a b c), q3, size_symm _ _ _ _ _ _⟩
        have : (k' + 1) * (2 * s) ≤ k * (2 * s) := Nat.mul_le_mul_right _ (by omega)
        rw [Nat.add_mul, Nat.one_mul] at this
        rw [q2 i (.inl (by omega)), q2 j (.inl (by omega))]
        exact hl k' i j a b c e
      · rw [mrgP_end _ _ _ _ _ hc hc2]
        exact ⟨blks_of lt _ n d k hl (fun i j a b c => hr (k * 2) i j (by rw [eA]; exact Nat.le_refl _) (by rw [eA]; exact a) b (by rw [eA]; omega) c), Cls.refl _, rfl⟩
theorem mrgA_law (hO : SWO lt) (n : Nat) : ∀ (N s : Nat) (d : Array α), n - s ≤ N → 0 < s → n ≤ d.size → Blks lt s n d →
    SortedIn lt 0 n (mrgA lt s n d) ∧ Cls lt d.toList (mrgA lt s n d).toList ∧ (mrgA lt s n d).size = d.size := by
  intro N
  induction N with
  | zero =>
    intro s d h1 hs h2 hb
    rw [mrgA_end _ _ _ _ (by omega)]
    exact ⟨fun i j a b c => hb 0 i j (by omega) b (by omega) c, Cls.refl _, rfl⟩
  | succ N ih =>
    intro s d h1 hs h2 hb
    by_cases hc : s < n
    · rw [mrgA_go _ _ _ _ hs hc]
      have hp := mrgP_law hO s n hs _ 0 d (Nat.le_refl _) (by omega) h2 (fun k' i j a => absurd a (Nat.not_lt_zero _)) (fun k' i j a b c e f => hb k' i j b c e f)
      rw [Nat.zero_mul] at hp
      obtain ⟨p1, p2, p3⟩ := hp
      rw [Nat.mul_comm s 2]
      obtain ⟨r1, r2, r3⟩ := ih (2 * s) _ (by omega) (by omega) (by omega) p1
      exact ⟨r1, p2.trans r2, r3.trans p3⟩
    · rw [mrgA_end _ _ _ _ hc]
      exact ⟨fun i j a b c => hb 0 i j (by omega) b (by omega) c, Cls.refl _, rfl⟩
/-- THE STABLE SORT: sorted, and equals in their order -/
theorem stable_law (hO : SWO lt) (d : Array α) : Srtd lt (mrgA lt 20 d.size (insB lt d 0 d.size)).toList ∧ Cls lt d.toList (mrgA lt 20 d.size (insB lt d 0 d.size)).toList ∧ (mrgA lt 20 d.size (insB lt d 0 d.size)).size = d.size := by
  have h := insB_law hO d.size _ 0 d (Nat.le_refl _) (by omega) (Nat.le_refl _) (fun k' i j a => absurd a (Nat.not_lt_zero _))
  rw [Nat.zero_mul] at h
  obtain ⟨h1, h2, h3⟩ := h
  obtain ⟨r1, r2, r3⟩ := mrgA_law hO d.size _ 20 _ (Nat.le_refl _) (by omega) (by omega) h1
  refine ⟨?_, h2.trans r2, r3.trans h3⟩
  refine srtd_of_idx (X := []) (Y := []) (k := 0) (e := d.size) (by simp) rfl (by rw [Array.length_toList]; omega) r1
end
end Go.Proofs.Ytooegndajfopkaa
