/- Searching for the greatest index with a good past, in plain Lean. No statement of the seat is proved here. -/
import Derived.Test.YtcljdkjlfciacaaPastPlain2
namespace Go.Proofs.Ytcljdkjlfciacaa
set_option linter.unusedVariables false

theorem least_nat {P : Nat → Prop} : ∀ n, P n → ∃ m, P m ∧ ∀ k, P k → m ≤ k := by
  intro n
  induction n using Nat.strongRecOn with
  | ind n ih =>
    intro hn
    by_cases h : ∃ k, k < n ∧ P k
    · obtain ⟨k, hk, hp⟩ := h
      exact ih k hk hp
    · exact ⟨n, hn, fun k hk => Nat.le_of_not_lt fun hlt => h ⟨k, hlt, hk⟩⟩
theorem past_exists (L : Lin) (p : Nat) (i : Int) (hp : p < L.length) : ∃ r, IsPast L p i r := by
  by_cases h : ∃ y, GoodY L p i y
  · have hm : ∀ q, ∃ m : Nat, q < L.length → (∃ y, GoodY L p i y ∧ y q = (m : Int)) ∧ ∀ y, GoodY L p i y → (m : Int) ≤ y q := by
      intro q
      by_cases hq : q < L.length
      · obtain ⟨y, hy⟩ := h
        obtain ⟨m, ⟨y', hy', he⟩, hl⟩ := least_nat (P := fun n => ∃ y, GoodY L p i y ∧ y q = (n : Int)) (y q).toNat ⟨y, hy, by have := hy.lo q hq; omega⟩
        refine ⟨m, fun _ => ⟨⟨y', hy', he⟩, fun z hz => ?_⟩⟩
        have := hl (z q).toNat ⟨z, hz, by have := hz.lo q hq; omega⟩
        have := hz.lo q hq
        omega
      · exact ⟨0, fun h => absurd h hq⟩
    have hx : ∀ q, q < L.length → elX ((List.range L.length).map fun q => ((Classical.choose (hm q) : Nat) : Int)) q = ((Classical.choose (hm q) : Nat) : Int) := fun q hq => by
      unfold elX
      rw [List.getD_eq_getElem?_getD, List.getElem?_map, List.getElem?_range hq]
      rfl
    refine ⟨some ((List.range L.length).map fun q => ((Classical.choose (hm q) : Nat) : Int)), by simp, ⟨?_, fun q hq => ?_, fun q hq => ?_, fun q k e hq hk he hr => ?_⟩, fun y hy q hq => ?_⟩
    · rw [hx p hp]
      obtain ⟨⟨y, hy, e⟩, _⟩ := Classical.choose_spec (hm p) hp
      rw [← e]; exact hy.start
    · rw [hx q hq]; omega
    · rw [hx q hq]
      obtain ⟨⟨y, hy, e⟩, _⟩ := Classical.choose_spec (hm q) hq
      rw [← e]; exact hy.hi q hq
    · rw [hx q hq] at hk
      obtain ⟨⟨y, hy, ey⟩, hl⟩ := Classical.choose_spec (hm q) hq
      have h1 := (hy.evs q k e hq (by rw [ey]; exact hk) he hr).1
      have h2 := (sentB_spec h1).2.1
      refine ⟨h1, ?_⟩
      rw [hx _ h2]
      obtain ⟨⟨z, hz, ez⟩, _⟩ := Classical.choose_spec (hm e.frm.toNat) h2
      rw [← ez]
      exact (hz.evs q k e hq (by have := hl z hz; omega) he hr).2
    · rw [hx q hq]
      exact (Classical.choose_spec (hm q) hq).2 y hy
  · exact ⟨none, fun y hy => h ⟨y, hy⟩⟩
/-- what is known of the list that Past gives -/
theorem pastL_cases {L : Lin} {p : Nat} {i : Int} (hp : p < L.length) (h0 : 0 ≤ i) (hi : i ≤ ((rowL L p).length : Int)) : (pastL L (p : Int) i = [] ∧ IsPast L p i none) ∨ ∃ X, pastL L (p : Int) i = X ∧ IsPast L p i (some X) ∧ X.length = L.length := by
  obtain ⟨r, hr⟩ := past_exists L p i hp
  have := pastL_some hp h0 hi hr
  cases r with
  | none => exact .inl ⟨this, hr⟩
  | some X => exact .inr ⟨X, this, hr, hr.1⟩
theorem pastL_len (L : Lin) (p i : Int) : (pastL L p i).length ≤ L.length := by
  by_cases h : 0 ≤ p ∧ p < (L.length : Int) ∧ 0 ≤ i ∧ i ≤ ((rowL L p.toNat).length : Int)
  · obtain ⟨q, rfl⟩ : ∃ q : Nat, p = q := ⟨p.toNat, by omega⟩
    rcases pastL_cases (L := L) (p := q) (i := i) (by omega) (by omega) (by have := h.2.2.2; rwa [show ((q : Int)).toNat = q by omega] at this) with ⟨h, _⟩ | ⟨X, h, _, hl⟩
    · rw [h]; exact Nat.zero_le _
    · rw [h, hl]; exact Nat.le_refl _
  · rw [pastL_none h]; exact Nat.zero_le _
theorem pastL_lo {L : Lin} {p : Nat} {i : Int} (hp : p < L.length) (h0 : 0 ≤ i) (hi : i ≤ ((rowL L p).length : Int)) (q : Nat) : 0 ≤ elX (pastL L (p : Int) i) q := by
  rcases pastL_cases hp h0 hi with ⟨h, _⟩ | ⟨X, h, hX, hl⟩
  · rw [h]; exact Int.le_refl _
  · rw [h]
    by_cases hq : q < L.length
    · exact hX.2.1.lo q hq
    · unfold elX; rw [List.getD_eq_getElem?_getD, List.getElem?_eq_none (by omega)]; exact Int.le_refl _
/-- the greatest index that is good, 0 if there is none -/
def bestK (good : Nat → Bool) : Nat → Nat
  | 0 => 0
  | n + 1 => if good (n + 1) then n + 1 else bestK good n
theorem bestK_le (good : Nat → Bool) : ∀ n, bestK good n ≤ n
  | 0 => Nat.le_refl _
  | n + 1 => by
    unfold bestK
    split
    · exact Nat.le_refl _
    · exact Nat.le_succ_of_le (bestK_le good n)
theorem bestK_eq {good p : Nat → Bool} (hg : ∀ k, p k = !good (k + 1)) : ∀ n r, r ≤ n → (∀ t, t < r → p t = false) → (∀ t, r ≤ t → t < n → p t = true) → bestK good n = r := by
  intro n
  induction n with
  | zero => intro r hr _ _; unfold bestK; omega
  | succ n ih =>
    intro r hr h1 h2
    unfold bestK
    by_cases e : r = n + 1
    · subst e
      have := h1 n (by omega)
      rw [hg] at this
      rw [if_pos (by simpa using this)]
    · have := h2 n (by omega) (by omega)
      rw [hg] at this
      rw [if_neg (by simpa using this)]
      exact ih r (by omega) h1 (fun t a b => h2 t a (by omega))
/-- the past exists and meets a condition -/
noncomputable def goodB (L : Lin) (mt : List Int → Bool) (q : Nat) (k : Nat) : Bool := decide (0 < (pastL L (q : Int) (k : Int)).length) && mt (pastL L (q : Int) (k : Int))
noncomputable def searchL (L : Lin) (mt : List Int → Bool) : List Int := (List.range L.length).map fun q => ((bestK (goodB L mt q) (rowL L q).length : Nat) : Int)
def Mono (L : Lin) (mt : List Int → Bool) : Prop := ∀ X Y, X.length = L.length → Y.length = L.length → LeX L X Y → mt Y = true → mt X = true
theorem good_down {L : Lin} {mt : List Int → Bool} (hm : Mono L mt) {q : Nat} (hq : q < L.length) {a b : Nat} (hab : a ≤ b) (hb : b ≤ (rowL L q).length) (h : goodB L mt q b = true) : goodB L mt q a = true := by
  unfold goodB at *
  rw [Bool.and_eq_true, decide_eq_true_eq] at *
  rcases pastL_cases (L := L) (p := q) (i := (b : Int)) hq (by omega) (by omega) with ⟨e, _⟩ | ⟨X, e, hX, hl⟩
  · rw [e] at h; exact absurd h.1 (Nat.lt_irrefl 0)
  · rcases pastL_cases (L := L) (p := q) (i := (a : Int)) hq (by omega) (by omega) with ⟨e', hY⟩ | ⟨Y, e', hY, hl'⟩
    · obtain ⟨Z, hz, _⟩ := past_mono hX hY (by omega)
      cases hz
    · obtain ⟨Z, hz, hle⟩ := past_mono hX hY (by omega)
      injection hz with hz
      subst hz
      rw [e'] at *
      rw [e] at h
      exact ⟨by omega, hm _ _ hl' hl hle h.2⟩
theorem searchL_len (L : Lin) (mt : List Int → Bool) : (searchL L mt).length = L.length := by simp [searchL]
theorem searchL_at {L : Lin} {mt : List Int → Bool} {q : Nat} (hq : q < L.length) : elX (searchL L mt) q = ((bestK (goodB L mt q) (rowL L q).length : Nat) : Int) := by
  unfold elX searchL
  rw [List.getD_eq_getElem?_getD, List.getElem?_map, List.getElem?_range hq]
  rfl
theorem searchL_congr {L : Lin} {mt mt' : List Int → Bool} (h : ∀ q k, q < L.length → k ≤ (rowL L q).length → mt (pastL L (q : Int) (k : Int)) = mt' (pastL L (q : Int) (k : Int))) : searchL L mt = searchL L mt' := by
  refine elX_ext (by rw [searchL_len, searchL_len]) fun q hq => ?_
  rw [searchL_len] at hq
  rw [searchL_at hq, searchL_at hq]
  have : ∀ n, n ≤ (rowL L q).length → bestK (goodB L mt q) n = bestK (goodB L mt' q) n := by
    intro n
    induction n with
    | zero => intro _; rfl
    | succ n ih =>
      intro hn
      unfold bestK
      have e : goodB L mt q (n + 1) = goodB L mt' q (n + 1) := by unfold goodB; rw [h q (n + 1) hq hn]
      rw [e, ih (by omega)]
  rw [this _ (Nat.le_refl _)]

/-- the condition of Stable, as the code asks it -/
def mtS (St X : List Int) : Bool := (List.range X.length).all fun q => !(decide (0 < elX X q) && decide (elX St q < elX X q))
/-- the same, as the reference asks it -/
def rtS (St X : List Int) : Bool := (List.range X.length).all fun q => (elX X q == 0) || decide (elX X q ≤ elX St q)
theorem mtS_iff (St X : List Int) : mtS St X = true ↔ ∀ q, q < X.length → ¬ (0 < elX X q ∧ elX St q < elX X q) := by
  unfold mtS
  rw [List.all_eq_true]
  simp only [List.mem_range, Bool.not_eq_true', Bool.and_eq_false_iff, decide_eq_false_iff_not]
  constructor
  · intro h q hq ⟨a, b⟩
    rcases h q hq with h | h
    · exact h a
    · exact h b
  · intro h q hq
    by_cases h0 : 0 < elX X q
    · exact .inr fun h1 => h q hq ⟨h0, h1⟩
    · exact .inl h0
theorem rtS_iff (St X : List Int) : rtS St X = true ↔ ∀ q, q < X.length → elX X q = 0 ∨ elX X q ≤ elX St q := by
  unfold rtS
  rw [List.all_eq_true]
  simp only [List.mem_range, Bool.or_eq_true, beq_iff_eq, decide_eq_true_eq]
theorem mtS_mono (L : Lin) (St : List Int) : Mono L (mtS St) := fun X Y hX hY hl h => by
  rw [mtS_iff] at *
  intro q hq ⟨h1, h2⟩
  have := hl q (by omega)
  exact h q (by omega) ⟨by omega, by omega⟩
theorem mt_rt {St X : List Int} (h0 : ∀ q, 0 ≤ elX X q) : mtS St X = rtS St X := Bool.eq_iff_iff.2 (by
  rw [mtS_iff, rtS_iff]
  constructor
  · intro h q hq
    have := h q hq
    have := h0 q
    omega
  · intro h q hq
    have := h q hq
    omega)
theorem stable_same (L : Lin) (St : List Int) : searchL L (mtS St) = searchL L (rtS St) :=
  searchL_congr fun q k hq hk => mt_rt fun r => pastL_lo hq (by omega) (by omega) r
end Go.Proofs.Ytcljdkjlfciacaa
