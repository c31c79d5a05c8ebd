/- The plain law of DeterminantIntervals. No statement of the seat is proved here. -/
import Derived.Test.YthadaahemhamdaaGrows1
namespace Go.Proofs.Ythadaahemhamdaa
set_option linter.unusedVariables false

/-- the numbers from a on, n of them -/
def runI (a : Int) : Nat → List Int
  | 0 => []
  | n + 1 => runI a n ++ [a + n]
theorem runI_len (a : Int) : ∀ n, (runI a n).length = n
  | 0 => rfl
  | n + 1 => by rw [runI, List.length_append, runI_len a n]; rfl
theorem runI_get (a : Int) : ∀ n k, k < n → (runI a n)[k]? = some (a + k)
  | 0, k, h => by omega
  | n + 1, k, h => by
    rw [runI]
    by_cases e : k < n
    · rw [List.getElem?_append_left (by rw [runI_len]; exact e), runI_get a n k e]
    · obtain rfl : k = n := by omega
      rw [List.getElem?_append_right (by rw [runI_len]; omega), runI_len, Nat.sub_self]
      rfl
theorem lin_get (p : Int) : ∀ (es : List Ev) (i k : Nat), (linFrom p es i)[k]? = (es[k]?).map fun e => ⟨p, ((i + k : Nat) : Int) + 1, e⟩
  | [], i, k => by simp [linFrom]
  | e :: es, i, 0 => by simp [linFrom]
  | e :: es, i, k + 1 => by
    rw [linFrom, List.getElem?_cons_succ, List.getElem?_cons_succ, lin_get p es (i + 1) k]
    congr 1
    funext e
    rw [show i + 1 + k = i + (k + 1) by omega]
/-- with the determinants of all events up to the last checkpoint: what is good -/
theorem good_low {C : List Int} {S L : List Dt} {first : Int} (hf : ∀ c ∈ C, first ≤ c) : ∀ k : Nat, (k : Int) < first → goodAt C S L k = false
  | 0, h => by
    rw [goodAt]
    rcases hq : ckB C 0 with _ | _
    · rfl
    · have := hf 0 ((ckB_iff C 0).1 hq)
      omega
  | k + 1, h => by
    rw [goodAt, good_low hf k (by omega)]
    rcases hq : ckB C ((k : Int) + 1) with _ | _
    · rfl
    · have := hf _ ((ckB_iff C _).1 hq)
      omega
theorem good_mid2 {C : List Int} {S L : List Dt} {first last : Int} (hf : first ∈ C) (h0 : 0 ≤ first) (hd : ∀ (k : Nat) d, (k : Int) < last → L[k]? = some d → d ∈ S) (hL : last ≤ L.length) : ∀ k : Nat, first ≤ (k : Int) → (k : Int) ≤ last → goodAt C S L k = true
  | 0, h1, h2 => by
    rw [goodAt, ckB_iff]
    rw [show (0 : Int) = first by omega]; exact hf
  | k + 1, h1, h2 => by
    rw [goodAt, Bool.or_eq_true]
    by_cases e : first = (k : Int) + 1
    · left
      rw [ckB_iff, ← e]; exact hf
    · right
      have hk : k < L.length := by omega
      rw [Bool.and_eq_true]
      refine ⟨good_mid2 hf h0 hd hL k (by omega) (by omega), ?_⟩
      rw [List.getElem?_eq_getElem hk]
      exact (hasB_iff _ _).2 (hd k _ (by omega) (List.getElem?_eq_getElem hk))
theorem good_high {C : List Int} {S L : List Dt} {last : Int} (hm : ∀ c ∈ C, c ≤ last) (k : Nat) (h : last ≤ (k : Int)) (hg : goodAt C S L (k + 1) = true) : goodAt C S L k = true := by
  rw [goodAt, Bool.or_eq_true] at hg
  rcases hg with h1 | h1
  · have := hm _ ((ckB_iff C _).1 h1)
    omega
  · rw [Bool.and_eq_true] at h1
    exact h1.1
/-- an interval -/
theorem rest_run {C : List Int} {S L : List Dt} {first last : Int} (hf : first ∈ C) (h0 : 0 ≤ first) (hfl : first ≤ last) (hlo : ∀ c ∈ C, first ≤ c) (hm : ∀ c ∈ C, c ≤ last) (hd : ∀ (k : Nat) d, (k : Int) < last → L[k]? = some d → d ∈ S) (hL : last ≤ L.length) :
    ∀ n : Nat, ∃ m : Nat, restTo C S L n = runI first m ∧ (first + m = n ∨ (n : Int) ≤ first ∧ m = 0 ∨ last < first + m ∧ first + m ≤ n ∧ (0 < n → goodAt C S L (n - 1) = false))
  | 0 => ⟨0, rfl, .inr (.inl ⟨by omega, rfl⟩)⟩
  | n + 1 => by
    obtain ⟨m, hm1, hm2⟩ := rest_run hf h0 hfl hlo hm hd hL n
    rw [restTo]
    by_cases hg : goodAt C S L n = true
    · rw [if_pos hg, hm1]
      have hn : ¬ (n : Int) < first := fun h => by rw [good_low hlo n h] at hg; cases hg
      rcases hm2 with h | ⟨h, rfl⟩ | ⟨h1, h2, h3⟩
      · exact ⟨m + 1, by rw [runI, h], .inl (by push_cast; omega)⟩
      · exact ⟨1, by show [(n : Int)] = [first + ((0 : Nat) : Int)]; congr 1; omega, .inl (by push_cast; omega)⟩
      · exfalso
        obtain ⟨q, rfl⟩ : ∃ q, n = q + 1 := ⟨n - 1, by omega⟩
        have := good_high hm q (by omega) hg
        rw [Nat.add_sub_cancel] at h3
        rw [h3 (by omega)] at this
        cases this
    · rw [if_neg hg, hm1]
      have hgf : goodAt C S L n = false := by simpa using hg
      rcases hm2 with h | ⟨h, rfl⟩ | ⟨h1, h2, h3⟩
      · refine ⟨m, rfl, ?_⟩
        by_cases hl : last < (n : Int)
        · exact .inr (.inr ⟨by omega, by push_cast; omega, fun _ => by rw [Nat.add_sub_cancel]; exact hgf⟩)
        · by_cases hfn : first ≤ (n : Int)
          · rw [good_mid2 hf h0 hd hL n hfn (by omega)] at hgf; cases hgf
          · exfalso; omega
      · by_cases hfn : (n : Int) < first
        · exact ⟨0, rfl, .inr (.inl ⟨by push_cast; omega, rfl⟩)⟩
        · rw [good_mid2 hf h0 hd hL n (by omega) (by omega)] at hgf; cases hgf
      · exact ⟨m, rfl, .inr (.inr ⟨h1, by push_cast; omega, fun _ => by rw [Nat.add_sub_cancel]; exact hgf⟩)⟩
/-- the first and the last checkpoint of a list, as the law reckons them -/
def fstStep (f c : Int) : Int := if f < 0 ∨ c < f then c else f
def fstV (C : List Int) : Int := C.foldl fstStep (-1)
def lstV (C : List Int) : Int := C.foldl max (-1)
theorem fstV_snoc (C : List Int) (x : Int) : fstV (C ++ [x]) = fstStep (fstV C) x := by unfold fstV; rw [List.foldl_append]; rfl
theorem lstV_snoc (C : List Int) (x : Int) : lstV (C ++ [x]) = max (lstV C) x := by unfold lstV; rw [List.foldl_append]; rfl
theorem ends_law (C : List Int) (h : ∀ c ∈ C, 0 ≤ c) : (C = [] ∧ fstV C = -1 ∧ lstV C = -1) ∨ (fstV C ∈ C ∧ 0 ≤ fstV C ∧ fstV C ≤ lstV C ∧ lstV C ∈ C ∧ (∀ c ∈ C, fstV C ≤ c) ∧ ∀ c ∈ C, c ≤ lstV C) := by
  have key : ∀ k, k ≤ C.length → (C.take k = [] ∧ fstV (C.take k) = -1 ∧ lstV (C.take k) = -1) ∨ (fstV (C.take k) ∈ C.take k ∧ 0 ≤ fstV (C.take k) ∧ fstV (C.take k) ≤ lstV (C.take k) ∧ lstV (C.take k) ∈ C.take k ∧ (∀ c ∈ C.take k, fstV (C.take k) ≤ c) ∧ ∀ c ∈ C.take k, c ≤ lstV (C.take k)) := by
    intro k
    induction k with
    | zero => intro _; left; exact ⟨rfl, rfl, rfl⟩
    | succ k ih =>
      intro hk
      right
      have hx := h C[k] (List.getElem_mem (by omega))
      rw [List.take_succ_eq_append_getElem (show k < C.length by omega), fstV_snoc, lstV_snoc]
      generalize C[k] = x at *
      rcases ih (by omega) with ⟨e1, e2, e3⟩ | ⟨a1, a2, a3, a4, a5, a6⟩
      · rw [e2, e3, e1]
        have f1 : fstStep (-1) x = x := by unfold fstStep; rw [if_pos (.inl (by omega))]
        have f2 : max (-1) x = x := by omega
        rw [f1, f2]
        exact ⟨by simp, hx, Int.le_refl _, by simp, by simp, by simp⟩
      · by_cases hlt : x < fstV (C.take k)
        · have f1 : fstStep (fstV (C.take k)) x = x := by unfold fstStep; rw [if_pos (.inr hlt)]
          have f2 : max (lstV (C.take k)) x = lstV (C.take k) := by omega
          rw [f1, f2]
          refine ⟨by simp, hx, by omega, List.mem_append_left _ a4, fun c hc => ?_, fun c hc => ?_⟩
          · rcases List.mem_append.1 hc with h | h
            · have := a5 c h; omega
            · rw [List.mem_singleton.1 h]; exact Int.le_refl _
          · rcases List.mem_append.1 hc with h | h
            · exact a6 c h
            · rw [List.mem_singleton.1 h]; omega
        · have f1 : fstStep (fstV (C.take k)) x = fstV (C.take k) := by unfold fstStep; rw [if_neg (by omega)]
          rw [f1]
          refine ⟨List.mem_append_left _ a1, a2, by omega, ?_, fun c hc => ?_, fun c hc => ?_⟩
          · by_cases hg : lstV (C.take k) ≤ x
            · rw [show max (lstV (C.take k)) x = x by omega]; simp
            · rw [show max (lstV (C.take k)) x = lstV (C.take k) by omega]; exact List.mem_append_left _ a4
          · rcases List.mem_append.1 hc with h | h
            · exact a5 c h
            · rw [List.mem_singleton.1 h]; omega
          · rcases List.mem_append.1 hc with h | h
            · have := a6 c h; omega
            · rw [List.mem_singleton.1 h]; omega
  have := key C.length (Nat.le_refl _)
  rwa [List.take_length] at this
theorem good_none (S L : List Dt) : ∀ k, goodAt [] S L k = false
  | 0 => rfl
  | k + 1 => by rw [goodAt, good_none S L k]; rfl
theorem rest_none (p : Int) (es : List Ev) (S : List Dt) : restV p es [] S = [] := by
  have : ∀ n, restTo [] S (linV p es) n = [] := by
    intro n
    induction n with
    | zero => rfl
    | succ n ih => rw [restTo, good_none, if_neg (by decide), ih]
  exact this _
/-- the law: an interval from the first checkpoint on, beyond the last -/
theorem intv_law (p : Int) (es : List Ev) (C : List Int) (st : List Dt) (last : Nat) (h0 : ∀ c ∈ C, 0 ≤ c ∧ c ≤ (es.length : Int)) (hne : C ≠ []) (hl : (last : Int) = lstV C) :
    ∃ m : Nat, 0 < m ∧ restV p es C (stockV (st ++ linV p (es.take last))) = runI (fstV C) m ∧ lstV C < fstV C + m := by
  rcases ends_law C (fun c hc => (h0 c hc).1) with ⟨h, _⟩ | ⟨a1, a2, a3, a4, a5, a6⟩
  · exact absurd h hne
  · have hle := (h0 _ a4).2
    have hLl : (linV p es).length = es.length := lin_len p es 0
    obtain ⟨m, h1, h2⟩ := rest_run (C := C) (S := stockV (st ++ linV p (es.take last))) (L := linV p es) a1 a2 a3 a5 a6 (fun k d hk hd => by
      rw [stock_mem]
      refine List.mem_append_right _ ?_
      unfold linV at hd ⊢
      rw [lin_get] at hd
      have hkl : k < last := by omega
      have : (linFrom p (es.take last) 0)[k]? = some d := by
        rw [lin_get, List.getElem?_take_of_lt hkl]; exact hd
      exact List.mem_of_getElem? this) (by rw [hLl]; exact hle) (es.length + 1)
    have hm : lstV C < fstV C + m := by
      rcases h2 with h | ⟨h, _⟩ | ⟨h, _⟩
      · push_cast at h; omega
      · push_cast at h; omega
      · exact h
    exact ⟨m, by omega, h1, hm⟩
end Go.Proofs.Ythadaahemhamdaa
