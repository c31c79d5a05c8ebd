/- The laws of CommitRises and CommitAgrees in plain Lean. No statement of the seat is proved here. -/
import Derived.Test.YtcljdkjlfciacaaTbl
namespace Go.Proofs.Ytcljdkjlfciacaa
open Go.RowKit
set_option linter.unusedVariables false

/-- the past of an index of the maker's lineages -/
theorem lin_past {p : Pt} {R : List Rw} {N : Nat} (hO : PtOk p.Ls.length N p) (hG : LinGood p R) {q : Nat} {k : Int} (hq : q < p.Ls.length) (h0 : 0 ≤ k) (h1 : k ≤ elX p.Ls q) :
    ∃ X, pastL (evsL R) (q : Int) k = X ∧ IsPast (evsL R) q k (some X) ∧ X.length = p.Ls.length ∧ elX X q = k ∧ (k = 0 → ∀ r, r < p.Ls.length → elX X r = 0) := by
  obtain ⟨V, hV, hb, hc⟩ := hO.gd q hq k h0 h1
  have hl : (evsL R).length = p.Ls.length := by rw [evsL_len, hG.len]
  have hrow : ∀ r, r < p.Ls.length → ((rowL (evsL R) r).length : Int) = elX p.Ls r := fun r hr => by
    have hr' : r < R.length := by rw [hG.len]; exact hr
    rw [evsL_row hr']
    exact hG.rl r R[r] (List.getElem?_eq_getElem hr')
  have hev : ∀ (U : Nat → Int), (∀ a ∈ p.As, 0 < a.at_ → a.at_ ≤ U a.dst.toNat → a.idx ≤ U a.frm.toNat) → ∀ (r k : Nat) (e : Ev), r < (evsL R).length → (k : Int) < U r → (rowL (evsL R) r)[k]? = some e → e.kind = 1 → sentB (evsL R) r e = true ∧ e.sidx ≤ U e.frm.toNat := fun U hU r k e hr hk he h1 => by
    have hr' : r < R.length := by rw [evsL_len] at hr; exact hr
    rw [evsL_row hr'] at he
    rcases (hG.ev r R[r] k e (List.getElem?_eq_getElem hr') he).2 with h2 | ⟨_, hs, a, ha, hd, hat, hf, hx⟩
    · omega
    · refine ⟨hs, ?_⟩
      have := hU a ha (by omega) (by rw [hd, hat]; show (k : Int) + 1 ≤ U ((r : Int)).toNat; rw [Int.toNat_natCast]; omega)
      rw [← hx, ← hf]
      exact this
  have hGV : GoodY (evsL R) q k V := ⟨by omega, fun r hr => (hb r (by omega)).1, fun r hr => by rw [hrow r (by omega)]; exact (hb r (by omega)).2, hev V hc⟩
  rcases pastL_cases (L := evsL R) (p := q) (i := k) (by omega) h0 (by rw [hrow q hq]; exact h1) with ⟨_, hn⟩ | ⟨X, hX, hI, hXl⟩
  · exact absurd hGV (hn V)
  · refine ⟨X, hX, hI, by rw [hXl, hl], ?_, fun hk r hr => ?_⟩
    · have h2 := hI.2.2 V hGV q (by omega)
      have h3 := hI.2.1.start
      omega
    · subst hk
      have hz : GoodY (evsL R) q 0 (fun _ => 0) := ⟨Int.le_refl _, fun _ _ => Int.le_refl _, fun r hr => by omega, fun r k e _ hk => absurd hk (by show ¬ (k : Int) < 0; omega)⟩
      have h2 := hI.2.2 _ hz r (by omega)
      have h3 := hI.2.1.lo r (by omega)
      (try dsimp only at h2)
      omega
theorem bestK_mono {g g' : Nat → Bool} : ∀ n, (∀ k, k ≤ n → g k = true → g' k = true) → bestK g n ≤ bestK g' n
  | 0, _ => Nat.le_refl _
  | n + 1, h => by
    have ih := bestK_mono n (fun k hk => h k (by omega))
    have h1 := bestK_le g n
    unfold bestK
    by_cases e : g (n + 1) = true
    · rw [if_pos e, if_pos (h _ (Nat.le_refl _) e)]
      exact Nat.le_refl _
    · rw [if_neg e]
      split
      · omega
      · exact ih
theorem searchL_mono {L : Lin} {mt mt' : List Int → Bool} (h : ∀ q k, q < L.length → k ≤ (rowL L q).length → mt (pastL L (q : Int) (k : Int)) = true → mt' (pastL L (q : Int) (k : Int)) = true) {q : Nat} (hq : q < L.length) : elX (searchL L mt) q ≤ elX (searchL L mt') q := by
  rw [searchL_at hq, searchL_at hq]
  have := bestK_mono (g := goodB L mt q) (g' := goodB L mt' q) (rowL L q).length (fun k hk hg => by
    unfold goodB at *
    rw [Bool.and_eq_true] at *
    exact ⟨hg.1, h q k hq hk hg.2⟩)
  omega
theorem stable_mono {L : Lin} {X Y : List Int} (h : ∀ q, elX X q ≤ elX Y q) {q : Nat} (hq : q < L.length) : elX (searchL L (mtS X)) q ≤ elX (searchL L (mtS Y)) q :=
  searchL_mono (fun p k hp hk h1 => by
    rw [mtS_iff] at *
    intro r hr ⟨h2, h3⟩
    have := h r
    exact h1 r hr ⟨h2, by omega⟩) hq
theorem firstN_mono {g g' : Nat → Bool} (h : ∀ j, g j = true → g' j = true) (n : Nat) : firstN g n ≤ firstN g' n := by
  by_cases hlt : firstN g' n < firstN g n
  · have h1 := firstN_all g n _ hlt
    have h2 := firstN_le g n
    have h3 := firstN_stop g' n (by omega)
    rw [h _ h1] at h3
    cases h3
  · omega
theorem rep_mono {L : Lin} {F : List Int} {G G' : List (Gr Dt)} {K : List (Gr Kn)} {f f' : Int} (h : ∀ d, inG G d = true → inG G' d = true) (hf : f' ≤ f) {q : Nat} (hq : q < L.length) :
    elX (searchL L (mtR (limL L F G K f))) q ≤ elX (searchL L (mtR (limL L F G' K f'))) q :=
  searchL_mono (fun p k hp hk h1 => by
    rw [mtR_iff] at *
    intro r hr
    have hl := pastL_len L (p : Int) (k : Int)
    have h2 := h1 r hr
    rw [limL_at (by omega)] at h2 ⊢
    unfold limV at *
    have h3 := firstN_mono (g := gdB L F G K f r) (g' := gdB L F G' K f' r) (fun j hj => by
      unfold gdB safeB at *
      have hh := h ⟨(r : Int), (j : Int) + 1, (rowL L r).getD j zEv⟩
      unfold inG at hh
      rw [Bool.or_eq_true, Bool.or_eq_true, decide_eq_true_eq, decide_eq_true_eq] at *
      rcases hj with hj | hj | hj
      · exact .inl hj
      · exact .inr (.inl (hh hj))
      · exact .inr (.inr (by omega))) (rowL L r).length
    omega) hq
theorem past_up {L : Lin} {q : Nat} {a b : Int} {X Y : List Int} (hX : IsPast L q a (some X)) (hY : IsPast L q b (some Y)) (hab : a ≤ b) {s : Nat} (hs : s < L.length) : elX X s ≤ elX Y s := by
  obtain ⟨Z, hz, hle⟩ := past_mono hY hX hab
  injection hz with hz
  subst hz
  exact hle s hs

theorem inG_iff (G : List (Gr Dt)) (d : Dt) : inG G d = true ↔ ∃ r ∈ G, d ∈ r.l := by
  unfold inG
  rw [List.any_eq_true]
  simp only [hasB_iff]
theorem inG_set {G : List (Gr Dt)} {k : Nat} (hk : k < G.length) {A : Option Addr} {c : Nat} {M : List Dt} (d : Dt) : inG (G.set k ⟨A, c, stockV (G[k].l ++ M)⟩) d = true ↔ inG G d = true ∨ d ∈ M := by
  rw [inG_iff, inG_iff]
  constructor
  · rintro ⟨r, hr, hd⟩
    rcases List.mem_or_eq_of_mem_set hr with h | h
    · exact .inl ⟨r, h, hd⟩
    · subst h
      dsimp only at hd
      rw [stock_mem, List.mem_append] at hd
      rcases hd with hd | hd
      · exact .inl ⟨_, List.getElem_mem hk, hd⟩
      · exact .inr hd
  · have hnew : (⟨A, c, stockV (G[k].l ++ M)⟩ : Gr Dt) ∈ G.set k ⟨A, c, stockV (G[k].l ++ M)⟩ := List.mem_set hk _
    rintro (⟨r, hr, hd⟩ | hd)
    · obtain ⟨i, hi⟩ := List.mem_iff_getElem?.1 hr
      by_cases e : i = k
      · subst e
        rw [List.getElem?_eq_getElem hk] at hi
        injection hi with hi
        subst hi
        refine ⟨_, hnew, ?_⟩
        dsimp only
        rw [stock_mem, List.mem_append]
        exact .inl hd
      · refine ⟨r, ?_, hd⟩
        refine List.mem_iff_getElem?.2 ⟨i, ?_⟩
        rw [List.getElem?_set_ne (fun h => e h.symm)]
        exact hi
    · refine ⟨_, hnew, ?_⟩
      dsimp only
      rw [stock_mem, List.mem_append]
      exact .inr hd
theorem linV_mem (p : Int) (es : List Ev) (d : Dt) : d ∈ linV p es ↔ ∃ j : Nat, ∃ e, es[j]? = some e ∧ d = ⟨p, (j : Int) + 1, e⟩ := by
  rw [List.mem_iff_getElem?]
  constructor
  · rintro ⟨j, hj⟩
    have hl : j < es.length := by have := (List.getElem?_eq_some_iff.1 hj).1; unfold linV at this; rwa [lin_len] at this
    have := linV_get p es 0 j hl
    unfold linV at hj
    rw [this] at hj
    injection hj with hj
    exact ⟨j, es[j], List.getElem?_eq_getElem hl, by rw [← hj, Nat.zero_add]⟩
  · rintro ⟨j, e, he, rfl⟩
    obtain ⟨hl, rfl⟩ := List.getElem?_eq_some_iff.1 he
    refine ⟨j, ?_⟩
    have := linV_get p es 0 j hl
    rw [Nat.zero_add] at this
    exact this
theorem linV_len (p : Int) (es : List Ev) : (linV p es).length = es.length := lin_len p es 0
theorem lin_ok {p : Nat} {es : List Ev} (hp : p ≤ 1000) (hn : es.length ≤ 1000) (h : ∀ e ∈ es, e.ok) : ∀ d ∈ linV (p : Int) es, d.ok := fun d hd => by
  obtain ⟨j, e, he, rfl⟩ := (linV_mem _ _ _).1 hd
  have hl := (List.getElem?_eq_some_iff.1 he).1
  exact ⟨⟨by show (-9223372036854775808 : Int) ≤ (p : Int); omega, by show (p : Int) ≤ 9223372036854775807; omega⟩, ⟨by show (-9223372036854775808 : Int) ≤ (j : Int) + 1; omega, by show (j : Int) + 1 ≤ 9223372036854775807; omega⟩, h _ (List.mem_of_getElem? he)⟩
theorem stockV_len (l : List Dt) : (stockV l).length ≤ l.length := by
  unfold stockV
  have h1 := cpt_len (sortD l)
  have h2 := sortD_len l
  omega
/-- the rows hold just the determinants up to the cut, of the first q processes -/
def LgInv (L : Lin) (X : List Int) (q : Nat) (G : List (Gr Dt)) : Prop :=
  (∀ d, inG G d = true ↔ ∃ r j : Nat, ∃ e, r < q ∧ (j : Int) < elX X r ∧ (rowL L r)[j]? = some e ∧ d = ⟨(r : Int), (j : Int) + 1, e⟩) ∧ (∀ s ∈ G, s.l.length ≤ 24 * q) ∧ ∀ s ∈ G, ∀ d ∈ s.l, d.ok
theorem LgInv.start (L : Lin) (X : List Int) (n : Nat) : LgInv L X 0 (List.replicate n (⟨none, 0, []⟩ : Gr Dt)) := by
  have hg : ∀ s ∈ (List.replicate n (⟨none, 0, []⟩ : Gr Dt)), s = ⟨none, 0, []⟩ := fun s hs => (List.mem_replicate.1 hs).2
  refine ⟨fun d => ⟨fun h => ?_, fun ⟨r, j, e, h, _⟩ => absurd h (Nat.not_lt_zero _)⟩, fun s hs => ?_, fun s hs d hd => ?_⟩
  · obtain ⟨r, hr, hd⟩ := (inG_iff _ _).1 h
    rw [hg r hr] at hd
    cases hd
  · rw [hg s hs]; exact Nat.zero_le _
  · rw [hg s hs] at hd; cases hd
theorem LgInv.step {L : Lin} {X : List Int} {q : Nat} {G : List (Gr Dt)} (h : LgInv L X q G) {k : Nat} (hk : k < G.length) {hi : Nat} (hhi : elX X q = (hi : Int)) (hlen : hi ≤ 24) (hq : q ≤ 1000) (hok : ∀ e ∈ rowL L q, e.ok) (A : Option Addr) (c : Nat) :
    LgInv L X (q + 1) (G.set k ⟨A, c, stockV (G[k].l ++ linV (q : Int) ((rowL L q).take hi))⟩) := by
  have hlok := lin_ok (p := q) (es := (rowL L q).take hi) hq (by rw [List.length_take]; omega) (fun e he => hok e (List.mem_of_mem_take he))
  refine ⟨fun d => ?_, fun s hs => ?_, fun s hs d hd => ?_⟩
  · rw [inG_set hk, h.1, linV_mem]
    constructor
    · rintro (⟨r, j, e, h1, h2, h3, h4⟩ | ⟨j, e, h1, h2⟩)
      · exact ⟨r, j, e, by omega, h2, h3, h4⟩
      · have hl := (List.getElem?_eq_some_iff.1 h1).1
        rw [List.length_take] at hl
        rw [List.getElem?_take_of_lt (by omega)] at h1
        exact ⟨q, j, e, by omega, by omega, h1, h2⟩
    · rintro ⟨r, j, e, h1, h2, h3, h4⟩
      by_cases er : r = q
      · subst er
        exact .inr ⟨j, e, by rw [List.getElem?_take_of_lt (by omega)]; exact h3, h4⟩
      · exact .inl ⟨r, j, e, by omega, h2, h3, h4⟩
  · rcases List.mem_or_eq_of_mem_set hs with h1 | h1
    · have := h.2.1 s h1; omega
    · subst h1
      dsimp only
      have h2 := stockV_len (G[k].l ++ linV (q : Int) ((rowL L q).take hi))
      rw [List.length_append, linV_len, List.length_take] at h2
      have h3 := h.2.1 _ (List.getElem_mem hk)
      omega
  · rcases List.mem_or_eq_of_mem_set hs with h1 | h1
    · exact h.2.2 s h1 d hd
    · subst h1
      dsimp only at hd
      rw [stock_mem, List.mem_append] at hd
      rcases hd with hd | hd
      · exact h.2.2 _ (List.getElem_mem hk) d hd
      · exact hlok d hd
/-- the rule of stable events is that of logged determinants -/
theorem agree_plain {L : Lin} {X : List Int} {G : List (Gr Dt)} {f : Int} (hf : 0 ≤ f) (hX : ∀ q, q < L.length → 0 ≤ elX X q ∧ elX X q ≤ ((rowL L q).length : Int)) (hG : LgInv L X L.length G) : searchL L (mtS X) = searchL L (mtR (limL L [] G [] f)) :=
  searchL_congr fun p k hp hk => by
    have hl := pastL_len L (p : Int) (k : Int)
    have hlim : ∀ q, q < L.length → elX (limL L [] G [] f) q = elX X q + 1 := fun q hq => by
      rw [limL_at hq]
      unfold limV
      obtain ⟨h0, h1⟩ := hX q hq
      have hfn : firstN (gdB L [] G [] f q) (rowL L q).length = (elX X q).toNat := by
        have hgd : ∀ j, j < (rowL L q).length → (gdB L [] G [] f q j = true ↔ (j : Int) < elX X q) := fun j hj => by
          unfold gdB safeB
          have hh := hG.1 ⟨(q : Int), (j : Int) + 1, (rowL L q).getD j zEv⟩
          unfold inG at hh
          rw [Bool.or_eq_true, Bool.or_eq_true, decide_eq_true_eq, decide_eq_true_eq, hh]
          have hz : elX [] q = 0 := rfl
          have hc : cntK [] ⟨(q : Int), (j : Int) + 1, (rowL L q).getD j zEv⟩ = 0 := rfl
          rw [hz, hc]
          constructor
          · rintro (h | ⟨r, i, e, h2, h3, h4, h5⟩ | h)
            · omega
            · injection h5 with h6 h7 h8
              obtain rfl : q = r := by omega
              obtain rfl : j = i := by omega
              exact h3
            · omega
          · intro h
            refine .inr (.inl ⟨q, j, (rowL L q).getD j zEv, hq, h, ?_, rfl⟩)
            rw [List.getD_eq_getElem?_getD, List.getElem?_eq_getElem hj]
            rfl
        refine firstN_eq (by omega) (fun j hj => (hgd j (by omega)).2 (by omega)) (fun hlt => ?_)
        have hnn : ¬ gdB L [] G [] f q (elX X q).toNat = true := fun hh => by have := (hgd _ hlt).1 hh; omega
        simpa using hnn
      rw [hfn]
      omega
    refine Bool.eq_iff_iff.2 ?_
    rw [mtS_iff, mtR_iff]
    constructor
    · intro h q hq
      rw [hlim q (by omega)]
      have := h q hq
      have := hX q (by omega)
      omega
    · intro h q hq ⟨h1, h2⟩
      have := h q hq
      rw [hlim q (by omega)] at this
      omega
/-- everything is stable if all events are -/
theorem full_plain {L : Lin} (hp : ∀ q, q < L.length → (pastL L (q : Int) ((rowL L q).length : Int)).length = L.length) : searchL L (mtS (fullL L)) = fullL L := by
  refine elX_ext (by rw [searchL_len, fullL_len]) fun q hq => ?_
  rw [searchL_len] at hq
  rw [searchL_at hq, fullL_at hq]
  congr 1
  have hgood : goodB L (mtS (fullL L)) q (rowL L q).length = true := by
    unfold goodB
    rw [Bool.and_eq_true, decide_eq_true_eq, hp q hq, mtS_iff]
    refine ⟨by omega, fun r hr ⟨_, h2⟩ => ?_⟩
    rw [hp q hq] at hr
    have := pastL_hi (L := L) (p := q) (i := ((rowL L q).length : Int)) hq (by omega) (Int.le_refl _) r hr
    rw [fullL_at hr] at h2
    omega
  rcases Nat.eq_zero_or_pos (rowL L q).length with h0 | h0
  · rw [h0]; rfl
  · obtain ⟨m, hm⟩ : ∃ m, (rowL L q).length = m + 1 := ⟨(rowL L q).length - 1, by omega⟩
    rw [hm] at hgood ⊢
    unfold bestK
    rw [if_pos hgood]
end Go.Proofs.Ytcljdkjlfciacaa
