/- With no failure to survive nothing travels, in plain Lean. No statement of the seat is proved here. -/
import Derived.Test.YtfnnoncdocghjaaPlayPlain
namespace Go.Proofs.Ytfnnoncdocghjaa
open Go.RowKit
set_option linter.unusedVariables false

theorem asc_inj {l : List Kn} (h : AscD (l.map Kn.d)) {x y : Kn} (hx : x ∈ l) (hy : y ∈ l) (e : x.d = y.d) : x = y := by
  obtain ⟨i, hi, rfl⟩ := List.mem_iff_getElem.1 hx
  obtain ⟨j, hj, rfl⟩ := List.mem_iff_getElem.1 hy
  have hp := List.pairwise_iff_getElem.1 h
  have hs := fun d : Dt => cmpD_anti d d
  rcases Nat.lt_trichotomy i j with hij | hij | hij
  · have := hp i j (by simpa using hi) (by simpa using hj) hij
    simp only [List.getElem_map] at this
    rw [e] at this
    have := hs l[j].d
    omega
  · subst hij; rfl
  · have := hp j i (by simpa using hj) (by simpa using hi) hij
    simp only [List.getElem_map] at this
    rw [e] at this
    have := hs l[j].d
    omega
/-- an ascending list is its own memory -/
theorem memV_asc {l : List Kn} (h : AscD (l.map Kn.d)) (hok : ∀ k ∈ l, okH k.h) : memV l = l := by
  refine (MemOf.eqV (l := l) ⟨h, fun d => Iff.rfl, hok, fun k hk i => ⟨fun hb => ⟨k, hk, rfl, hb⟩, ?_⟩⟩ hok).symm
  rintro ⟨x, hx, e, hb⟩
  rw [← asc_inj h hx hk e]
  exact hb
theorem cmpI_self (a : Int) : cmpI a a = 0 := (cmpI_zero a a).2 rfl
theorem cmpD_idx {p : Int} {i j : Int} {e f : Ev} (h : i < j) : cmpD ⟨p, i, e⟩ ⟨p, j, f⟩ < 0 := by
  unfold cmpD Dt.keys
  have h1 := (cmpI_neg i j).2 h
  simp only [cmpL, cmpI_self, if_true]
  rw [if_neg (by omega)]
  exact h1
theorem lin_mem_idx (p : Int) : ∀ (es : List Ev) (i : Nat) (d : Dt), d ∈ linFrom p es i → d.proc = p ∧ (i : Int) < d.index ∧ d.index ≤ ((i + es.length : Nat) : Int)
  | [], _, _, h => by cases h
  | e :: es, i, d, h => by
    unfold linFrom at h
    rcases List.mem_cons.1 h with rfl | h
    · refine ⟨rfl, ?_, ?_⟩
      · show (i : Int) < (i : Int) + 1; omega
      · show (i : Int) + 1 ≤ _; simp; omega
    · have := lin_mem_idx p es (i + 1) d h
      simp only [List.length_cons]
      refine ⟨this.1, by omega, by omega⟩
theorem lin_asc (p : Int) : ∀ (es : List Ev) (i : Nat), AscD (linFrom p es i)
  | [], _ => List.Pairwise.nil
  | e :: es, i => by
    unfold linFrom
    refine List.pairwise_cons.2 ⟨fun d hd => ?_, lin_asc p es (i + 1)⟩
    have := lin_mem_idx p es (i + 1) d hd
    obtain ⟨dp, di, de⟩ := d
    have h1 : dp = p := this.1
    subst h1
    exact cmpD_idx (by have := this.2.1; show (i : Int) + 1 < di; simp at this; omega)
theorem linV_snoc (p : Int) (es : List Ev) (e : Ev) : linV p (es ++ [e]) = linV p es ++ [⟨p, (es.length : Int) + 1, e⟩] := by
  unfold linV
  rw [lin_snoc]
  simp
theorem or_pos {k : Kn} {b : Int} (hk : okH k.h) (hb : okH b) (h0 : k.h ≠ 0) : (orB b k).h ≠ 0 := by
  have e := (bits_u32 hk.1 hk.2 hb.1 hb.2).2.1
  show bits .or .u32 k.h b ≠ 0
  rw [e]
  have h1 := hk.1
  have h2 : 0 < k.h.toNat := by omega
  have h3 : k.h.toNat ≤ k.h.toNat ||| b.toNat := Nat.left_le_or
  omega
structure Frug (n : Nat) (s : Cm) : Prop where
  ev : s.ev.length = n
  kn : s.kn.length = n
  d : ∀ p < n, (s.kn.getD p []).map Kn.d = linV p (s.ev.getD p [])
  ok : ∀ p < n, ∀ k ∈ s.kn.getD p [], okH k.h ∧ k.h ≠ 0
  m : ∀ m ∈ s.fl, m.kn = [] ∧ m.dst < n
theorem getD_set {α : Type} (l : List α) (i j : Nat) (x d : α) (hi : i < l.length) : (l.set i x).getD j d = if i = j then x else l.getD j d := by
  rw [List.getD_eq_getElem?_getD, List.getD_eq_getElem?_getD, List.getElem?_set]
  split
  · rename_i h; subst h; first | rfl | (rw [if_pos hi]; rfl)
  · rfl
theorem Frug.start (n : Nat) : Frug n (startV n) := by
  refine ⟨by simp [startV], by simp [startV], fun p hp => ?_, fun p hp k hk => ?_, fun m hm => by cases hm⟩
  · simp [startV, List.getD_eq_getElem?_getD, hp, linV, linFrom]
  · simp [startV, List.getD_eq_getElem?_getD, hp] at hk
theorem Frug.act {n : Nat} {s : Cm} {a : Av} (h : Frug n s) (hn : n ≤ 32) : Frug n (actV n 0 s a) := by
  unfold actV
  split
  · split
    · rename_i hc
      obtain ⟨⟨h1, h2⟩, ⟨h3, h4⟩, h5, h6⟩ := canSend_iff.1 hc
      refine ⟨h.ev, h.kn, h.d, h.ok, fun m hm => ?_⟩
      rcases List.mem_append.1 hm with hm | hm
      · exact h.m m hm
      · rw [List.mem_singleton] at hm
        subst hm
        refine ⟨?_, by show a.other.toNat < n; omega⟩
        show List.filter (keepF 0) (s.kn.getD a.proc.toNat []) = []
        rw [List.filter_eq_nil_iff]
        intro k hk
        obtain ⟨hok, hne⟩ := h.ok a.proc.toNat (by omega) k hk
        have hd := cnt_drop (x := k.h) (by have := hok.1; omega) hok.2
        unfold keepF
        simp only [decide_eq_true_eq]
        generalize cnt k.h = c at hd
        omega
    · exact h
  · split
    · split
      · rename_i hc
        obtain ⟨h1, h2, h3⟩ := canRecv_iff.1 hc
        have hm := h.m _ (getD_mem s.fl a.other.toNat mgD (by omega))
        unfold recvV
        generalize s.fl.getD a.other.toNat mgD = m at *
        obtain ⟨hmk, hmd⟩ := hm
        dsimp only
        rw [hmk]
        have hD := h.d m.dst hmd
        have hO := h.ok m.dst hmd
        generalize hK : s.kn.getD m.dst [] = K at *
        generalize hE : s.ev.getD m.dst [] = es at *
        have hpow := okH_pow (m := m.dst) (by omega)
        have hasc : AscD (K.map Kn.d) := by rw [hD]; exact lin_asc _ _ _
        have hmv : memV (K ++ []) = K := by rw [List.append_nil]; exact memV_asc hasc fun k hk => (hO k hk).1
        have hmg : mergeV (2 ^ m.dst) K [] = K.map (orB (2 ^ m.dst)) := by unfold mergeV; rw [hmv]
        have hmgd : (mergeV (2 ^ m.dst) K []).map Kn.d = K.map Kn.d := by rw [hmg, List.map_map]; rfl
        have hnew : AscD ((mergeV (2 ^ m.dst) K [] ++ [(⟨⟨m.dst, (es.length : Int) + 1, evOf m⟩, 2 ^ m.dst⟩ : Kn)]).map Kn.d) := by
          rw [List.map_append, hmgd, hD]
          show AscD (linV m.dst es ++ [⟨m.dst, (es.length : Int) + 1, evOf m⟩])
          rw [← linV_snoc]
          exact lin_asc _ _ _
        have hnok : ∀ k ∈ mergeV (2 ^ m.dst) K [] ++ [(⟨⟨m.dst, (es.length : Int) + 1, evOf m⟩, 2 ^ m.dst⟩ : Kn)], okH k.h ∧ k.h ≠ 0 := fun k hk => by
          rcases List.mem_append.1 hk with hk | hk
          · rw [hmg] at hk
            obtain ⟨x, hx, rfl⟩ := List.mem_map.1 hk
            exact ⟨orB_ok hpow (hO x hx).1, or_pos (hO x hx).1 hpow (hO x hx).2⟩
          · rw [List.mem_singleton] at hk
            subst hk
            refine ⟨hpow, ?_⟩
            have : ∀ i : Fin 32, (2 : Int) ^ i.val ≠ 0 := by decide
            exact this ⟨m.dst, by omega⟩
        rw [memV_asc hnew fun k hk => (hnok k hk).1]
        refine ⟨by simp [h.ev], by simp [h.kn], fun p hp => ?_, fun p hp k hk => ?_, fun m' hm' => h.m m' (List.mem_of_mem_eraseIdx hm')⟩
        · dsimp only
          rw [getD_set _ _ _ _ _ (by rw [h.kn]; exact hmd), getD_set _ _ _ _ _ (by rw [h.ev]; exact hmd)]
          split
          · rename_i e
            subst e
            rw [List.map_append, hmgd, hD, linV_snoc]
            rfl
          · exact h.d p hp
        · dsimp only at hk
          rw [getD_set _ _ _ _ _ (by rw [h.kn]; exact hmd)] at hk
          split at hk
          · exact hnok k hk
          · exact h.ok p hp k hk
      · exact h
    · split
      · split
        · rename_i hc
          obtain ⟨h1, h2⟩ := okProc_iff.1 hc
          unfold ckptV
          have hpl : a.proc.toNat < n := by omega
          refine ⟨h.ev, by simp [h.kn], fun p hp => ?_, fun p hp k hk => ?_, h.m⟩
          · dsimp only
            rw [getD_set _ _ _ _ _ (by rw [h.kn]; exact hpl)]
            split
            · rename_i e
              subst e
              rw [List.map_map]
              exact h.d _ hpl
            · exact h.d p hp
          · dsimp only at hk
            rw [getD_set _ _ _ _ _ (by rw [h.kn]; exact hpl)] at hk
            split at hk
            · obtain ⟨x, hx, rfl⟩ := List.mem_map.1 hk
              obtain ⟨h7, h8⟩ := h.ok _ hpl x hx
              exact ⟨stK_ok hn x h7, or_pos h7 (okH_all hn) h8⟩
            · exact h.ok p hp k hk
        · exact h
      · exact h
theorem Frug.play (n : Nat) (hn : n ≤ 32) (l : List Av) : Frug n (playV n 0 l) := by
  have : ∀ (l : List Av) (s : Cm), Frug n s → Frug n (l.foldl (actV n 0) s) := by
    intro l
    induction l with
    | nil => intro s h; exact h
    | cons a l ih => intro s h; exact ih _ (h.act hn)
  exact this l _ (Frug.start n)
end Go.Proofs.Ytfnnoncdocghjaa
