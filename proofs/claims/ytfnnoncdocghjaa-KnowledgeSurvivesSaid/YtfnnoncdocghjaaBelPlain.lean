/- What is believed and what is replicated, in plain Lean. No statement of the seat is proved here. -/
import Derived.Test.YtfnnoncdocghjaaK8
import Derived.Test.YtfnnoncdocghjaaK7
namespace Go.Proofs.Ytfnnoncdocghjaa
open Go.RowKit
set_option linter.unusedVariables false

def Kw (s : Cm) (p : Nat) (d : Dt) : Prop := ∃ k ∈ s.kn.getD p [], k.d = d
theorem getD_in {α : Type} {l : List (List α)} {p : Nat} {k : α} (h : k ∈ l.getD p []) : p < l.length := by
  rcases Nat.lt_or_ge p l.length with h1 | h1
  · exact h1
  · rw [List.getD_eq_getElem?_getD, List.getElem?_eq_none h1] at h
    cases h
theorem pow_bit (q i : Nat) : ((2 : Int) ^ q).toNat.testBit i = decide (q = i) := by
  have e : ((2 : Int) ^ q).toNat = 2 ^ q := by
    have : (2 : Int) ^ q = ((2 ^ q : Nat) : Int) := by norm_cast
    rw [this, Int.toNat_natCast]
  rw [e, Nat.testBit_two_pow]
theorem all_bit (q i : Nat) : ((2 : Int) ^ q - 1).toNat.testBit i = decide (i < q) := by
  have e : ((2 : Int) ^ q - 1).toNat = 2 ^ q - 1 := by
    have : (2 : Int) ^ q = ((2 ^ q : Nat) : Int) := by norm_cast
    rw [this]
    omega
  rw [e, Nat.testBit_two_pow_sub_one]
theorem stK_bit {m : Nat} (hm : m ≤ 32) {k : Kn} (hk : okH k.h) (i : Nat) : bitH (stK m k) i = (bitH k i || decide (i < m)) := by
  have h := orB_bit (k := k) (okH_all hm) hk i
  rw [all_bit] at h
  exact h
theorem recvL {q : Nat} (hq : q < 32) {K M : List Kn} (d : Dt) (hK : ∀ k ∈ K, okH k.h) (hM : ∀ k ∈ M, okH k.h) :
    (∀ k ∈ memV (mergeV (2 ^ q) K M ++ [⟨d, 2 ^ q⟩]), okH k.h) ∧ (∀ e, (∃ k ∈ memV (mergeV (2 ^ q) K M ++ [⟨d, 2 ^ q⟩]), k.d = e) ↔ (∃ k ∈ K, k.d = e) ∨ (∃ k ∈ M, k.d = e) ∨ e = d) ∧
    (∀ k ∈ memV (mergeV (2 ^ q) K M ++ [⟨d, 2 ^ q⟩]), bitH k q = true) ∧
    (∀ k ∈ memV (mergeV (2 ^ q) K M ++ [⟨d, 2 ^ q⟩]), ∀ i, bitH k i = true → i = q ∨ (∃ u ∈ K, u.d = k.d ∧ bitH u i = true) ∨ ∃ u ∈ M, u.d = k.d ∧ bitH u i = true) := by
  have hp := okH_pow hq
  have h1 := memV_of (K ++ M) (hok2 hK hM)
  have hmo := mergeV_ok hp hK hM
  have h2 := memV_of (mergeV (2 ^ q) K M ++ [⟨d, 2 ^ q⟩]) (fun k hk => by
    rcases List.mem_append.1 hk with hk | hk
    · exact hmo k hk
    · rw [List.mem_singleton] at hk; subst hk; exact hp)
  have hin : ∀ y, y ∈ mergeV (2 ^ q) K M ↔ ∃ z ∈ memV (K ++ M), y = orB (2 ^ q) z := fun y => by
    unfold mergeV
    rw [List.mem_map]
    exact ⟨fun ⟨z, hz, e⟩ => ⟨z, hz, e.symm⟩, fun ⟨z, hz, e⟩ => ⟨z, hz, e.symm⟩⟩
  have hmd : ∀ e, (∃ y ∈ mergeV (2 ^ q) K M, y.d = e) ↔ (∃ k ∈ K, k.d = e) ∨ ∃ k ∈ M, k.d = e := fun e => by
    constructor
    · rintro ⟨y, hy, ey⟩
      obtain ⟨z, hz, rfl⟩ := (hin y).1 hy
      obtain ⟨u, hu, eu⟩ := (h1.dets e).1 ⟨z, hz, ey⟩
      rcases List.mem_append.1 hu with hu | hu
      · exact .inl ⟨u, hu, eu⟩
      · exact .inr ⟨u, hu, eu⟩
    · intro h
      obtain ⟨z, hz, ez⟩ := (h1.dets e).2 (by
        rcases h with ⟨u, hu, eu⟩ | ⟨u, hu, eu⟩
        · exact ⟨u, List.mem_append_left _ hu, eu⟩
        · exact ⟨u, List.mem_append_right _ hu, eu⟩)
      exact ⟨_, (hin _).2 ⟨z, hz, rfl⟩, ez⟩
  refine ⟨h2.ok, fun e => ?_, fun k hk => ?_, fun k hk i hb => ?_⟩
  · rw [h2.dets e]
    constructor
    · rintro ⟨y, hy, ey⟩
      rcases List.mem_append.1 hy with hy | hy
      · rcases (hmd e).1 ⟨y, hy, ey⟩ with h | h
        · exact .inl h
        · exact .inr (.inl h)
      · rw [List.mem_singleton] at hy
        subst hy
        exact .inr (.inr ey.symm)
    · rintro (h | h | rfl)
      · obtain ⟨y, hy, ey⟩ := (hmd e).2 (.inl h)
        exact ⟨y, List.mem_append_left _ hy, ey⟩
      · obtain ⟨y, hy, ey⟩ := (hmd e).2 (.inr h)
        exact ⟨y, List.mem_append_left _ hy, ey⟩
      · exact ⟨_, List.mem_append_right _ (List.mem_singleton.2 rfl), rfl⟩
  · obtain ⟨y, hy, ey⟩ := (h2.dets k.d).1 ⟨k, hk, rfl⟩
    refine (h2.bits k hk q).2 ⟨y, hy, ey, ?_⟩
    rcases List.mem_append.1 hy with hy | hy
    · obtain ⟨z, hz, rfl⟩ := (hin y).1 hy
      rw [orB_bit hp (h1.ok z hz), pow_bit]
      simp
    · rw [List.mem_singleton] at hy
      subst hy
      show ((2 : Int) ^ q).toNat.testBit q = true
      rw [pow_bit]
      simp
  · obtain ⟨y, hy, ey, hby⟩ := (h2.bits k hk i).1 hb
    rcases List.mem_append.1 hy with hy | hy
    · obtain ⟨z, hz, rfl⟩ := (hin y).1 hy
      rw [orB_bit hp (h1.ok z hz), pow_bit] at hby
      by_cases e : q = i
      · exact .inl e.symm
      · right
        have hbz : bitH z i = true := by simpa [e] using hby
        obtain ⟨u, hu, eu, hbu⟩ := (h1.bits z hz i).1 hbz
        have ez : z.d = k.d := ey
        rcases List.mem_append.1 hu with hu | hu
        · exact .inl ⟨u, hu, eu.trans ez, hbu⟩
        · exact .inr ⟨u, hu, eu.trans ez, hbu⟩
    · rw [List.mem_singleton] at hy
      subst hy
      have h9 : ((2 : Int) ^ q).toNat.testBit i = true := hby
      rw [pow_bit] at h9
      exact .inl (of_decide_eq_true h9).symm
structure Bel (n : Nat) (s : Cm) (S : List Dt) : Prop where
  kn : s.kn.length = n
  ok : ∀ p, ∀ k ∈ s.kn.getD p [], okH k.h
  mok : ∀ m ∈ s.fl, (∀ k ∈ m.kn, okH k.h) ∧ m.dst < n
  own : ∀ p, ∀ k ∈ s.kn.getD p [], bitH k p = true
  held : ∀ p, ∀ k ∈ s.kn.getD p [], ∀ i, bitH k i = true → i < n ∧ (Kw s i k.d ∨ k.d ∈ S)
  msgs : ∀ m ∈ s.fl, ∀ k ∈ m.kn, ∀ i, bitH k i = true → i < n ∧ (Kw s i k.d ∨ k.d ∈ S)
theorem getD_rep {α : Type} (n p : Nat) : (List.replicate n ([] : List α)).getD p [] = [] := by
  rw [List.getD_eq_getElem?_getD, List.getElem?_replicate]
  split <;> rfl
theorem Bel.start (n : Nat) : Bel n (startV n) [] := by
  refine ⟨by simp [startV], fun p k hk => ?_, (fun m hm => by cases hm), fun p k hk => ?_, fun p k hk => ?_, (fun m hm => by cases hm)⟩
  all_goals
    rw [show (startV n).kn = List.replicate n [] from rfl, getD_rep] at hk
    cases hk
theorem Bel.send {n : Nat} {s : Cm} {S : List Dt} (h : Bel n s S) (f : Int) {a b : Nat} (hb : b < n) : Bel n (sendV f s a b) S := by
  refine ⟨h.kn, h.ok, fun m hm => ?_, h.own, h.held, fun m hm => ?_⟩
  · rcases List.mem_append.1 hm with hm | hm
    · exact h.mok m hm
    · rw [List.mem_singleton] at hm
      subst hm
      exact ⟨fun k hk => h.ok a k (List.mem_filter.1 hk).1, hb⟩
  · rcases List.mem_append.1 hm with hm | hm
    · exact h.msgs m hm
    · rw [List.mem_singleton] at hm
      subst hm
      exact fun k hk => h.held a k (List.mem_filter.1 hk).1
/-- what a process knows only grows -/
theorem recv_kw {n : Nat} {s : Cm} {S : List Dt} (h : Bel n s S) (hn : n ≤ 32) {i : Nat} (hi : i < s.fl.length) {p : Nat} {d : Dt} (hk : Kw s p d) : Kw (recvV s i) p d := by
  have hm := h.mok _ (getD_mem s.fl i mgD hi)
  unfold recvV Kw at *
  generalize s.fl.getD i mgD = m at *
  obtain ⟨k, hk, e⟩ := hk
  dsimp only
  rw [getD_set _ _ _ _ _ (by rw [h.kn]; exact hm.2)]
  split
  · rename_i hq
    subst hq
    exact ((recvL (by omega) _ (h.ok m.dst) hm.1).2.1 d).2 (.inl ⟨k, hk, e⟩)
  · exact ⟨k, hk, e⟩
theorem recv_msg {n : Nat} {s : Cm} {S : List Dt} (h : Bel n s S) (hn : n ≤ 32) {i : Nat} (hi : i < s.fl.length) {d : Dt} (hk : ∃ k ∈ (s.fl.getD i mgD).kn, k.d = d) : Kw (recvV s i) (s.fl.getD i mgD).dst d := by
  have hm := h.mok _ (getD_mem s.fl i mgD hi)
  unfold recvV Kw at *
  generalize s.fl.getD i mgD = m at *
  dsimp only
  rw [getD_set _ _ _ _ _ (by rw [h.kn]; exact hm.2), if_pos rfl]
  exact ((recvL (by omega) _ (h.ok m.dst) hm.1).2.1 d).2 (.inr (.inl hk))
theorem recv_new {n : Nat} {s : Cm} {S : List Dt} (h : Bel n s S) (hn : n ≤ 32) {i : Nat} (hi : i < s.fl.length) :
    Kw (recvV s i) (s.fl.getD i mgD).dst ⟨(s.fl.getD i mgD).dst, ((s.ev.getD (s.fl.getD i mgD).dst []).length : Int) + 1, evOf (s.fl.getD i mgD)⟩ := by
  have hm := h.mok _ (getD_mem s.fl i mgD hi)
  unfold recvV Kw at *
  generalize s.fl.getD i mgD = m at *
  dsimp only
  rw [getD_set _ _ _ _ _ (by rw [h.kn]; exact hm.2), if_pos rfl]
  exact ((recvL (by omega) _ (h.ok m.dst) hm.1).2.1 _).2 (.inr (.inr rfl))
theorem Bel.recv {n : Nat} {s : Cm} {S : List Dt} (h : Bel n s S) (hn : n ≤ 32) {i : Nat} (hi : i < s.fl.length) : Bel n (recvV s i) S := by
  have hkw : ∀ p d, Kw s p d → Kw (recvV s i) p d := fun p d hk => recv_kw h hn hi hk
  have hmm := getD_mem s.fl i mgD hi
  have hm := h.mok _ hmm
  have hms := h.msgs _ hmm
  have hfl : (recvV s i).fl = s.fl.eraseIdx i := rfl
  have hkn : (recvV s i).kn = s.kn.set (s.fl.getD i mgD).dst (memV (mergeV (2 ^ (s.fl.getD i mgD).dst) (s.kn.getD (s.fl.getD i mgD).dst []) (s.fl.getD i mgD).kn ++ [⟨⟨(s.fl.getD i mgD).dst, ((s.ev.getD (s.fl.getD i mgD).dst []).length : Int) + 1, evOf (s.fl.getD i mgD)⟩, 2 ^ (s.fl.getD i mgD).dst⟩])) := rfl
  generalize recvV s i = s' at *
  generalize s.fl.getD i mgD = m at *
  have hL := recvL (show m.dst < 32 by omega) ⟨m.dst, ((s.ev.getD m.dst []).length : Int) + 1, evOf m⟩ (h.ok m.dst) hm.1
  generalize memV (mergeV (2 ^ m.dst) (s.kn.getD m.dst []) m.kn ++ [⟨⟨m.dst, ((s.ev.getD m.dst []).length : Int) + 1, evOf m⟩, 2 ^ m.dst⟩]) = L at *
  obtain ⟨l1, l2, l3, l4⟩ := hL
  have hgd : ∀ p, s'.kn.getD p [] = if m.dst = p then L else s.kn.getD p [] := fun p => by rw [hkn]; exact getD_set _ _ _ _ _ (by rw [h.kn]; exact hm.2)
  refine ⟨by rw [hkn]; simp [h.kn], fun p k hk => ?_, fun m' hm' => ?_, fun p k hk => ?_, fun p k hk j hb => ?_, fun m' hm' k hk j hb => ?_⟩
  · rw [hgd] at hk
    split at hk
    · exact l1 k hk
    · exact h.ok p k hk
  · rw [hfl] at hm'; exact h.mok m' (List.mem_of_mem_eraseIdx hm')
  · rw [hgd] at hk
    split at hk
    · rename_i e; subst e; exact l3 k hk
    · exact h.own p k hk
  · rw [hgd] at hk
    split at hk
    · rename_i e
      subst e
      rcases l4 k hk j hb with rfl | ⟨u, hu, eu, hbu⟩ | ⟨u, hu, eu, hbu⟩
      · exact ⟨hm.2, .inl ⟨k, by rw [hgd, if_pos rfl]; exact hk, rfl⟩⟩
      · have := h.held m.dst u hu j hbu
        rw [eu] at this
        exact ⟨this.1, this.2.imp (hkw j _) id⟩
      · have := hms u hu j hbu
        rw [eu] at this
        exact ⟨this.1, this.2.imp (hkw j _) id⟩
    · have := h.held p k hk j hb
      exact ⟨this.1, this.2.imp (hkw j _) id⟩
  · rw [hfl] at hm'
    have := h.msgs m' (List.mem_of_mem_eraseIdx hm') k hk j hb
    exact ⟨this.1, this.2.imp (hkw j _) id⟩
theorem ckpt_kw {n : Nat} {s : Cm} {S : List Dt} (h : Bel n s S) {p : Nat} (hp : p < n) (q : Nat) (d : Dt) : Kw (ckptV n s p) q d ↔ Kw s q d := by
  unfold ckptV Kw
  dsimp only
  rw [getD_set _ _ _ _ _ (by rw [h.kn]; exact hp)]
  split
  · rename_i e
    subst e
    constructor
    · rintro ⟨k, hk, e⟩
      obtain ⟨x, hx, rfl⟩ := List.mem_map.1 hk
      exact ⟨x, hx, e⟩
    · rintro ⟨k, hk, e⟩
      exact ⟨stK n k, List.mem_map.2 ⟨k, hk, rfl⟩, e⟩
  · exact Iff.rfl
theorem Bel.ckpt {n : Nat} {s : Cm} {S : List Dt} (h : Bel n s S) (hn : n ≤ 32) {p : Nat} (hp : p < n) : Bel n (ckptV n s p) (stockV (S ++ (s.kn.getD p []).map Kn.d)) := by
  have hS : ∀ d, d ∈ S → d ∈ stockV (S ++ (s.kn.getD p []).map Kn.d) := fun d hd => (stock_mem _ _).2 (List.mem_append_left _ hd)
  have hkw : ∀ q d, Kw s q d → Kw (ckptV n s p) q d := fun q d hk => (ckpt_kw h hp q d).2 hk
  have hgd : ∀ q, (ckptV n s p).kn.getD q [] = if p = q then (s.kn.getD p []).map (stK n) else s.kn.getD q [] := fun q => getD_set _ _ _ _ _ (by rw [h.kn]; exact hp)
  refine ⟨by simp [ckptV, h.kn], fun q k hk => ?_, h.mok, fun q k hk => ?_, fun q k hk j hb => ?_, fun m hm k hk j hb => ?_⟩
  · rw [hgd] at hk
    split at hk
    · obtain ⟨x, hx, rfl⟩ := List.mem_map.1 hk
      exact stK_ok hn x (h.ok p x hx)
    · exact h.ok q k hk
  · rw [hgd] at hk
    split at hk
    · rename_i e
      subst e
      obtain ⟨x, hx, rfl⟩ := List.mem_map.1 hk
      rw [stK_bit hn (h.ok p x hx), decide_eq_true hp, Bool.or_true]
    · exact h.own q k hk
  · rw [hgd] at hk
    split at hk
    · rename_i e
      subst e
      obtain ⟨x, hx, rfl⟩ := List.mem_map.1 hk
      have hd : x.d ∈ stockV (S ++ (s.kn.getD p []).map Kn.d) := (stock_mem _ _).2 (List.mem_append_right _ (List.mem_map.2 ⟨x, hx, rfl⟩))
      rw [stK_bit hn (h.ok p x hx), Bool.or_eq_true] at hb
      rcases hb with hb | hb
      · exact ⟨(h.held p x hx j hb).1, .inr hd⟩
      · exact ⟨of_decide_eq_true hb, .inr hd⟩
    · have := h.held q k hk j hb
      exact ⟨this.1, this.2.imp (hkw j _) (hS _)⟩
  · have := h.msgs m hm k hk j hb
    exact ⟨this.1, this.2.imp (hkw j _) (hS _)⟩
/-! ### the past -/
inductive Pst (E : List (List Ev)) (p k : Nat) : Nat → Nat → Prop
  | own (j : Nat) : j ≤ k → Pst E p k p j
  | arc (q i j t : Nat) (e : Ev) : Pst E p k q i → j < i → (E.getD q [])[j]? = some e → t ≤ e.sidx.toNat → Pst E p k e.frm.toNat t
theorem Pst.down {E : List (List Ev)} {p k q i : Nat} (h : Pst E p k q i) {j : Nat} (hj : j ≤ i) : Pst E p k q j := by
  cases h with
  | own _ h1 => exact .own j (Nat.le_trans hj h1)
  | arc q i j' t e h1 h2 h3 h4 => exact .arc q _ j' j e h1 h2 h3 (Nat.le_trans hj h4)
def PD (E : List (List Ev)) (p k : Nat) (d : Dt) : Prop := ∃ (q i : Nat) (e : Ev), Pst E p k q (i + 1) ∧ (E.getD q [])[i]? = some e ∧ d = ⟨(q : Int), (i : Int) + 1, e⟩
theorem push_get {E : List (List Ev)} {q : Nat} (hq : q < E.length) {x e : Ev} {r j : Nat} (hj : j < (E.getD r []).length) (h : ((E.set q (E.getD q [] ++ [x])).getD r [])[j]? = some e) : (E.getD r [])[j]? = some e := by
  rw [getD_set _ _ _ _ _ hq] at h
  split at h
  · rename_i e; subst e; rwa [List.getElem?_append_left hj] at h
  · exact h
theorem past_old {E : List (List Ev)} (hW : ∀ q, ∀ e ∈ E.getD q [], e.sidx.toNat ≤ (E.getD e.frm.toNat []).length) {q : Nat} {x : Ev} (hq : q < E.length) {p k : Nat} (hk : k ≤ (E.getD p []).length) {r i : Nat}
    (h : Pst (E.set q (E.getD q [] ++ [x])) p k r i) : i ≤ (E.getD r []).length ∧ Pst E p k r i := by
  induction h with
  | own j hj => exact ⟨Nat.le_trans hj hk, .own j hj⟩
  | arc q0 i0 j t e hp hj he ht ih =>
    have he' := push_get hq (Nat.lt_of_lt_of_le hj ih.1) he
    exact ⟨Nat.le_trans ht (hW q0 e (List.mem_of_getElem? he')), .arc q0 i0 j t e ih.2 hj he' ht⟩
theorem past_new {E : List (List Ev)} (hW : ∀ q, ∀ e ∈ E.getD q [], e.sidx.toNat ≤ (E.getD e.frm.toNat []).length) {q : Nat} {x : Ev} (hq : q < E.length) (hx : x.sidx.toNat ≤ (E.getD x.frm.toNat []).length) {r i : Nat}
    (h : Pst (E.set q (E.getD q [] ++ [x])) q ((E.getD q []).length + 1) r i) : (r = q ∧ i = (E.getD q []).length + 1) ∨ (i ≤ (E.getD r []).length ∧ (Pst E q (E.getD q []).length r i ∨ Pst E x.frm.toNat x.sidx.toNat r i)) := by
  induction h with
  | own j hj =>
    by_cases e : j = (E.getD q []).length + 1
    · exact .inl ⟨rfl, e⟩
    · exact .inr ⟨by omega, .inl (.own j (by omega))⟩
  | arc q0 i0 j t e hp hj he ht ih =>
    rcases ih with ⟨rfl, rfl⟩ | ⟨hi, hor⟩
    · by_cases e' : j = (E.getD q0 []).length
      · rw [getD_set _ _ _ _ _ hq, if_pos rfl, e', List.getElem?_append_right (Nat.le_refl _), Nat.sub_self] at he
        injection he with he
        subst he
        exact .inr ⟨Nat.le_trans ht hx, .inr (.own t ht)⟩
      · have hjl : j < (E.getD q0 []).length := by omega
        have he' := push_get hq hjl he
        exact .inr ⟨Nat.le_trans ht (hW q0 e (List.mem_of_getElem? he')), .inl (.arc q0 _ j t e (.own _ (Nat.le_refl _)) hjl he' ht)⟩
    · have he' := push_get hq (Nat.lt_of_lt_of_le hj hi) he
      refine .inr ⟨Nat.le_trans ht (hW q0 e (List.mem_of_getElem? he')), ?_⟩
      rcases hor with h | h
      · exact .inl (.arc q0 i0 j t e h hj he' ht)
      · exact .inr (.arc q0 i0 j t e h hj he' ht)
/-! ### replication -/
theorem pop_filter (a : Nat) : ∀ n, popI n a = ((List.range n).filter fun i => a.testBit i).length
  | 0 => rfl
  | n + 1 => by
    rw [popI_last, List.range_succ, List.filter_append, List.length_append, pop_filter a n]
    congr 1
    have : a / 2 ^ n % 2 = 0 ∨ a / 2 ^ n % 2 = 1 := by omega
    rcases this with h | h <;> simp [List.filter, Nat.testBit_eq_decide_div_mod_eq, h]
def safeD (n f : Nat) (s : Cm) (S : List Dt) (d : Dt) : Prop := d ∈ S ∨ ∃ H : List Nat, H.Nodup ∧ (∀ r ∈ H, r < n ∧ Kw s r d) ∧ f < H.length
theorem safeD.mono {n f : Nat} {s s' : Cm} {S S' : List Dt} {d : Dt} (h : safeD n f s S d) (hk : ∀ p, Kw s p d → Kw s' p d) (hS : d ∈ S → d ∈ S') : safeD n f s' S' d := by
  rcases h with h | ⟨H, h1, h2, h3⟩
  · exact .inl (hS h)
  · exact .inr ⟨H, h1, fun r hr => ⟨(h2 r hr).1, hk r (h2 r hr).2⟩, h3⟩
theorem safe_many {n f : Nat} {s : Cm} {S : List Dt} (h : Bel n s S) {p : Nat} {k : Kn} (hk : k ∈ s.kn.getD p []) (hc : f < cnt k.h) : safeD n f s S k.d := by
  by_cases hs : k.d ∈ S
  · exact .inl hs
  · right
    refine ⟨(List.range 32).filter (fun i => k.h.toNat.testBit i), List.Nodup.sublist List.filter_sublist List.nodup_range, fun r hr => ?_, ?_⟩
    · have hb : bitH k r = true := (List.mem_filter.1 hr).2
      have := h.held p k hk r hb
      exact ⟨this.1, this.2.resolve_right hs⟩
    · rw [← pop_filter]; exact hc
structure Rep (n f : Nat) (s : Cm) (S : List Dt) : Prop where
  bel : Bel n s S
  ev : s.ev.length = n
  w1 : ∀ q, ∀ e ∈ s.ev.getD q [], e.kind = 1 ∧ ∃ g t : Nat, e.frm = g ∧ e.sidx = t ∧ g < n ∧ g ≠ q ∧ t ≤ (s.ev.getD g []).length
  w2 : ∀ m ∈ s.fl, m.frm < n ∧ m.frm ≠ m.dst ∧ m.idx ≤ (s.ev.getD m.frm []).length
  r1 : ∀ p, p < n → ∀ d, PD s.ev p (s.ev.getD p []).length d → Kw s p d ∨ safeD n f s S d
  r2 : ∀ m ∈ s.fl, ∀ d, PD s.ev m.frm m.idx d → (∃ k ∈ m.kn, k.d = d) ∨ safeD n f s S d
theorem Rep.hW {n f : Nat} {s : Cm} {S : List Dt} (h : Rep n f s S) : ∀ q, ∀ e ∈ s.ev.getD q [], e.sidx.toNat ≤ (s.ev.getD e.frm.toNat []).length := fun q e he => by
  obtain ⟨-, g, t, e1, e2, -, -, h1⟩ := h.w1 q e he
  rw [e1, e2, Int.toNat_natCast, Int.toNat_natCast]
  exact h1
theorem Rep.start (n f : Nat) : Rep n f (startV n) [] := by
  have hE : ∀ q, (startV n).ev.getD q [] = [] := fun q => getD_rep n q
  refine ⟨Bel.start n, by simp [startV], (fun q e he => by rw [hE] at he; cases he), (fun m hm => by cases hm), fun p hp d hd => ?_, (fun m hm => by cases hm)⟩
  obtain ⟨q, i, e, -, h2, -⟩ := hd
  rw [hE] at h2
  cases h2
theorem Rep.send {n f : Nat} {s : Cm} {S : List Dt} (h : Rep n f s S) {a b : Nat} (ha : a < n) (hb : b < n) (hab : a ≠ b) : Rep n f (sendV f s a b) S := by
  refine ⟨h.bel.send f hb, h.ev, h.w1, fun m hm => ?_, h.r1, fun m hm d hd => ?_⟩
  · rcases List.mem_append.1 hm with hm | hm
    · exact h.w2 m hm
    · rw [List.mem_singleton] at hm
      subst hm
      exact ⟨ha, hab, Nat.le_refl _⟩
  · rcases List.mem_append.1 hm with hm | hm
    · exact h.r2 m hm d hd
    · rw [List.mem_singleton] at hm
      subst hm
      rcases h.r1 a ha d hd with ⟨k, hk, rfl⟩ | hs
      · by_cases hc : cnt k.h ≤ f
        · left
          refine ⟨k, List.mem_filter.2 ⟨hk, ?_⟩, rfl⟩
          unfold keepF
          exact decide_eq_true (by omega)
        · exact .inr (safe_many h.bel hk (by omega))
      · exact .inr hs
theorem Rep.recv {n f : Nat} {s : Cm} {S : List Dt} (h : Rep n f s S) (hn : n ≤ 32) {i : Nat} (hi : i < s.fl.length) : Rep n f (recvV s i) S := by
  have hb := h.bel.recv hn hi
  have hkw : ∀ p d, Kw s p d → Kw (recvV s i) p d := fun p d hk => recv_kw h.bel hn hi hk
  have hkm : ∀ d, (∃ k ∈ (s.fl.getD i mgD).kn, k.d = d) → Kw (recvV s i) (s.fl.getD i mgD).dst d := fun d hk => recv_msg h.bel hn hi hk
  have hkn := recv_new h.bel hn hi
  have hmm := getD_mem s.fl i mgD hi
  have hW := h.hW
  have hfl : (recvV s i).fl = s.fl.eraseIdx i := rfl
  have hev : (recvV s i).ev = s.ev.set (s.fl.getD i mgD).dst (s.ev.getD (s.fl.getD i mgD).dst [] ++ [evOf (s.fl.getD i mgD)]) := rfl
  generalize recvV s i = s' at *
  generalize s.fl.getD i mgD = m at *
  have hmd := (h.bel.mok m hmm).2
  have hm2 := h.w2 m hmm
  have hqE : m.dst < s.ev.length := by rw [h.ev]; exact hmd
  have hx : (evOf m).sidx.toNat ≤ (s.ev.getD (evOf m).frm.toNat []).length := by
    show ((m.idx : Int)).toNat ≤ (s.ev.getD ((m.frm : Int)).toNat []).length
    rw [Int.toNat_natCast, Int.toNat_natCast]
    exact hm2.2.2
  have hgd : ∀ p, s'.ev.getD p [] = if m.dst = p then s.ev.getD m.dst [] ++ [evOf m] else s.ev.getD p [] := fun p => by rw [hev]; exact getD_set _ _ _ _ _ hqE
  have hge : ∀ p, (s.ev.getD p []).length ≤ (s'.ev.getD p []).length := fun p => by
    rw [hgd]
    split
    · rename_i e; subst e; simp
    · exact Nat.le_refl _
  have hold : ∀ p k d, k ≤ (s.ev.getD p []).length → PD s'.ev p k d → PD s.ev p k d := fun p k d hk hd => by
    obtain ⟨r, j, e, h1, h2, h3⟩ := hd
    rw [hev] at h1 h2
    obtain ⟨h4, h5⟩ := past_old hW hqE hk h1
    exact ⟨r, j, e, h5, push_get hqE (by omega) h2, h3⟩
  have hsm : ∀ d, safeD n f s S d → safeD n f s' S d := fun d hs => hs.mono (fun p => hkw p d) id
  refine ⟨hb, by rw [hev]; simp [h.ev], fun q e he => ?_, fun m' hm' => ?_, fun p hp d hd => ?_, fun m' hm' d hd => ?_⟩
  · rw [hgd] at he
    have key : e ∈ s.ev.getD q [] ∨ (q = m.dst ∧ e = evOf m) := by
      split at he
      · rename_i e'
        subst e'
        rcases List.mem_append.1 he with he | he
        · exact .inl he
        · exact .inr ⟨rfl, List.mem_singleton.1 he⟩
      · exact .inl he
    rcases key with he | ⟨rfl, rfl⟩
    · obtain ⟨h0, g, t, e1, e2, h1, h2, h3⟩ := h.w1 q e he
      exact ⟨h0, g, t, e1, e2, h1, h2, Nat.le_trans h3 (hge g)⟩
    · exact ⟨rfl, m.frm, m.idx, rfl, rfl, hm2.1, hm2.2.1, Nat.le_trans hm2.2.2 (hge _)⟩
  · rw [hfl] at hm'
    have := h.w2 m' (List.mem_of_mem_eraseIdx hm')
    exact ⟨this.1, this.2.1, Nat.le_trans this.2.2 (hge _)⟩
  · by_cases hpq : m.dst = p
    · subst hpq
      rw [hgd, if_pos rfl, List.length_append] at hd
      obtain ⟨r, j, e, h1, h2, h3⟩ := hd
      rw [hev] at h1 h2
      rcases past_new hW hqE hx h1 with ⟨rfl, hj⟩ | ⟨hj, hor⟩
      · have hj' : j = (s.ev.getD m.dst []).length := by omega
        rw [getD_set _ _ _ _ _ hqE, if_pos rfl, hj', List.getElem?_append_right (Nat.le_refl _), Nat.sub_self] at h2
        injection h2 with h2
        subst h2
        rw [h3, hj']
        exact .inl hkn
      · have h2' := push_get hqE (by omega) h2
        rcases hor with hp1 | hp1
        · rcases h.r1 m.dst hmd d ⟨r, j, e, hp1, h2', h3⟩ with hk | hs
          · exact .inl (hkw _ _ hk)
          · exact .inr (hsm d hs)
        · have hp2 : Pst s.ev m.frm m.idx r (j + 1) := by
            have : Pst s.ev ((m.frm : Int)).toNat ((m.idx : Int)).toNat r (j + 1) := hp1
            rwa [Int.toNat_natCast, Int.toNat_natCast] at this
          rcases h.r2 m hmm d ⟨r, j, e, hp2, h2', h3⟩ with hk | hs
          · exact .inl (hkm d hk)
          · exact .inr (hsm d hs)
    · have hl : (s'.ev.getD p []).length = (s.ev.getD p []).length := by rw [hgd, if_neg hpq]
      rw [hl] at hd
      rcases h.r1 p hp d (hold p _ d (Nat.le_refl _) hd) with hk | hs
      · exact .inl (hkw _ _ hk)
      · exact .inr (hsm d hs)
  · rw [hfl] at hm'
    have hm3 := List.mem_of_mem_eraseIdx hm'
    rcases h.r2 m' hm3 d (hold _ _ d (h.w2 m' hm3).2.2 hd) with hk | hs
    · exact .inl hk
    · exact .inr (hsm d hs)
theorem Rep.ckpt {n f : Nat} {s : Cm} {S : List Dt} (h : Rep n f s S) (hn : n ≤ 32) {p : Nat} (hp : p < n) : Rep n f (ckptV n s p) (stockV (S ++ (s.kn.getD p []).map Kn.d)) := by
  have hS : ∀ d, d ∈ S → d ∈ stockV (S ++ (s.kn.getD p []).map Kn.d) := fun d hd => (stock_mem _ _).2 (List.mem_append_left _ hd)
  have hsm : ∀ d, safeD n f s S d → safeD n f (ckptV n s p) (stockV (S ++ (s.kn.getD p []).map Kn.d)) d := fun d hs => hs.mono (fun q => (ckpt_kw h.bel hp q d).2) (hS d)
  refine ⟨h.bel.ckpt hn hp, h.ev, h.w1, h.w2, fun q hq d hd => ?_, fun m hm d hd => ?_⟩
  · exact (h.r1 q hq d hd).imp (ckpt_kw h.bel hp q d).2 (hsm d)
  · exact (h.r2 m hm d hd).imp id (hsm d)
theorem Rep.act {n f : Nat} {s : Cm} {S : List Dt} {a : Av} (h : Rep n f s S) (hn : n ≤ 32) : Rep n f (actV n f s a) (sureV n s S a) := by
  unfold actV sureV
  by_cases k1 : a.kind = 1
  · rw [if_pos k1, if_neg (show ¬ a.kind = 3 by omega)]
    split
    · rename_i hc
      obtain ⟨⟨h1, h2⟩, ⟨h3, h4⟩, h5, h6⟩ := canSend_iff.1 hc
      exact h.send (by omega) (by omega) (by omega)
    · exact h
  · rw [if_neg k1]
    by_cases k2 : a.kind = 2
    · rw [if_pos k2, if_neg (show ¬ a.kind = 3 by omega)]
      split
      · rename_i hc
        obtain ⟨h1, h2, h3⟩ := canRecv_iff.1 hc
        exact h.recv hn (by omega)
      · exact h
    · rw [if_neg k2]
      by_cases k3 : a.kind = 3
      · rw [if_pos k3, if_pos k3]
        by_cases hc : okProc n a.proc = true
        · rw [if_pos hc, if_pos hc]
          obtain ⟨h1, h2⟩ := okProc_iff.1 hc
          exact h.ckpt hn (by omega)
        · rw [if_neg hc, if_neg hc]
          exact h
      · rw [if_neg k3, if_neg k3]
        exact h
theorem Rep.play (n f : Nat) (hn : n ≤ 32) (l : List Av) : Rep n f (playS n f l).1 (playS n f l).2 := by
  have : ∀ (l : List Av) (x : Cm × List Dt), Rep n f x.1 x.2 → Rep n f (l.foldl (actS n f) x).1 (l.foldl (actS n f) x).2 := by
    intro l
    induction l with
    | nil => intro x h; exact h
    | cons a l ih => intro x h; exact ih _ (h.act hn)
  exact this l _ (Rep.start n f)
end Go.Proofs.Ytfnnoncdocghjaa
