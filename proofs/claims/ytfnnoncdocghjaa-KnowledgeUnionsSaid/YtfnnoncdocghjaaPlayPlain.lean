/- The computation with causal logging in plain Lean. No statement of the seat is proved here. -/
import Derived.Test.YtfnnoncdocghjaaMemPlain2
import Derived.Test.YtfnnoncdocghjaaStableK
import Derived.Test.YtfnnoncdocghjaaSelK2
namespace Go.Proofs.Ytfnnoncdocghjaa
open Go.RowKit
set_option linter.unusedVariables false

structure Mg where
  frm : Nat
  dst : Nat
  idx : Nat
  ord : Nat
  kn : List Kn
structure Cm where
  ords : List Nat
  fl : List Mg
  ev : List (List Ev)
  kn : List (List Kn)
structure Av where
  kind : Int
  proc : Int
  other : Int
def startV (n : Nat) : Cm := ⟨List.replicate n 0, [], List.replicate n [], List.replicate n []⟩
def okProc (n : Nat) (p : Int) : Bool := decide (0 ≤ p) && decide (p < n)
def canSend (n : Nat) (s : Cm) (p o : Int) : Bool := okProc n p && okProc n o && (p != o) && decide (s.fl.length < 256)
def sendV (f : Int) (s : Cm) (a b : Nat) : Cm :=
  ⟨s.ords.set a (s.ords.getD a 0 + 1), s.fl ++ [⟨a, b, (s.ev.getD a []).length, s.ords.getD a 0, (s.kn.getD a []).filter (keepF f)⟩], s.ev, s.kn⟩
def mgD : Mg := ⟨0, 0, 0, 0, []⟩
def canRecv (s : Cm) (o : Int) : Bool := decide (0 ≤ o) && decide (o < s.fl.length) && decide ((s.ev.getD (s.fl.getD o.toNat mgD).dst []).length < 64)
def evOf (m : Mg) : Ev := ⟨1, 0, m.frm, 0, m.idx, m.ord, 0⟩
def mergeV (b : Int) (x y : List Kn) : List Kn := (memV (x ++ y)).map (orB b)
def recvV (s : Cm) (i : Nat) : Cm :=
  let m := s.fl.getD i mgD
  let q := m.dst
  let es := s.ev.getD q []
  ⟨s.ords.set q 0, s.fl.eraseIdx i, s.ev.set q (es ++ [evOf m]), s.kn.set q (memV (mergeV (2 ^ q) (s.kn.getD q []) m.kn ++ [⟨⟨q, (es.length : Int) + 1, evOf m⟩, 2 ^ q⟩]))⟩
def ckptV (n : Nat) (s : Cm) (p : Nat) : Cm := ⟨s.ords, s.fl, s.ev, s.kn.set p ((s.kn.getD p []).map (stK n))⟩
def actV (n : Nat) (f : Int) (s : Cm) (a : Av) : Cm :=
  if a.kind = 1 then if canSend n s a.proc a.other then sendV f s a.proc.toNat a.other.toNat else s
  else if a.kind = 2 then if canRecv s a.other then recvV s a.other.toNat else s
  else if a.kind = 3 then if okProc n a.proc then ckptV n s a.proc.toNat else s
  else s
def playV (n : Nat) (f : Int) (l : List Av) : Cm := l.foldl (actV n f) (startV n)
theorem playV_take (n : Nat) (f : Int) (l : List Av) (j : Nat) (hj : j < l.length) : playV n f (l.take (j + 1)) = actV n f (playV n f (l.take j)) l[j] := by
  unfold playV
  rw [List.take_succ_eq_append_getElem hj, List.foldl_append]
  rfl

/-! ### what is bounded -/
theorem nodup_le {l G : List Dt} (h : AscD l) (hs : ∀ d ∈ l, d ∈ G) : l.length ≤ G.length := by
  induction l generalizing G with
  | nil => exact Nat.zero_le _
  | cons x l ih =>
    obtain ⟨h1, h2⟩ := List.pairwise_cons.1 h
    obtain ⟨a, b, rfl⟩ := List.append_of_mem (hs x (List.mem_cons_self ..))
    have := ih (G := a ++ b) h2 fun d hd => by
      have hne : d ≠ x := fun e => by
        have h3 := h1 d hd
        rw [e] at h3
        have := cmpD_anti x x
        omega
      have h4 := hs d (List.mem_cons_of_mem _ hd)
      simp only [List.mem_append, List.mem_cons] at h4 ⊢
      rcases h4 with h4 | h4 | h4
      · exact .inl h4
      · exact absurd h4 hne
      · exact .inr h4
    simp only [List.length_append, List.length_cons] at this ⊢
    omega
structure KnOk (G : List Dt) (l : List Kn) : Prop where
  asc : AscD (l.map Kn.d)
  mem : ∀ k ∈ l, k.d ∈ G
  ok : ∀ k ∈ l, okH k.h
theorem KnOk.len {G : List Dt} {l : List Kn} (h : KnOk G l) : l.length ≤ G.length := by
  have := nodup_le h.asc (G := G) fun d hd => by
    obtain ⟨k, hk, rfl⟩ := List.mem_map.1 hd
    exact h.mem k hk
  simpa using this
theorem KnOk.nil (G : List Dt) : KnOk G [] := ⟨List.Pairwise.nil, by simp, by simp⟩
theorem KnOk.more {G G' : List Dt} {l : List Kn} (h : KnOk G l) (hG : ∀ d ∈ G, d ∈ G') : KnOk G' l := ⟨h.asc, fun k hk => hG _ (h.mem k hk), h.ok⟩
theorem KnOk.filter {G : List Dt} {l : List Kn} (h : KnOk G l) (f : Kn → Bool) : KnOk G (l.filter f) :=
  ⟨h.asc.sublist (List.filter_sublist.map _), fun k hk => h.mem k (List.mem_filter.1 hk).1, fun k hk => h.ok k (List.mem_filter.1 hk).1⟩
theorem KnOk.map {G : List Dt} {l : List Kn} (h : KnOk G l) (f : Kn → Kn) (hd : ∀ k, (f k).d = k.d) (hf : ∀ k, okH k.h → okH (f k).h) : KnOk G (l.map f) := by
  refine ⟨?_, fun k hk => ?_, fun k hk => ?_⟩
  · rw [List.map_map, show Kn.d ∘ f = Kn.d from funext hd]; exact h.asc
  · obtain ⟨x, hx, rfl⟩ := List.mem_map.1 hk
    rw [hd]; exact h.mem x hx
  · obtain ⟨x, hx, rfl⟩ := List.mem_map.1 hk
    exact hf x (h.ok x hx)
theorem KnOk.memV {G : List Dt} {l : List Kn} (hm : ∀ k ∈ l, k.d ∈ G) (hok : ∀ k ∈ l, okH k.h) : KnOk G (memV l) := by
  have h := memV_of l hok
  refine ⟨h.asc, fun k hk => ?_, h.ok⟩
  obtain ⟨x, hx, e⟩ := (h.dets k.d).1 ⟨k, hk, rfl⟩
  rw [← e]; exact hm x hx
structure MgOk (n t : Nat) (G : List Dt) (m : Mg) : Prop where
  k : KnOk G m.kn
  f : m.frm < n
  d : m.dst < n
  i : m.idx ≤ 64
  o : m.ord ≤ t
structure WF (n t : Nat) (s : Cm) : Prop where
  o : s.ords.length = n
  e : s.ev.length = n
  k : s.kn.length = n
  fl : s.fl.length ≤ t
  f256 : s.fl.length ≤ 256
  ol : ∀ x ∈ s.ords, x ≤ t
  el : ∀ x ∈ s.ev, x.length ≤ 64
  g : ∃ G : List Dt, G.length ≤ t ∧ (∀ l ∈ s.kn, KnOk G l) ∧ ∀ m ∈ s.fl, MgOk n t G m
theorem getD_mem {α : Type} (l : List α) (i : Nat) (d : α) (h : i < l.length) : l.getD i d ∈ l := by
  rw [List.getD_eq_getElem?_getD, List.getElem?_eq_getElem h]; exact List.getElem_mem h
theorem okH_pow {m : Nat} (h : m < 32) : okH ((2 : Int) ^ m) := by
  have : ∀ i : Fin 32, okH ((2 : Int) ^ i.val) := by unfold okH; decide
  exact this ⟨m, h⟩
theorem okH_all {m : Nat} (h : m ≤ 32) : okH ((2 : Int) ^ m - 1) := by
  have : ∀ i : Fin 33, okH ((2 : Int) ^ i.val - 1) := by unfold okH; decide
  exact this ⟨m, by omega⟩
theorem stK_ok {m : Nat} (h : m ≤ 32) (k : Kn) (hk : okH k.h) : okH (stK m k).h := orB_ok (okH_all h) hk
theorem WF.start (n : Nat) : WF n 0 (startV n) := by
  refine ⟨by simp [startV], by simp [startV], by simp [startV], Nat.le_refl _, Nat.zero_le _, fun x hx => ?_, fun x hx => ?_, [], Nat.le_refl _, fun l hl => ?_, fun m hm => ?_⟩
  · rw [(List.mem_replicate.1 hx).2]; exact Nat.le_refl _
  · rw [(List.mem_replicate.1 hx).2]; exact Nat.zero_le _
  · rw [(List.mem_replicate.1 hl).2]; exact KnOk.nil _
  · cases hm
theorem MgOk.more {n t t' : Nat} {G G' : List Dt} {m : Mg} (h : MgOk n t G m) (ht : t ≤ t') (hG : ∀ d ∈ G, d ∈ G') : MgOk n t' G' m := ⟨h.k.more hG, h.f, h.d, h.i, Nat.le_trans h.o ht⟩
theorem WF.more {n t t' : Nat} {s : Cm} (h : WF n t s) (ht : t ≤ t') : WF n t' s := by
  obtain ⟨G, h1, h2, h3⟩ := h.g
  exact ⟨h.o, h.e, h.k, Nat.le_trans h.fl ht, h.f256, fun x hx => Nat.le_trans (h.ol x hx) ht, h.el, G, Nat.le_trans h1 ht, h2, fun m hm => (h3 m hm).more ht fun _ hd => hd⟩
theorem okProc_iff {n : Nat} {p : Int} : okProc n p = true ↔ 0 ≤ p ∧ p < n := by simp [okProc]
theorem canSend_iff {n : Nat} {s : Cm} {p o : Int} : canSend n s p o = true ↔ (0 ≤ p ∧ p < n) ∧ (0 ≤ o ∧ o < n) ∧ p ≠ o ∧ s.fl.length < 256 := by
  simp [canSend, okProc_iff, and_assoc]
theorem canRecv_iff {s : Cm} {o : Int} : canRecv s o = true ↔ 0 ≤ o ∧ o < s.fl.length ∧ (s.ev.getD (s.fl.getD o.toNat mgD).dst []).length < 64 := by
  simp [canRecv, and_assoc]
theorem mem_set {α : Type} {l : List α} {i : Nat} {x y : α} (h : y ∈ l.set i x) : y = x ∨ y ∈ l := (List.mem_or_eq_of_mem_set h).symm
theorem WF.send {n t : Nat} {f : Int} {s : Cm} {a b : Nat} (h : WF n t s) (ha : a < n) (hb : b < n) (hl : s.fl.length < 256) : WF n (t + 1) (sendV f s a b) := by
  obtain ⟨G, h1, h2, h3⟩ := h.g
  have hk := h2 _ (getD_mem s.kn a [] (by rw [h.k]; exact ha))
  have he := h.el _ (getD_mem s.ev a [] (by rw [h.e]; exact ha))
  have ho := h.ol _ (getD_mem s.ords a 0 (by rw [h.o]; exact ha))
  have h5 := h.fl
  refine ⟨by simp [sendV, h.o], h.e, h.k, ?_, ?_, fun x hx => ?_, h.el, G, by omega, h2, fun m hm => ?_⟩
  · simp [sendV]; omega
  · simp [sendV]; omega
  · rcases mem_set hx with rfl | hx
    · omega
    · have := h.ol x hx; omega
  · rcases List.mem_append.1 hm with hm | hm
    · exact (h3 m hm).more (Nat.le_succ _) fun _ hd => hd
    · rw [List.mem_singleton] at hm
      subst hm
      exact ⟨hk.filter _, ha, hb, he, Nat.le_trans ho (Nat.le_succ _)⟩
theorem WF.recv {n t : Nat} {s : Cm} {i : Nat} (h : WF n t s) (hn : n ≤ 32) (hi : i < s.fl.length) (hl : (s.ev.getD (s.fl.getD i mgD).dst []).length < 64) : WF n (t + 1) (recvV s i) := by
  obtain ⟨G, h1, h2, h3⟩ := h.g
  have hm := h3 _ (getD_mem s.fl i mgD hi)
  unfold recvV
  generalize s.fl.getD i mgD = m at *
  obtain ⟨hmk, hmf, hmd, hmi, hmo⟩ := hm
  have hk := h2 _ (getD_mem s.kn m.dst [] (by rw [h.k]; exact hmd))
  dsimp only
  generalize s.kn.getD m.dst [] = K at *
  generalize s.ev.getD m.dst [] = es at *
  have h5 := h.fl
  have hpow := okH_pow (m := m.dst) (by omega)
  have hMo : ∀ k ∈ mergeV (2 ^ m.dst) K m.kn, okH k.h ∧ k.d ∈ G := fun k hk' => by
    obtain ⟨x, hx, rfl⟩ := List.mem_map.1 hk'
    have := KnOk.memV (G := G) (l := K ++ m.kn) (fun y hy => by rcases List.mem_append.1 hy with hy | hy; exact hk.mem y hy; exact hmk.mem y hy) (fun y hy => by rcases List.mem_append.1 hy with hy | hy; exact hk.ok y hy; exact hmk.ok y hy)
    exact ⟨orB_ok hpow (this.ok x hx), this.mem x hx⟩
  refine ⟨by simp [h.o], by simp [h.e], by simp [h.k], ?_, ?_, fun x hx => ?_, fun x hx => ?_, ⟨m.dst, (es.length : Int) + 1, evOf m⟩ :: G, by simp; omega, fun l hl' => ?_, fun m' hm' => ?_⟩
  · have := List.length_eraseIdx_le s.fl i
    dsimp only; omega
  · have := List.length_eraseIdx_le s.fl i
    have := h.f256
    dsimp only; omega
  · rcases mem_set hx with rfl | hx
    · omega
    · have := h.ol x hx; omega
  · rcases mem_set hx with rfl | hx
    · simp; omega
    · exact h.el x hx
  · rcases mem_set hl' with rfl | hl'
    · refine KnOk.memV (fun k hk' => ?_) (fun k hk' => ?_)
      · rcases List.mem_append.1 hk' with hk' | hk'
        · exact List.mem_cons_of_mem _ (hMo k hk').2
        · rw [List.mem_singleton] at hk'; subst hk'; exact List.mem_cons_self ..
      · rcases List.mem_append.1 hk' with hk' | hk'
        · exact (hMo k hk').1
        · rw [List.mem_singleton] at hk'; subst hk'; exact hpow
    · exact (h2 l hl').more fun _ hd => List.mem_cons_of_mem _ hd
  · exact (h3 m' (List.mem_of_mem_eraseIdx hm')).more (Nat.le_succ _) fun _ hd => List.mem_cons_of_mem _ hd
theorem WF.ckpt {n t : Nat} {s : Cm} {p : Nat} (h : WF n t s) (hn : n ≤ 32) (hp : p < n) : WF n t (ckptV n s p) := by
  obtain ⟨G, h1, h2, h3⟩ := h.g
  have hk := h2 _ (getD_mem s.kn p [] (by rw [h.k]; exact hp))
  refine ⟨h.o, h.e, by simp [ckptV, h.k], h.fl, h.f256, h.ol, h.el, G, h1, fun l hl => ?_, h3⟩
  rcases mem_set hl with rfl | hl
  · exact hk.map _ (fun _ => rfl) (fun k hk => stK_ok hn k hk)
  · exact h2 l hl
theorem WF.act {n t : Nat} {f : Int} {s : Cm} {a : Av} (h : WF n t s) (hn : n ≤ 32) : WF n (t + 1) (actV n f s a) := by
  unfold actV
  split
  · split
    · rename_i hc
      obtain ⟨⟨h1, h2⟩, ⟨h3, h4⟩, h5, h6⟩ := canSend_iff.1 hc
      exact h.send (by omega) (by omega) h6
    · exact h.more (Nat.le_succ _)
  · split
    · split
      · rename_i hc
        obtain ⟨h1, h2, h3⟩ := canRecv_iff.1 hc
        exact h.recv hn (by omega) h3
      · exact h.more (Nat.le_succ _)
    · split
      · split
        · rename_i hc
          obtain ⟨h1, h2⟩ := okProc_iff.1 hc
          exact (h.ckpt hn (by omega)).more (Nat.le_succ _)
        · exact h.more (Nat.le_succ _)
      · exact h.more (Nat.le_succ _)
theorem WF.play (n : Nat) (f : Int) (hn : n ≤ 32) (l : List Av) : ∀ j, j ≤ l.length → WF n j (playV n f (l.take j)) := by
  intro j
  induction j with
  | zero => intro _; exact WF.start n
  | succ j ih => intro hj; rw [playV_take n f l j hj]; exact (ih (by omega)).act hn
end Go.Proofs.Ytfnnoncdocghjaa
