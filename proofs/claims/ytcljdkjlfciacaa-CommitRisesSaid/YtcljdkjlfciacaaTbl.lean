/- A table of rows of determinants; Merge gives a row of its own; Full; a lineage cut short. No statement of the seat is proved here. -/
import Derived.Test.YtcljdkjlfciacaaMergeC
import Derived.Test.YtcljdkjlfciacaaRepl
namespace Go.Proofs.Ytcljdkjlfciacaa
open Go.RowKit
set_option linter.unusedVariables false
set_option maxRecDepth 100000

structure TbL (W : World) (base gl : Nat) (G : List (Gr Dt)) : Prop where
  b : ∃ cs, Blk W gl 44 cs ∧ ∀ (q : Nat) (s : Gr Dt), G[q]? = some s → cs[q]? = some (Gr.val s)
  r : ∀ s ∈ G, DtSeg W s.A s.l ∧ s.l.length ≤ s.c ∧ s.c ≤ maxLen
  a : ∀ s ∈ G, 0 < s.l.length → ∀ ad, s.A = some ad → base ≤ ad.block ∧ ad.block ≠ gl
  z : base ≤ gl
section
variable {W W' : World} {base gl : Nat} {G : List (Gr Dt)}
theorem TbL.ext (h : TbL W base gl G) (hE : Ext W W') : TbL W' base gl G := by
  obtain ⟨cs, hB, hc⟩ := h.b
  exact ⟨⟨cs, hB.ext hE, hc⟩, fun s hs => ⟨(h.r s hs).1.ext hE, (h.r s hs).2⟩, h.a, h.z⟩
theorem TbL.low (h : TbL W base gl G) {g : Nat} (hg : W.grownBy W' (some g)) (hb : g < base) : TbL W' base gl G := by
  obtain ⟨cs, hB, hc⟩ := h.b
  have hz := h.z
  exact ⟨⟨cs, Blk.trans' hB hg (by omega), hc⟩, fun s hs => ⟨(h.r s hs).1.grown hg (fun hn ad ha e => by injection e with e; have := (h.a s hs hn ad ha).1; omega), (h.r s hs).2⟩, h.a, h.z⟩
theorem TbL.cell (h : TbL W base gl G) {q : Nat} {s : Gr Dt} (hs : G[q]? = some s) : W.cell? ⟨gl, q, none⟩ = some (Gr.val s) := by
  obtain ⟨cs, hB, hc⟩ := h.b
  rw [hB.cell]; exact hc q s hs
theorem TbL.frz (h : TbL W base gl G) (q : Nat) : W.frozen? ⟨gl, q, none⟩ = false := by
  obtain ⟨cs, hB, hc⟩ := h.b
  exact hB.frozen q
theorem TbL.lt (h : TbL W base gl G) : gl < W.heap.size := by
  obtain ⟨cs, hB, hc⟩ := h.b
  exact hB.lt
theorem TbL.seg (h : TbL W base gl G) : GSeg Dt.cells 9 W (some ⟨gl, 0, none⟩) G := by
  refine ⟨⟨by rw [flat_len Gr.cells 1 Gr.len], fun _ => ⟨gl, 0, rfl, h.lt, fun j u hu => ?_⟩⟩, h.r⟩
  have hj := (List.getElem?_eq_some_iff.1 hu).1
  rw [flat_len Gr.cells 1 Gr.len] at hj
  have hj' : j < G.length := by omega
  have h2 := h.cell (List.getElem?_eq_getElem hj')
  have h3 := flat_get Gr.cells 1 Gr.len G j 0 _ (List.getElem?_eq_getElem hj') (by omega)
  rw [show j * 1 + 0 = j by omega, hu] at h3
  rw [Nat.zero_add, h2, h3]
  rfl
/-- a row is replaced by one that was made behind -/
theorem TbL.put {W9 : World} (h : TbL W base gl G) (hb : base ≤ W.heap.size) (hE : Ext W W9) {q : Nat} (hq : q < G.length) {A : Option Addr} {c : Nat} {l : List Dt} (hown : W9.ownsRow W.heap.size 72 9 (.slice A l.length c) l.length (l.flatMap Dt.cells)) :
    TbL (W9.setCell ⟨gl, q, none⟩ (.slice A l.length c)) base gl (G.set q ⟨A, c, l⟩) := by
  obtain ⟨cs, hB, hc⟩ := (h.ext hE).b
  have hlt := h.lt
  obtain ⟨A', c', e, hs9, hl9, hm9⟩ := own_slice hown
  injection e with e1 e2 e3
  subst e1 e3
  have hA : 0 < l.length → ∀ ad, A = some ad → W.heap.size ≤ ad.block := fun hn ad ha => by
    obtain ⟨g, cap, e, h1, h2⟩ := hown.form hn
    injection e with e1
    rw [ha] at e1
    injection e1 with e1
    subst e1
    exact h1
  have hg := grown_set1 W9 gl q (.slice A l.length c)
  have hmem : ∀ s ∈ G.set q ⟨A, c, l⟩, s = ⟨A, c, l⟩ ∨ s ∈ G := fun s hs => (List.mem_or_eq_of_mem_set hs).symm
  refine ⟨⟨_, Blk.set1 hB _, fun p s hs => ?_⟩, fun s hs => ?_, fun s hs hn ad ha => ?_, h.z⟩
  · rw [List.getElem?_set] at hs
    split at hs
    · rename_i e
      subst e
      first | rw [if_pos hq] at hs | skip
      injection hs with hs
      subst hs
      have hc1 := hc q G[q] (List.getElem?_eq_getElem hq)
      have hlt2 := (Array.getElem?_eq_some_iff.1 hc1).1
      rw [Array.getElem?_setIfInBounds, if_pos rfl]
      simp [hlt2]
    · rename_i e
      rw [Array.getElem?_setIfInBounds, if_neg e]
      exact hc p s hs
  · rcases hmem s hs with rfl | hs
    · exact ⟨hs9.grown hg (fun hn ad ha e => by injection e with e; have := hA hn ad ha; omega), hl9, hm9⟩
    · exact ⟨((h.r s hs).1.ext hE).grown hg (fun hn ad ha e => by injection e with e; exact (h.a s hs hn ad ha).2 e), (h.r s hs).2⟩
  · rcases hmem s hs with rfl | hs
    · have := hA hn ad ha
      exact ⟨by omega, by omega⟩
    · exact h.a s hs hn ad ha
end
theorem TbL.start {W : World} {gl n : Nat} (h : Blk W gl 44 ((List.replicate n (⟨none, 0, []⟩ : Gr Dt)).flatMap Gr.cells).toArray) : TbL W gl gl (List.replicate n ⟨none, 0, []⟩) := by
  have hg : ∀ s ∈ (List.replicate n (⟨none, 0, []⟩ : Gr Dt)), s = ⟨none, 0, []⟩ := fun s hs => (List.mem_replicate.1 hs).2
  refine ⟨⟨_, h, fun q s hs => ?_⟩, fun s hs => ?_, fun s hs hn ad ha => ?_, Nat.le_refl _⟩
  · have := flat_get Gr.cells 1 Gr.len _ q 0 _ hs (by omega)
    rw [show q * 1 + 0 = q by omega] at this
    rw [List.getElem?_toArray, this]
    rfl
  · rw [hg s hs]; exact ⟨Seg.nil, Nat.le_refl _, by show (0 : Nat) ≤ maxLen; unfold maxLen; omega⟩
  · rw [hg s hs] at hn; exact absurd hn (Nat.lt_irrefl 0)

def MgPost (l : List Dt) (w : World) (e : Ending) (w' : World) : Prop := ∃ A c, e = .returned (.slice A l.length c) ∧ w'.ownsRow w.heap.size 72 9 (.slice A l.length c) l.length (l.flatMap Dt.cells) ∧ Ext w w'
set_option maxHeartbeats 800000 in
theorem merge_own (A B : Option Addr) (ca cb : Nat) (a b : List Dt) (w : World) (ha : DtSeg w A a) (hb : DtSeg w B b) (hla : a.length ≤ 700) (hlb : b.length ≤ 300) :
    Calls Try.prog 27 #[.slice A a.length ca, .slice B b.length cb] w (MgPost (stockV (a ++ b)) w) := by
  have hS := Blk.new w 44 #[.slice A a.length ca, .slice B b.length cb]
  have ha1 := Seg.alloc ha (.cells #[.slice A a.length ca, .slice B b.length cb] 44)
  have hb1 := Seg.alloc hb (.cells #[.slice A a.length ca, .slice B b.length cb] 44)
  have HC := Lib.hid (concat_two w.heap.size A B ca cb a b (w.alloc (.cells #[.slice A a.length ca, .slice B b.length cb] 44)) hS ha1 hb1 hla hlb)
  have hLl : (a ++ b).length ≤ 1000 := by rw [List.length_append]; omega
  generalize a ++ b = L at HC hLl ⊢
  clear ha1 hb1 hS
  go_enter Try.func27, Try.ntmps27
  go_wp2_with fail
  refine HC.out.mono ?_
  rintro e w1 ⟨v, rfl, hown, hE1⟩
  obtain ⟨A1, c1, rfl, hs1, hc1, hc1m⟩ := own_slice hown
  have hX := Ext.trans ((Ext.refl w).allocs (.cells #[.slice A a.length ca, .slice B b.length cb] 44)) hE1
  clear hown HC hE1
  go_wp2_with fail
  refine (stock_own A1 c1 L w1 hs1 hLl).mono ?_
  rintro e w2 ⟨v2, rfl, hown2, hE2⟩
  obtain ⟨A2, c2, rfl, hs2, hc2, hc2m⟩ := own_slice hown2
  go_wp2_with fail
  go_ret
  exact ⟨A2, c2, rfl, own_base hown2 hX.size, Ext.trans hX hE2⟩

theorem run_cut0 (w : World) (A : Option Addr) (n cap hi : Nat) (hj : Int) (hhj : hj = hi) (hh : hi ≤ cap) : (Instr.slice 55 (.slice A n cap) none (some (.int .i64 hj)) none).run Try.prog w = .ok (.slice (if cap = 0 then A else A.map (·.add (0 * 7))) hi cap) w := by
  subst hhj
  obtain ⟨i0, hi0, hz0, hz1, hz2⟩ := info_parts info_ev
  have h3 : (hi : Int) ≤ (cap : Int) := by omega
  have h4 : (0 : Int) ≤ (hi : Int) := by omega
  by_cases hc : cap = 0
  · subst hc
    obtain rfl : hi = 0 := by omega
    simp [Instr.slice, Instr.sliceBounds, run_underlying Try.underlying55, go_sem, sizeOf, typeInfo, hi0]
  · simp [Instr.slice, Instr.sliceBounds, run_underlying Try.underlying55, go_sem, sizeOf, typeInfo, hi0, h3, h4, hc]
theorem ev_cut0 {w : World} {A : Option Addr} {es : List Ev} (h : EvSeg w A es) (cap hi : Nat) (hh : hi ≤ es.length) (hc : es.length ≤ cap) : EvSeg w (if cap = 0 then A else A.map (·.add (0 * 7))) (es.take hi) := by
  have := ev_cut h cap 0 hi (Nat.zero_le _) hh hc
  simpa using this

def fullL (L : Lin) : List Int := L.map fun es => (es.length : Int)
theorem fullL_len (L : Lin) : (fullL L).length = L.length := by simp [fullL]
theorem fullL_at {L : Lin} {q : Nat} (hq : q < L.length) : elX (fullL L) q = ((rowL L q).length : Int) := by
  unfold elX fullL rowL
  rw [List.getD_eq_getElem?_getD, List.getElem?_map, List.getElem?_eq_getElem hq, List.getD_eq_getElem?_getD, List.getElem?_eq_getElem hq]
  rfl
theorem fullL_take (R : List Rw) (j : Nat) (hj : j < R.length) : fullL (evsL (R.take (j + 1))) = fullL (evsL (R.take j)) ++ [(R[j].es.length : Int)] := by
  unfold fullL evsL
  rw [List.take_add_one, List.getElem?_eq_getElem hj]
  simp only [Option.toList_some, List.map_append, List.map_cons, List.map_nil]
def FuRel (w : World) (R : List Rw) (g : Nat) (v i : Value) (wr : World) : Prop :=
  ∃ j : Nat, j ≤ R.length ∧ i = .int .i64 j ∧ g = R.length - j ∧ Ext w wr ∧ wr.ownsRow w.heap.size 3 1 v (fullL (evsL (R.take j))).length ((fullL (evsL (R.take j))).flatMap Iv)
set_option maxHeartbeats 1600000 in
theorem full_any (A : Option Addr) (c : Nat) (R : List Rw) (w : World) (hs : LinSeg w A R) (hn : R.length ≤ 1000) (h60 : ∀ r ∈ R, r.es.length ≤ 1000) :
    Calls Try.prog 29 #[.slice A R.length c] w (IPost (fullL (evsL R)) w) := by
  go_enter Try.func29, Try.ntmps29
  have HR60 := Lib.hid h60
  clear h60
  go_wp2_with fail
  go_loopg [3, 4] R.length (fun g v i wr => FuRel w R g v i wr)
  case atStart => exact ⟨0, Nat.zero_le _, rfl, rfl, Ext.refl w, own_nil _ _ _ _ _⟩
  case round =>
    obtain ⟨j, hj, rfl, rfl, hE, hown⟩ := hrel
    have hL : (fullL (evsL (R.take j))).length ≤ R.length := by rw [fullL_len, evsL_len, List.length_take]; omega
    by_cases hlt : j < R.length
    · obtain ⟨b, off, rfl, pc⟩ := (hs.ext hE).at_ hlt
      have HT := Lib.hid (fullL_take R j hlt)
      have hel := HR60.out _ (List.getElem_mem hlt)
      obtain ⟨r, hr⟩ : ∃ r, R[j] = r := ⟨_, rfl⟩
      rw [hr] at pc hel HT
      clear hr
      have hz := hE.size
      obtain ⟨L, hLe⟩ : ∃ L, fullL (evsL (R.take j)) = L := ⟨_, rfl⟩
      rw [hLe] at HT hL hown
      clear hLe
      obtain ⟨Av, cv, rfl, _, _, _⟩ := own_slice hown
      have hj0 : (0 : Int) ≤ (j : Int) := by omega
      have hj1 : (j : Int) < (R.length : Int) := by omega
      have HO := Lib.hid hown
      clear hown
      go_wp2_with (at_builtin; go_loud (refine wpList_push_at Iv 1 8 Iv.len Iv.one (by omega) rfl _ _ _ rfl w.heap.size 3 Try.underlying28 (by kernel_rfl) (.slice Av L.length cv) L (r.es.length : Int) wr.heap.size rfl HO.out rfl rfl (by unfold maxLen; omega) (by omega) (by omega) ?_; intro v6 w6 hown6 hg6; have hE6 : Ext w w6 := Ext.own hE HO.out (Nat.le_refl _) hg6; have HO6 := Lib.hid hown6; have HE6 := Lib.hid hE6; clear hown6 hg6 hE6))
      go_roundg (R.length - (j + 1))
      case measure => omega
      case rel => exact ⟨j + 1, by omega, by go_num, rfl, HE6.out, by rw [HT.out]; exact HO6.out⟩
    · obtain rfl : j = R.length := by omega
      rw [List.take_of_length_le (Nat.le_refl _)] at hown
      obtain ⟨Av, cv, rfl, h1, h2, h3⟩ := own_slice hown
      go_wp2_with fail
      go_ret
      exact ⟨Av, cv, rfl, h1, h2, h3, hE⟩
end Go.Proofs.Ytcljdkjlfciacaa
