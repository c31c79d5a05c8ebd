/- commit.Replicated. No statement of the seat is proved here. -/
import Derived.Test.YtcljdkjlfciacaaRepPlain
namespace Go.Proofs.Ytcljdkjlfciacaa
open Go.RowKit Go.Shelf
set_option linter.unusedVariables false

theorem blk9q {W : World} {g : Nat} {q k : Nat} {e : Ev} (h : Blk W g 72 #[.int .i64 q, .int .i64 ((k : Int) + 1), .int .i64 e.kind, .int .i64 e.inc, .int .i64 e.frm, .int .i64 e.sinc, .int .i64 e.sidx, .int .i64 e.ord, .int .i64 e.val]) : W.cell? ⟨g, 0, none⟩ = some (.int .i64 q) ∧ W.cell? ⟨g, 1, none⟩ = some (.int .i64 ((k : Int) + 1)) ∧ W.cell? ⟨g, 2, none⟩ = some (.int .i64 e.kind) ∧ W.cell? ⟨g, 3, none⟩ = some (.int .i64 e.inc) ∧ W.cell? ⟨g, 4, none⟩ = some (.int .i64 e.frm) ∧ W.cell? ⟨g, 5, none⟩ = some (.int .i64 e.sinc) ∧ W.cell? ⟨g, 6, none⟩ = some (.int .i64 e.sidx) ∧ W.cell? ⟨g, 7, none⟩ = some (.int .i64 e.ord) ∧ W.cell? ⟨g, 8, none⟩ = some (.int .i64 e.val) := by
  simp [h.cell]
theorem element_same (A : Option Addr) (c : Nat) (l : List Int) (i : Nat) (w : World) (hs : IntSeg w A l) (hc : l.length ≤ c) (hm : c ≤ maxLen) :
    Calls Try.prog 38 #[.slice A l.length c, .int .i64 i] w (fun e w' => e = .returned (.int .i64 (elX l i)) ∧ w' = w) := by
  unfold maxLen at hm
  by_cases hi : i < l.length
  · obtain ⟨b, off, rfl, p0⟩ := Iv.at_ hs hi
    have HE := Lib.hid (elX_at hi)
    have d : decide ((i : Int) < (l.length : Int)) = true := decide_eq_true (by omega)
    have h0 : (0 : Int) ≤ (i : Int) := by omega
    have h1 : (i : Int) < (l.length : Int) := by omega
    generalize l[i] = x at *
    go_enter Try.func38, Try.ntmps38
    go_wp2_with fail
    go_ret
    exact ⟨by rw [HE.out]; rfl, rfl⟩
  · have HE : Hid (elX l i = 0) := by show _ = _; unfold elX; rw [List.getD_eq_getElem?_getD, List.getElem?_eq_none (by omega)]; rfl
    have d : decide ((i : Int) < (l.length : Int)) = false := decide_eq_false (by omega)
    go_enter Try.func38, Try.ntmps38
    go_wp2_with fail
    go_ret
    exact ⟨by rw [HE.out]; rfl, rfl⟩
set_option maxHeartbeats 1600000 in
theorem limits_meets (gb gl : Nat) (n : Nat) (lim : List Int) (A : Option Addr) (c : Nat) (X : List Int) (w : World) (hb : w.cell? ⟨gb, 0, none⟩ = some (.slice (some ⟨gl, 0, none⟩) n n)) (hB : VecB w gl lim) (hl : Hid (lim.length = n))
    (hX : IntSeg w A X) (hc : X.length ≤ c) (hm : c ≤ maxLen) (hn : X.length ≤ n) (hn2 : n ≤ 1000) :
    Calls Try.prog 43 #[.slice A X.length c, .pointer (some ⟨gb, 0, none⟩)] w (ExtPost w (.bool (mtR lim X))) := by
  obtain ⟨res, hres⟩ : ∃ res, mtR lim X = res := ⟨_, rfl⟩
  rw [hres]
  have HR := Lib.hid hres
  have HI := Lib.hid (mtR_iff lim X)
  clear hres
  go_enter Try.func43, Try.ntmps43
  go_wp2_with fail
  go_loopg [8] X.length (fun g i wr => ∃ q : Nat, q ≤ X.length ∧ i = .int .i64 q ∧ g = X.length - q ∧ Ext w wr ∧ Hid (∀ q', q' < q → elX X q' < elX lim q'))
  case atStart => exact ⟨0, Nat.zero_le _, rfl, rfl, Ext.refl w, fun q' h => absurd h (Nat.not_lt_zero _)⟩
  case round =>
    obtain ⟨q, hq, rfl, rfl, hE, HQ⟩ := hrel
    by_cases hlt : q < X.length
    · obtain ⟨ba, oa, rfl, p0⟩ := Iv.at_ (hX.ext hE) hlt
      have hex := elX_at hlt
      rw [← hex] at p0
      clear hex
      have hq0 : (0 : Int) ≤ (q : Int) := by omega
      have hq1 : (q : Int) < (X.length : Int) := by omega
      have hqn : (q : Int) < (n : Int) := by omega
      have pb : wr.cell? ⟨gb, 0, none⟩ = some (.slice (some ⟨gl, 0, none⟩) n n) := hE.keepCell hb
      have pl := (show VecB wr gl lim from Blk.ext hB hE).at_ (q := q) (by rw [hl.out]; omega)
      by_cases h1 : elX lim q ≤ elX X q
      · have d1 : decide (elX lim q ≤ elX X q) = true := decide_eq_true h1
        have HF : Hid (res = false) := by
          show res = false
          rw [← HR.out]
          rcases e : mtR lim X with _ | _
          · rfl
          · have := HI.out.1 e q hlt
            omega
        go_wp2_with fail
        go_ret
        exact ⟨by rw [HF.out]; rfl, hE⟩
      · have d1 : decide (elX lim q ≤ elX X q) = false := decide_eq_false h1
        have HQ2 : Hid (∀ q', q' < q + 1 → elX X q' < elX lim q') := fun q' h => by
          by_cases e : q' = q
          · subst e; omega
          · exact HQ.out q' (by omega)
        clear HQ
        go_wp2_with fail
        go_roundg (X.length - (q + 1))
        case measure => omega
        case rel => exact ⟨q + 1, by omega, by go_num, rfl, hE, HQ2.out⟩
    · have HF : Hid (res = true) := by
        show res = true
        rw [← HR.out]
        exact HI.out.2 fun q' hq' => HQ.out q' (by omega)
      go_wp2_with fail
      go_ret
      exact ⟨by rw [HF.out]; rfl, hE⟩

/-- the memory of Replicated -/
structure RpMem (w : World) (AG : Option Addr) (G : List (Gr Dt)) (AK : Option Addr) (Kw : List (Gr Kn)) (B : Option Addr) (F : List Int) (AL : Option Addr) (R : List Rw) (b n : Nat) (f : Dt → Bool) (W : World) : Prop where
  ext : Ext w W
  m : DMap W b n f
  g : GSeg Dt.cells 9 W AG G
  k : GSeg Kn.cells 10 W AK Kw
  f : IntSeg W B F
  l : LinSeg W AL R
section
variable {w : World} {AG AK B AL : Option Addr} {G : List (Gr Dt)} {Kw : List (Gr Kn)} {F : List Int} {R : List Rw} {b n : Nat} {f : Dt → Bool} {W W' : World}
theorem RpMem.ext' (h : RpMem w AG G AK Kw B F AL R b n f W) (hE : Ext W W') : RpMem w AG G AK Kw B F AL R b n f W' := ⟨h.ext.trans hE, h.m.ext hE, h.g.ext hE, h.k.ext hE, h.f.ext hE, h.l.ext hE⟩
end
/-- behind the map: with the limits -/
structure RqMem (w : World) (AG : Option Addr) (G : List (Gr Dt)) (AK : Option Addr) (Kw : List (Gr Kn)) (B : Option Addr) (F : List Int) (AL : Option Addr) (R : List Rw) (b n : Nat) (f : Dt → Bool) (w3 : World) (gl g16 : Nat) (Lm : List Int) (W : World) : Prop where
  p : RpMem w AG G AK Kw B F AL R b n f w3
  e : Ext w3 W
  bx : Blk W g16 28 #[.slice (some ⟨gl, 0, none⟩) R.length R.length]
  y : VecB W gl Lm
  h : w3.heap.size ≤ gl ∧ gl ≠ g16
section
variable {w : World} {AG AK B AL : Option Addr} {G : List (Gr Dt)} {Kw : List (Gr Kn)} {F : List Int} {R : List Rw} {b n : Nat} {f : Dt → Bool} {w3 : World} {gl g16 : Nat} {Lm : List Int} {W W' : World}
theorem RqMem.ext (h : RqMem w AG G AK Kw B F AL R b n f w3 gl g16 Lm W) (hE : Ext W W') : RqMem w AG G AK Kw B F AL R b n f w3 gl g16 Lm W' := ⟨h.p, h.e.trans hE, h.bx.ext hE, h.y.ext hE, h.h⟩
theorem RqMem.m (h : RqMem w AG G AK Kw B F AL R b n f w3 gl g16 Lm W) : DMap W b n f := h.p.m.ext h.e
theorem RqMem.k (h : RqMem w AG G AK Kw B F AL R b n f w3 gl g16 Lm W) : GSeg Kn.cells 10 W AK Kw := h.p.k.ext h.e
theorem RqMem.fi (h : RqMem w AG G AK Kw B F AL R b n f w3 gl g16 Lm W) : IntSeg W B F := h.p.f.ext h.e
theorem RqMem.l (h : RqMem w AG G AK Kw B F AL R b n f w3 gl g16 Lm W) : LinSeg W AL R := h.p.l.ext h.e
theorem RqMem.set (h : RqMem w AG G AK Kw B F AL R b n f w3 gl g16 Lm W) {q : Nat} (hq : q < Lm.length) (v : Int) : RqMem w AG G AK Kw B F AL R b n f w3 gl g16 (Lm.set q v) (W.setCell ⟨gl, q, none⟩ (.int .i64 v)) :=
  ⟨h.p, h.e.set h.h.1 _, (Below.heap_setCell W _ _ _ (by show g16 ≠ gl; exact fun e => h.h.2 e.symm)).trans h.bx, h.y.set hq v, h.h⟩
end
def R1 (w : World) (AG : Option Addr) (G : List (Gr Dt)) (AK : Option Addr) (Kw : List (Gr Kn)) (B : Option Addr) (F : List Int) (AL : Option Addr) (R : List Rw) (b : Nat) (g : Nat) (iv : Value) (wr : World) : Prop :=
  ∃ (j n : Nat) (f : Dt → Bool), j ≤ G.length ∧ iv = .int .i64 j ∧ g = G.length - j ∧ n ≤ j * 1000 ∧ RpMem w AG G AK Kw B F AL R b n f wr ∧ Hid (∀ d, f d = (G.take j).any fun r => hasB r.l d)
def R2 (w : World) (AG : Option Addr) (G : List (Gr Dt)) (AK : Option Addr) (Kw : List (Gr Kn)) (B : Option Addr) (F : List Int) (AL : Option Addr) (R : List Rw) (b j : Nat) (ds : List Dt) (g : Nat) (iv : Value) (wr : World) : Prop :=
  ∃ (k n : Nat) (f : Dt → Bool), k ≤ ds.length ∧ iv = .int .i64 k ∧ g = ds.length - k ∧ n ≤ j * 1000 + k ∧ RpMem w AG G AK Kw B F AL R b n f wr ∧ Hid (∀ d, f d = ((G.take j).any (fun r => hasB r.l d) || hasB (ds.take k) d))
def R3 (w : World) (AG : Option Addr) (G : List (Gr Dt)) (AK : Option Addr) (Kw : List (Gr Kn)) (B : Option Addr) (F : List Int) (AL : Option Addr) (R : List Rw) (b n : Nat) (f : Dt → Bool) (w3 : World) (gl g16 : Nat) (V : List Int) (g : Nat) (iv : Value) (wr : World) : Prop :=
  ∃ (q : Nat) (Lm : List Int), q ≤ R.length ∧ iv = .int .i64 q ∧ g = R.length - q ∧ RqMem w AG G AK Kw B F AL R b n f w3 gl g16 Lm wr ∧ Hid (Lm.length = R.length ∧ ∀ r, r < q → elX Lm r = elX V r)
def R4 (w : World) (AG : Option Addr) (G : List (Gr Dt)) (AK : Option Addr) (Kw : List (Gr Kn)) (B : Option Addr) (F : List Int) (AL : Option Addr) (R : List Rw) (b n : Nat) (f : Dt → Bool) (w3 : World) (gl g16 : Nat) (Lm : List Int) (gd : Nat → Bool) (m : Nat) (w7 : World) (g : Nat) (iv : Value) (wr : World) : Prop :=
  ∃ k : Nat, k ≤ m ∧ iv = .int .i64 k ∧ g = m - k ∧ Ext w7 wr ∧ RqMem w AG G AK Kw B F AL R b n f w3 gl g16 Lm wr ∧ Hid (∀ i, i < k → gd i = true)
open Classical in
set_option maxRecDepth 100000 in
set_option maxHeartbeats 3200000 in
theorem replicated_code (A : Option Addr) (cA : Nat) (R : List Rw) (B : Option Addr) (cB : Nat) (F : List Int) (AG : Option Addr) (cG : Nat) (G : List (Gr Dt)) (AK : Option Addr) (cK : Nat) (Kw : List (Gr Kn)) (faults : Int) (w : World) (hs : LinSeg w A R) (hn : R.length ≤ 1000) (hr60 : ∀ r ∈ R, r.es.length ≤ 1000) (hok : ∀ r ∈ R, ∀ e ∈ r.es, e.ok)
    (hB : IntSeg w B F) (hBc : F.length ≤ cB) (hBm : cB ≤ maxLen) (hG : GSeg Dt.cells 9 w AG G) (hnG : G.length ≤ 1000) (hrG : ∀ r ∈ G, r.l.length ≤ 1000) (hokG : ∀ r ∈ G, ∀ d ∈ r.l, d.ok) (hK : GSeg Kn.cells 10 w AK Kw) (hnK : Kw.length ≤ 1000) :
    Calls Try.prog 22 #[.slice A R.length cA, .slice B F.length cB, .slice AG G.length cG, .slice AK Kw.length cK, .int .i64 faults] w (IPost (searchL (evsL R) (mtR (limL (evsL R) F G Kw faults))) w) := by
  have hmm := @run_makeMap Try.prog
  have HR60 := Lib.hid hr60
  have HOK := Lib.hid hok
  have HRG := Lib.hid hrG
  have HOG := Lib.hid hokG
  have hM0 : RpMem w AG G AK Kw B F A R w.heap.size 0 (fun _ => false) (w.alloc (.map #[] 0)) := ⟨(Ext.refl w).allocs _, DMap.made w, hG.ext ((Ext.refl w).allocs _), hK.ext ((Ext.refl w).allocs _), hB.ext ((Ext.refl w).allocs _), hs.ext ((Ext.refl w).allocs _)⟩
  have HM0 := Lib.hid hM0
  have HM0G := Lib.hid hG
  have HM0K := Lib.hid hK
  have HM0F := Lib.hid hB
  have HM0L := Lib.hid hs
  obtain ⟨gb, hgb⟩ : ∃ gb, w.heap.size = gb := ⟨_, rfl⟩
  have HGB : Hid (w.heap.size ≤ gb ∧ gb < w.heap.size + 1) := ⟨by omega, by omega⟩
  rw [hgb] at HM0
  clear hr60 hok hrG hokG hM0 hs hB hG hK
  go_enter Try.func22, Try.ntmps22
  go_upto_region 3 with fail
  try rw [hgb]
  clear hgb hmm
  go_loopg [24] G.length (fun g iv wr => R1 w AG G AK Kw B F A R gb g iv wr)
  case atStart => exact ⟨0, 0, _, Nat.zero_le _, rfl, rfl, Nat.zero_le _, HM0.out, fun d => rfl⟩
  case round =>
    clear HM0
    obtain ⟨j, n, f, hj, rfl, rfl, hnj, hM, HF⟩ := hrel
    by_cases hlt : j < G.length
    · have HT := Lib.hid (fun d => any_take (fun r => hasB r.l d) G j hlt)
      have HIN := Lib.hid (List.getElem_mem hlt)
      obtain ⟨b, o, rfl, p0⟩ := hM.g.at_ hlt
      have hrl := HRG.out _ HIN.out
      have HOR := Lib.hid (HOG.out _ HIN.out)
      have hj0 : (0 : Int) ≤ (j : Int) := by omega
      have hj1 : (j : Int) < (G.length : Int) := by omega
      have HSEG : Hid (∀ W, Ext w W → DtSeg W G[j].A G[j].l) := fun W hE => ((HM0G.out.ext hE).row hlt).1
      generalize G[j] = r at *
      have HM := Lib.hid hM
      clear hM HIN
      go_upto_region 6 with fail
      clear p0
      go_loopg [30] r.l.length (fun g iv wr => R2 w (some ⟨b, o, none⟩) G AK Kw B F A R gb j r.l g iv wr)
      case atStart => exact ⟨0, n, f, Nat.zero_le _, rfl, rfl, hnj, HM.out, fun d => by rw [HF.out d]; simp [hasB]⟩
      case round =>
        clear HM HF hnj
        rename World => w2
        obtain ⟨k, n, f, hk, rfl, rfl, hnk, hM, HF⟩ := hrel
        by_cases hkl : k < r.l.length
        · obtain ⟨b3, o3, hA3, q0, q1, q2, q3, q4, q5, q6, q7, q8⟩ := Dt.at_ (HSEG.out _ hM.ext) hkl
          have hokd := HOR.out _ (List.getElem_mem hkl)
          have HT2 := Lib.hid (fun d => hasB_take r.l d k hkl)
          have hMx := hM.ext' ((Ext.refl w2).allocs (.cells r.l[k].cells.toArray 72))
          obtain ⟨w4, hput, hM4, hg4⟩ := hMx.m.put hokd true (by unfold maxLen; omega)
          have hE4 := hMx.ext
          have hgbz : w.heap.size ≤ gb := HGB.out.1
          have hM5 : RpMem w (some ⟨b, o, none⟩) G AK Kw B F A R gb (n + 1) _ w4 := ⟨Below.grown hE4 hg4 hE4.size (by intro q hq; injection hq; omega), hM4, HM0G.out.ext (Below.grown hE4 hg4 hE4.size (by intro q hq; injection hq; omega)), HM0K.out.ext (Below.grown hE4 hg4 hE4.size (by intro q hq; injection hq; omega)), HM0F.out.ext (Below.grown hE4 hg4 hE4.size (by intro q hq; injection hq; omega)), HM0L.out.ext (Below.grown hE4 hg4 hE4.size (by intro q hq; injection hq; omega))⟩
          unfold Dt.val Dt.cells at hput
          generalize r.l[k] = x at *
          have HM5 := Lib.hid hM5
          have HF2 : Hid (∀ d, (if d = x then true else f d) = ((G.take j).any (fun r => hasB r.l d) || hasB (r.l.take (k + 1)) d)) := fun d => by
            rw [HT2.out d, HF.out d]
            by_cases h : d = x
            · subst h; rw [if_pos rfl, Dt.same_self]; simp
            · rw [if_neg h, Dt.same_ne (fun e => h e.symm), Bool.or_false]
          clear hM hMx hM4 hM5 hg4 hokd
          go_wp2_with fail
          go_roundg (r.l.length - (k + 1))
          case measure => omega
          case rel => exact ⟨k + 1, n + 1, _, by omega, by go_num, rfl, by omega, HM5.out, HF2.out⟩
        · obtain rfl : k = r.l.length := by omega
          have HF2 : Hid (∀ d, f d = (G.take (j + 1)).any fun r => hasB r.l d) := fun d => by
            rw [HT.out d, HF.out d, List.take_of_length_le (Nat.le_refl _)]
          have HM := Lib.hid hM
          clear hM
          go_wp2_with fail
          go_roundg (G.length - (j + 1))
          case measure => omega
          case rel => exact ⟨j + 1, n, f, by omega, by go_num, rfl, by omega, HM.out, HF2.out⟩
    · obtain rfl : j = G.length := by omega
      have HF2 : Hid (∀ d, f d = inG G d) := fun d => by rw [HF.out d, List.take_of_length_le (Nat.le_refl _)]; rfl
      have HM3 := Lib.hid hM
      rename World => w3
      clear hM HF
      have hmk := mk_ints R.length hn w3
      obtain ⟨gl, hgl⟩ : ∃ gl, w3.heap.size = gl := ⟨_, rfl⟩
      rw [hgl] at hmk
      have hq0 : RqMem w AG G AK Kw B F A R gb n f w3 gl (gl + 1) (List.replicate R.length 0) ((w3.alloc (.cells ((List.replicate R.length (0 : Int)).flatMap Iv).toArray 3)).alloc (.cells #[.slice (some ⟨gl, 0, none⟩) R.length R.length] 28)) := by
        have x1 := (Ext.refl w3).allocs (.cells ((List.replicate R.length (0 : Int)).flatMap Iv).toArray 3)
        have b1 := Blk.new w3 3 ((List.replicate R.length (0 : Int)).flatMap Iv).toArray
        have hz1 : (w3.alloc (.cells ((List.replicate R.length (0 : Int)).flatMap Iv).toArray 3)).heap.size = gl + 1 := by rw [← hgl]; simp
        obtain ⟨w4, hw4⟩ : ∃ w4, w3.alloc (.cells ((List.replicate R.length (0 : Int)).flatMap Iv).toArray 3) = w4 := ⟨_, rfl⟩
        rw [hw4] at x1 b1 hz1 ⊢
        rw [hgl] at b1
        have x2 := (Ext.refl w4).allocs (.cells #[.slice (some ⟨gl, 0, none⟩) R.length R.length] 28)
        have b2 := Blk.new w4 28 #[.slice (some ⟨gl, 0, none⟩) R.length R.length]
        rw [hz1] at b2
        exact ⟨HM3.out, x1.trans x2, b2, Blk.ext b1 x2, by omega, by omega⟩
      have HQ0 := Lib.hid hq0
      have HGL : Hid (w3.heap.size = gl) := hgl
      clear hq0
      go_upto_region 13 with fail
      try rw [hgl]
      clear hmk hgl
      obtain ⟨V, hV⟩ : ∃ V, limL (evsL R) F G Kw faults = V := ⟨_, rfl⟩
      have HVl : Hid (V.length = R.length) := by show _ = _; rw [← hV, limL_len, evsL_len]
      have HVa : Hid (∀ q (h : q < R.length), elX V q = (firstN (gdB (evsL R) F G Kw faults q) R[q].es.length : Int) + 1) := fun q h => by
        rw [← hV, limL_at (by rw [evsL_len]; exact h)]
        unfold limV
        rw [evsL_row h]
      go_loopg [43] R.length (fun g iv wr => R3 w AG G AK Kw B F A R gb n f w3 gl (gl + 1) V g iv wr)
      case atStart => exact ⟨0, _, Nat.zero_le _, rfl, rfl, HQ0.out, (⟨List.length_replicate, fun r hr => absurd hr (Nat.not_lt_zero _)⟩ : _ ∧ _)⟩
      case round =>
        clear HQ0
        rename World => w5
        obtain ⟨q, Lm, hq, rfl, rfl, hM, HL⟩ := hrel
        by_cases hlt : q < R.length
        · obtain ⟨b, o, hA, p0⟩ := hM.l.at_ hlt
          obtain ⟨hr, hrc, hrm⟩ := hM.l.row hlt
          have h60 := HR60.out _ (List.getElem_mem hlt)
          have HOE := Lib.hid (HOK.out _ (List.getElem_mem hlt))
          have HVq := Lib.hid (HVa.out q hlt)
          have HROW : Hid (rowL (evsL R) q = R[q].es) := evsL_row hlt
          have hqL : q < Lm.length := by rw [HL.out.1]; exact hlt
          have px : w5.cell? ⟨gl + 1, 0, none⟩ = some (.slice (some ⟨gl, 0, none⟩) R.length R.length) := by rw [hM.bx.cell]; rfl
          have py := hM.y.at_ hqL
          have pf := hM.y.frz q
          have hq0 : (0 : Int) ≤ (q : Int) := by omega
          have hq1 : (q : Int) < (R.length : Int) := by omega
          have HM6' := hM.set hqL ((R[q].es.length : Int) + 1)
          have HRS6 := Lib.hid (HM6'.l.row hlt).1
          clear HM6'
          generalize R[q] = r at *
          have HM6 := Lib.hid (hM.set hqL ((r.es.length : Int) + 1))
          have HLI6 : Hid (∀ _ : Unit, Calls Try.prog 28 #[.int .i64 q, .slice r.A r.es.length r.c] (w5.setCell ⟨gl, q, none⟩ (.int .i64 ((r.es.length : Int) + 1))) (RowPost (w5.setCell ⟨gl, q, none⟩ (.int .i64 ((r.es.length : Int) + 1))) 72 9 (linV (q : Int) r.es).length ((linV (q : Int) r.es).flatMap Dt.cells))) := fun _ => lineage_sl r.A r.c (q : Int) r.es _ (HRS6.out) h60
          have hw1 : IntKind.i64.wrap ((r.es.length : Int) + 1) = (r.es.length : Int) + 1 := IntWalk.i64_in _ (by omega)
          subst hA
          clear hr hrm hrc hM
          go_wp2_with fail
          refine (HLI6.out ()).mono ?_
          rintro e' w7 ⟨v7, rfl, hown7, hE7⟩
          obtain ⟨A7, c7, rfl, hs7, _, _⟩ := own_slice hown7
          have HM7 := Lib.hid (HM6.out.ext hE7)
          have HS7 := Lib.hid hs7
          have HLN : Hid ((linV (q : Int) r.es).length = r.es.length) := lin_len _ _ 0
          have HLG : Hid (∀ k (hk : k < r.es.length), (linV (q : Int) r.es)[k]? = some ⟨(q : Int), (k : Int) + 1, r.es[k]⟩) := fun k hk => by
            have := linV_get (q : Int) r.es 0 k hk
            rw [show ((0 + k : Nat) : Int) = (k : Int) by omega] at this
            exact this
          have hml : (linV (q : Int) r.es).length ≤ 1000 := by rw [HLN.out]; exact h60
          have HGD : Hid (∀ k (hk : k < r.es.length), gdB (evsL R) F G Kw faults q k = (decide ((k : Int) + 1 ≤ elX F q) || safeB G Kw faults ⟨(q : Int), (k : Int) + 1, r.es[k]⟩)) := fun k hk => by
            unfold gdB
            rw [HROW.out, List.getD_eq_getElem?_getD, List.getElem?_eq_getElem hk]; rfl
          obtain ⟨gd, hgd⟩ : ∃ gd, gdB (evsL R) F G Kw faults q = gd := ⟨_, rfl⟩
          rw [hgd] at HGD HVq
          obtain ⟨D, hD⟩ : ∃ D, linV (q : Int) r.es = D := ⟨_, rfl⟩
          rw [hD] at HS7 HLN HLG hml ⊢
          try rw [hD]
          obtain ⟨m, hm⟩ : ∃ m, r.es.length = m := ⟨_, rfl⟩
          have HLm : Hid ((Lm.set q ((m : Int) + 1)).length = R.length ∧ (∀ r, r < q → elX (Lm.set q ((m : Int) + 1)) r = elX V r) ∧ elX (Lm.set q ((m : Int) + 1)) q = (m : Int) + 1) := ⟨by rw [List.length_set]; exact HL.out.1, fun r' hr' => by rw [elX_set _ _ _ _ hqL, if_neg (by omega)]; exact HL.out.2 r' hr', by rw [elX_set _ _ _ _ hqL, if_pos rfl]⟩
          have HMEQ := Lib.hid hm
          rw [hm] at HM7 HVq
          have HLN2 : Hid (D.length = m) := by show _ = _; rw [HLN.out]; exact hm
          obtain ⟨Lq, hLq⟩ : ∃ Lq, Lm.set q ((m : Int) + 1) = Lq := ⟨_, rfl⟩
          rw [hLq] at HM7 HLm
          clear hown7 hs7 hE7 hD hgd hm hLq HLI6 HM6 px py pf p0 HL
          go_upto_region 17 with fail
          rw [HLN2.out]
          go_loopg [58] m (fun g iv wr => R4 w AG G AK Kw B F (some ⟨b, o, none⟩) R gb n f w3 gl (gl + 1) Lq gd m w7 g iv wr)
          case atStart => exact ⟨0, Nat.zero_le _, rfl, rfl, Ext.refl w7, HM7.out, fun i h => absurd h (Nat.not_lt_zero _)⟩
          case round =>
            clear HM7
            rename World => wr8
            obtain ⟨k, hk, rfl, rfl, hE8, hM, HG1⟩ := hrel
            by_cases hkl : k < m
            · have hkD : k < D.length := by rw [HLN2.out]; exact hkl
              have hkE : k < r.es.length := by rw [HMEQ.out]; exact hkl
              obtain ⟨b3, o3, hA3, q0, q1, q2, q3, q4, q5, q6, q7, q8⟩ := Dt.at_ (show DtSeg wr8 A7 D from HS7.out.ext hE8) hkD
              have hDK : D[k] = ⟨(q : Int), (k : Int) + 1, r.es[k]⟩ := by have := HLG.out k hkE; rw [List.getElem?_eq_getElem hkD] at this; injection this
              rw [hDK] at q0 q1 q2 q3 q4 q5 q6 q7 q8
              dsimp only at q0 q1 q2 q3 q4 q5 q6 q7 q8
              have hoke := HOE.out _ (List.getElem_mem hkE)
              have HGK := Lib.hid (HGD.out k hkE)
              clear hDK
              generalize r.es[k] = e at *
              have HOKD : Hid ((⟨(q : Int), (k : Int) + 1, e⟩ : Dt).ok) := ⟨⟨by show (-9223372036854775808 : Int) ≤ (q : Int); omega, by show (q : Int) ≤ 9223372036854775807; omega⟩, ⟨by show (-9223372036854775808 : Int) ≤ (k : Int) + 1; omega, by show (k : Int) + 1 ≤ 9223372036854775807; omega⟩, hoke⟩
              subst hA3
              have hX9 := (Ext.refl wr8).allocs (.cells #[.int .i64 q, .int .i64 ((k : Int) + 1), .int .i64 e.kind, .int .i64 e.inc, .int .i64 e.frm, .int .i64 e.sinc, .int .i64 e.sidx, .int .i64 e.ord, .int .i64 e.val] 72)
              have hB20 := Blk.new wr8 72 #[.int .i64 q, .int .i64 ((k : Int) + 1), .int .i64 e.kind, .int .i64 e.inc, .int .i64 e.frm, .int .i64 e.sinc, .int .i64 e.sidx, .int .i64 e.ord, .int .i64 e.val]
              obtain ⟨w8, hw8⟩ : ∃ w8, wr8.alloc (.cells #[.int .i64 q, .int .i64 ((k : Int) + 1), .int .i64 e.kind, .int .i64 e.inc, .int .i64 e.frm, .int .i64 e.sinc, .int .i64 e.sidx, .int .i64 e.ord, .int .i64 e.val] 72) = w8 := ⟨_, rfl⟩
              obtain ⟨g20, hg20⟩ : ∃ g20, wr8.heap.size = g20 := ⟨_, rfl⟩
              rw [hw8] at hX9 hB20
              rw [hg20] at hB20
              have HM8 := Lib.hid (hM.ext hX9)
              have HB20 := Lib.hid hB20
              have HE9 := Lib.hid (hE8.trans hX9)
              have hk0 : (0 : Int) ≤ (k : Int) := by omega
              have hk1 : (k : Int) < (m : Int) := by omega
              have hk2 : (k : Int) < (D.length : Int) := by omega
              clear hM hX9 hB20 hE8 hoke
              by_cases hA : elX F q < (k : Int) + 1
              · have dk : decide (elX F q < (k : Int) + 1) = true := decide_eq_true hA
                have hg1 : gd k = safeB G Kw faults (⟨(q : Int), (k : Int) + 1, e⟩ : Dt) := by rw [HGK.out, decide_eq_false (show ¬ (k : Int) + 1 ≤ elX F q by omega)]; rfl
                rcases hfd : f (⟨(q : Int), (k : Int) + 1, e⟩ : Dt) with _ | _
                · have HFD := Lib.hid hfd
                  have hing : inG G (⟨(q : Int), (k : Int) + 1, e⟩ : Dt) = false := by rw [← HF2.out]; exact hfd
                  have hg2 : gd k = decide (faults < (cntK Kw (⟨(q : Int), (k : Int) + 1, e⟩ : Dt) : Int)) := by rw [hg1]; unfold safeB; unfold inG at hing; rw [hing]; rfl
                  obtain ⟨z, hz⟩ : ∃ z, decide (faults < (cntK Kw (⟨(q : Int), (k : Int) + 1, e⟩ : Dt) : Int)) = z := ⟨_, rfl⟩
                  have HSP := Lib.hid hz
                  have HGZ : Hid (gd k = z) := by show _ = _; rw [hg2, hz]
                  clear hfd hing hg1 hg2 hz hA HGK
                  go_upto_region 19 with fail
                  try rw [hw8]
                  try rw [hg20]
                  refine wp_region_sched (by kernel_rfl) 18 [(0, true), (1, true), (2, true), (3, true), (4, false), (5, true), (6, true), (7, true), (8, true), (9, false), (10, true), (11, true), (12, true), (13, true), (14, true), (15, true), (16, false), (17, true), (18, false)] (fun w' => w'.cell? ⟨g20, 0, none⟩ = some (.int .i64 q) ∧ w'.cell? ⟨g20, 1, none⟩ = some (.int .i64 ((k : Int) + 1)) ∧ w'.cell? ⟨g20, 2, none⟩ = some (.int .i64 e.kind) ∧ w'.cell? ⟨g20, 3, none⟩ = some (.int .i64 e.inc) ∧ w'.cell? ⟨g20, 4, none⟩ = some (.int .i64 e.frm) ∧ w'.cell? ⟨g20, 5, none⟩ = some (.int .i64 e.sinc) ∧ w'.cell? ⟨g20, 6, none⟩ = some (.int .i64 e.sidx) ∧ w'.cell? ⟨g20, 7, none⟩ = some (.int .i64 e.ord) ∧ w'.cell? ⟨g20, 8, none⟩ = some (.int .i64 e.val)) (by kernel_rfl) (fun _ _ dd _ _ h => by cases dd <;> exact h) (HB20.out.ext (Below.drew (Ext.refl _)) |> blk9q) (fun hHeld => ?_)
                  have HM9 := Lib.hid (HM8.out.ext (Below.drew (Ext.refl w8)))
                  have HB9 := Lib.hid (HB20.out.ext (Below.drew (Ext.refl w8)))
                  iterate 4 ((refine sched_read (v := ?_) rfl (Or.inl ⟨by rfl, ?_⟩) hHeld ?_; rotate_left 1; · (intro w' hSw; obtain ⟨t0, t1, t2, t3, t4, t5, t6, t7, t8⟩ := hSw; go_simp; (first | done | with_reducible rfl))); (try simp only [Act.put, List.setIfInBounds_toArray, List.set_cons_zero, List.set_cons_succ]))
                  refine sched_eff rfl (fun K hK => ?_)
                  go_simp
                  refine (element_same B cB F q _ (HM9.out.fi) hBc hBm).mono ?_
                  rintro e' w2 ⟨rfl, rfl⟩
                  go_wp2_with fail
                  refine hK.out _ _ (blk9q HB9.out) (fun hHeld => ?_)
                  clear hK K
                  try simp only [Act.put, List.setIfInBounds_toArray, List.set_cons_zero, List.set_cons_succ]
                  iterate 2 ((refine sched_read (v := ?_) rfl (Or.inl ⟨by rfl, ?_⟩) hHeld ?_; rotate_left 1; · (intro w' hSw; obtain ⟨t0, t1, t2, t3, t4, t5, t6, t7, t8⟩ := hSw; go_simp; (first | done | with_reducible rfl))); (try simp only [Act.put, List.setIfInBounds_toArray, List.set_cons_zero, List.set_cons_succ]))
                  iterate 2 ((refine sched_read (v := ?_) rfl (Or.inl ⟨by rfl, ?_⟩) hHeld ?_; rotate_left 1; · (intro w' hSw; obtain ⟨t0, t1, t2, t3, t4, t5, t6, t7, t8⟩ := hSw; go_simp; (first | done | with_reducible rfl))); (try simp only [Act.put, List.setIfInBounds_toArray, List.set_cons_zero, List.set_cons_succ]))
                  refine sched_eff rfl (fun K hK => ?_)
                  have hlk := HM9.out.m.look HOKD.out
                  unfold Dt.val at hlk
                  dsimp only at hlk
                  rw [HFD.out] at hlk
                  go_simp
                  refine hK.out _ _ (blk9q HB9.out) (fun hHeld => ?_)
                  clear hK K
                  try simp only [Act.put, List.setIfInBounds_toArray, List.set_cons_zero, List.set_cons_succ]
                  clear hlk
                  iterate 3 ((refine sched_read (v := ?_) rfl (Or.inl ⟨by rfl, ?_⟩) hHeld ?_; rotate_left 1; · (intro w' hSw; obtain ⟨t0, t1, t2, t3, t4, t5, t6, t7, t8⟩ := hSw; go_simp; (first | done | with_reducible rfl))); (try simp only [Act.put, List.setIfInBounds_toArray, List.set_cons_zero, List.set_cons_succ]))
                  iterate 3 ((refine sched_read (v := ?_) rfl (Or.inl ⟨by rfl, ?_⟩) hHeld ?_; rotate_left 1; · (intro w' hSw; obtain ⟨t0, t1, t2, t3, t4, t5, t6, t7, t8⟩ := hSw; go_simp; (first | done | with_reducible rfl))); (try simp only [Act.put, List.setIfInBounds_toArray, List.set_cons_zero, List.set_cons_succ]))
                  refine sched_eff rfl (fun K hK => ?_)
                  go_simp
                  refine (spread_any AK cK Kw (⟨(q : Int), (k : Int) + 1, e⟩ : Dt) faults _ HM9.out.k hnK).mono ?_
                  rintro e' w2 ⟨rfl, hE2⟩
                  rw [HSP.out]
                  have HM2 := Lib.hid (HM9.out.ext hE2)
                  have HB2 := Lib.hid (HB9.out.ext hE2)
                  go_wp2_with fail
                  refine hK.out _ _ (blk9q HB2.out) (fun hHeld => ?_)
                  clear hK K
                  try simp only [Act.put, List.setIfInBounds_toArray, List.set_cons_zero, List.set_cons_succ]
                  iterate 1 ((refine sched_read (v := ?_) rfl (Or.inl ⟨by rfl, ?_⟩) hHeld ?_; rotate_left 1; · (intro w' hSw; obtain ⟨t0, t1, t2, t3, t4, t5, t6, t7, t8⟩ := hSw; go_simp; (first | done | with_reducible rfl))); (try simp only [Act.put, List.setIfInBounds_toArray, List.set_cons_zero, List.set_cons_succ]))
                  refine sched_tail rfl (by decide) (fun K hK => ?_)
                  go_simp
                  refine hK.out _ _ ?_
                  clear hK K
                  refine sched_done ?_
                  clear HFD HSP HOKD
                  cases z with
                  | true =>
                    have HG2 : Hid (∀ i, i < k + 1 → gd i = true) := fun i hi => by
                      by_cases h : i = k
                      · subst h; exact HGZ.out
                      · exact HG1.out i (by omega)
                    have HEX := Lib.hid (HE9.out.trans ((Below.drew (Ext.refl w8) : Ext w8 w8.drew).trans hE2))
                    have HMX := HM2
                    clear hE2
                    go_wp2_with fail
                    go_roundg (m - (k + 1))
                    case measure => omega
                    case rel => exact ⟨k + 1, by omega, by go_num, rfl, HEX.out, HMX.out, HG2⟩
                  | false =>
                    have HVK : Hid (elX V q = (k : Int) + 1) := by show _ = _; rw [HVq.out, firstN_eq (m := k) (by omega) HG1.out (fun _ => HGZ.out)]
                    have hqL2 : q < Lq.length := by rw [HLm.out.1]; exact hlt
                    have px : w2.cell? ⟨gl + 1, 0, none⟩ = some (.slice (some ⟨gl, 0, none⟩) R.length R.length) := by rw [HM2.out.bx.cell]; rfl
                    have py := HM2.out.y.at_ hqL2
                    have pf := HM2.out.y.frz q
                    obtain ⟨e0, e1, e2, e3, e4, e5, e6, e7, e8⟩ := blk9q HB2.out
                    have HMX := Lib.hid (HM2.out.set hqL2 ((k : Int) + 1))
                    clear hE2
                    go_wp2_with fail
                    go_roundg (R.length - (q + 1))
                    case measure => omega
                    case rel => exact ⟨q + 1, _, by omega, by go_num, rfl, HMX.out, (⟨by rw [List.length_set]; exact HLm.out.1, fun r' hr' => by
                      rw [elX_set _ _ _ _ hqL2]
                      by_cases h : r' = q
                      · subst h; rw [if_pos rfl, HVK.out]
                      · rw [if_neg h]; exact HLm.out.2.1 r' (by omega)⟩ : _ ∧ _)⟩
                · have HFD := Lib.hid hfd
                  have hing : inG G (⟨(q : Int), (k : Int) + 1, e⟩ : Dt) = true := by rw [← HF2.out]; exact hfd
                  have hg2 : gd k = true := by rw [hg1]; unfold safeB; unfold inG at hing; rw [hing]; rfl
                  have HG2 : Hid (∀ i, i < k + 1 → gd i = true) := fun i hi => by
                    by_cases h : i = k
                    · subst h; exact hg2
                    · exact HG1.out i (by omega)
                  clear hfd hing hg1 hg2 hA HGK
                  go_upto_region 19 with fail
                  try rw [hw8]
                  try rw [hg20]
                  refine wp_region_sched (by kernel_rfl) 18 [(0, true), (1, true), (2, true), (3, true), (4, false), (5, true), (6, true), (7, true), (8, true), (9, false), (10, true), (11, true), (12, true), (13, true), (14, true), (15, true), (16, false), (17, true), (18, false)] (fun w' => w'.cell? ⟨g20, 0, none⟩ = some (.int .i64 q) ∧ w'.cell? ⟨g20, 1, none⟩ = some (.int .i64 ((k : Int) + 1)) ∧ w'.cell? ⟨g20, 2, none⟩ = some (.int .i64 e.kind) ∧ w'.cell? ⟨g20, 3, none⟩ = some (.int .i64 e.inc) ∧ w'.cell? ⟨g20, 4, none⟩ = some (.int .i64 e.frm) ∧ w'.cell? ⟨g20, 5, none⟩ = some (.int .i64 e.sinc) ∧ w'.cell? ⟨g20, 6, none⟩ = some (.int .i64 e.sidx) ∧ w'.cell? ⟨g20, 7, none⟩ = some (.int .i64 e.ord) ∧ w'.cell? ⟨g20, 8, none⟩ = some (.int .i64 e.val)) (by kernel_rfl) (fun _ _ dd _ _ h => by cases dd <;> exact h) (HB20.out.ext (Below.drew (Ext.refl _)) |> blk9q) (fun hHeld => ?_)
                  have HM9 := Lib.hid (HM8.out.ext (Below.drew (Ext.refl w8)))
                  have HB9 := Lib.hid (HB20.out.ext (Below.drew (Ext.refl w8)))
                  iterate 4 ((refine sched_read (v := ?_) rfl (Or.inl ⟨by rfl, ?_⟩) hHeld ?_; rotate_left 1; · (intro w' hSw; obtain ⟨t0, t1, t2, t3, t4, t5, t6, t7, t8⟩ := hSw; go_simp; (first | done | with_reducible rfl))); (try simp only [Act.put, List.setIfInBounds_toArray, List.set_cons_zero, List.set_cons_succ]))
                  refine sched_eff rfl (fun K hK => ?_)
                  go_simp
                  refine (element_same B cB F q _ (HM9.out.fi) hBc hBm).mono ?_
                  rintro e' w2 ⟨rfl, rfl⟩
                  go_wp2_with fail
                  refine hK.out _ _ (blk9q HB9.out) (fun hHeld => ?_)
                  clear hK K
                  try simp only [Act.put, List.setIfInBounds_toArray, List.set_cons_zero, List.set_cons_succ]
                  iterate 2 ((refine sched_read (v := ?_) rfl (Or.inl ⟨by rfl, ?_⟩) hHeld ?_; rotate_left 1; · (intro w' hSw; obtain ⟨t0, t1, t2, t3, t4, t5, t6, t7, t8⟩ := hSw; go_simp; (first | done | with_reducible rfl))); (try simp only [Act.put, List.setIfInBounds_toArray, List.set_cons_zero, List.set_cons_succ]))
                  iterate 2 ((refine sched_read (v := ?_) rfl (Or.inl ⟨by rfl, ?_⟩) hHeld ?_; rotate_left 1; · (intro w' hSw; obtain ⟨t0, t1, t2, t3, t4, t5, t6, t7, t8⟩ := hSw; go_simp; (first | done | with_reducible rfl))); (try simp only [Act.put, List.setIfInBounds_toArray, List.set_cons_zero, List.set_cons_succ]))
                  refine sched_eff rfl (fun K hK => ?_)
                  have hlk := HM9.out.m.look HOKD.out
                  unfold Dt.val at hlk
                  dsimp only at hlk
                  rw [HFD.out] at hlk
                  go_simp
                  refine hK.out _ _ (blk9q HB9.out) (fun hHeld => ?_)
                  clear hK K
                  try simp only [Act.put, List.setIfInBounds_toArray, List.set_cons_zero, List.set_cons_succ]
                  clear hlk
                  iterate 3 ((refine sched_read (v := ?_) rfl (Or.inl ⟨by rfl, ?_⟩) hHeld ?_; rotate_left 1; · (intro w' hSw; obtain ⟨t0, t1, t2, t3, t4, t5, t6, t7, t8⟩ := hSw; go_simp; (first | done | with_reducible rfl))); (try simp only [Act.put, List.setIfInBounds_toArray, List.set_cons_zero, List.set_cons_succ]))
                  iterate 3 ((refine sched_read (v := undef) rfl (Or.inr ⟨by rfl, rfl⟩) hHeld ?_); (try simp only [Act.put, List.setIfInBounds_toArray, List.set_cons_zero, List.set_cons_succ]))
                  refine sched_eff rfl (fun K hK => ?_)
                  go_simp
                  refine hK.out _ _ (blk9q HB9.out) (fun hHeld => ?_)
                  clear hK K
                  try simp only [Act.put, List.setIfInBounds_toArray, List.set_cons_zero, List.set_cons_succ]
                  iterate 1 ((refine sched_read (v := undef) rfl (Or.inr ⟨by rfl, rfl⟩) hHeld ?_); (try simp only [Act.put, List.setIfInBounds_toArray, List.set_cons_zero, List.set_cons_succ]))
                  refine sched_tail rfl (by decide) (fun K hK => ?_)
                  go_simp
                  refine hK.out _ _ ?_
                  clear hK K
                  refine sched_done ?_
                  clear HFD HOKD
                  have HEX := Lib.hid (HE9.out.trans (Below.drew (Ext.refl w8) : Ext w8 w8.drew))
                  have HMX := HM9
                  go_wp2_with fail
                  go_roundg (m - (k + 1))
                  case measure => omega
                  case rel => exact ⟨k + 1, by omega, by go_num, rfl, HEX.out, HMX.out, HG2⟩
              · have dk : decide (elX F q < (k : Int) + 1) = false := decide_eq_false hA
                have hg2 : gd k = true := by rw [HGK.out, decide_eq_true (show (k : Int) + 1 ≤ elX F q by omega)]; rfl
                have HG2 : Hid (∀ i, i < k + 1 → gd i = true) := fun i hi => by
                  by_cases h : i = k
                  · subst h; exact hg2
                  · exact HG1.out i (by omega)
                clear hg2 hA HGK HOKD
                go_upto_region 19 with fail
                try rw [hw8]
                try rw [hg20]
                refine wp_region_sched (by kernel_rfl) 18 [(0, true), (1, true), (2, true), (3, true), (4, false), (5, true), (6, true), (7, true), (8, true), (9, false), (10, true), (11, true), (12, true), (13, true), (14, true), (15, true), (16, false), (17, true), (18, false)] (fun w' => w'.cell? ⟨g20, 0, none⟩ = some (.int .i64 q) ∧ w'.cell? ⟨g20, 1, none⟩ = some (.int .i64 ((k : Int) + 1)) ∧ w'.cell? ⟨g20, 2, none⟩ = some (.int .i64 e.kind) ∧ w'.cell? ⟨g20, 3, none⟩ = some (.int .i64 e.inc) ∧ w'.cell? ⟨g20, 4, none⟩ = some (.int .i64 e.frm) ∧ w'.cell? ⟨g20, 5, none⟩ = some (.int .i64 e.sinc) ∧ w'.cell? ⟨g20, 6, none⟩ = some (.int .i64 e.sidx) ∧ w'.cell? ⟨g20, 7, none⟩ = some (.int .i64 e.ord) ∧ w'.cell? ⟨g20, 8, none⟩ = some (.int .i64 e.val)) (by kernel_rfl) (fun _ _ dd _ _ h => by cases dd <;> exact h) (HB20.out.ext (Below.drew (Ext.refl _)) |> blk9q) (fun hHeld => ?_)
                have HM9 := Lib.hid (HM8.out.ext (Below.drew (Ext.refl w8)))
                have HB9 := Lib.hid (HB20.out.ext (Below.drew (Ext.refl w8)))
                iterate 4 ((refine sched_read (v := ?_) rfl (Or.inl ⟨by rfl, ?_⟩) hHeld ?_; rotate_left 1; · (intro w' hSw; obtain ⟨t0, t1, t2, t3, t4, t5, t6, t7, t8⟩ := hSw; go_simp; (first | done | with_reducible rfl))); (try simp only [Act.put, List.setIfInBounds_toArray, List.set_cons_zero, List.set_cons_succ]))
                refine sched_eff rfl (fun K hK => ?_)
                go_simp
                refine (element_same B cB F q _ (HM9.out.fi) hBc hBm).mono ?_
                rintro e' w2 ⟨rfl, rfl⟩
                go_wp2_with fail
                refine hK.out _ _ (blk9q HB9.out) (fun hHeld => ?_)
                clear hK K
                try simp only [Act.put, List.setIfInBounds_toArray, List.set_cons_zero, List.set_cons_succ]
                iterate 2 ((refine sched_read (v := ?_) rfl (Or.inl ⟨by rfl, ?_⟩) hHeld ?_; rotate_left 1; · (intro w' hSw; obtain ⟨t0, t1, t2, t3, t4, t5, t6, t7, t8⟩ := hSw; go_simp; (first | done | with_reducible rfl))); (try simp only [Act.put, List.setIfInBounds_toArray, List.set_cons_zero, List.set_cons_succ]))
                iterate 2 ((refine sched_read (v := undef) rfl (Or.inr ⟨by rfl, rfl⟩) hHeld ?_); (try simp only [Act.put, List.setIfInBounds_toArray, List.set_cons_zero, List.set_cons_succ]))
                refine sched_eff rfl (fun K hK => ?_)
                go_simp
                refine hK.out _ _ (blk9q HB9.out) (fun hHeld => ?_)
                clear hK K
                try simp only [Act.put, List.setIfInBounds_toArray, List.set_cons_zero, List.set_cons_succ]
                iterate 1 ((refine sched_read (v := undef) rfl (Or.inr ⟨by rfl, rfl⟩) hHeld ?_); (try simp only [Act.put, List.setIfInBounds_toArray, List.set_cons_zero, List.set_cons_succ]))
                iterate 2 ((refine sched_read (v := ?_) rfl (Or.inl ⟨by rfl, ?_⟩) hHeld ?_; rotate_left 1; · (intro w' hSw; obtain ⟨t0, t1, t2, t3, t4, t5, t6, t7, t8⟩ := hSw; go_simp; (first | done | with_reducible rfl))); (try simp only [Act.put, List.setIfInBounds_toArray, List.set_cons_zero, List.set_cons_succ]))
                iterate 3 ((refine sched_read (v := undef) rfl (Or.inr ⟨by rfl, rfl⟩) hHeld ?_); (try simp only [Act.put, List.setIfInBounds_toArray, List.set_cons_zero, List.set_cons_succ]))
                refine sched_eff rfl (fun K hK => ?_)
                go_simp
                refine hK.out _ _ (blk9q HB9.out) (fun hHeld => ?_)
                clear hK K
                try simp only [Act.put, List.setIfInBounds_toArray, List.set_cons_zero, List.set_cons_succ]
                iterate 1 ((refine sched_read (v := undef) rfl (Or.inr ⟨by rfl, rfl⟩) hHeld ?_); (try simp only [Act.put, List.setIfInBounds_toArray, List.set_cons_zero, List.set_cons_succ]))
                refine sched_tail rfl (by decide) (fun K hK => ?_)
                go_simp
                refine hK.out _ _ ?_
                clear hK K
                refine sched_done ?_
                have HEX := Lib.hid (HE9.out.trans (Below.drew (Ext.refl w8) : Ext w8 w8.drew))
                have HMX := HM9
                go_wp2_with fail
                go_roundg (m - (k + 1))
                case measure => omega
                case rel => exact ⟨k + 1, by omega, by go_num, rfl, HEX.out, HMX.out, HG2⟩
            · obtain rfl : k = m := by omega
              have HVK : Hid (elX V q = (k : Int) + 1) := by show _ = _; rw [HVq.out, firstN_eq (m := k) (Nat.le_refl _) HG1.out (fun h => absurd h (Nat.lt_irrefl _))]
              have HM := Lib.hid hM
              clear hM
              go_wp2_with fail
              go_roundg (R.length - (q + 1))
              case measure => omega
              case rel => exact ⟨q + 1, Lq, by omega, by go_num, rfl, HM.out, (⟨HLm.out.1, fun r' hr' => by
                by_cases h : r' = q
                · subst h; rw [HLm.out.2.2, HVK.out]
                · exact HLm.out.2.1 r' (by omega)⟩ : _ ∧ _)⟩
        · obtain rfl : q = R.length := by omega
          have HLV : Hid (Lm = V) := elX_ext (by rw [HL.out.1, HVl.out]) (fun r' hr' => HL.out.2 r' (by have := HL.out.1; omega))
          have hpb : w5.cell? ⟨gl + 1, 0, none⟩ = some (.slice (some ⟨gl, 0, none⟩) R.length R.length) := by rw [hM.bx.cell]; rfl
          have hvy := hM.y
          have eg : ∀ args w, (callFunc 43 args).run Try.prog w = .ok (.enter 43 args) w := enters_of Try.func43 (by kernel_rfl) rfl
          have HSC := Lib.hid (search_code 43 #[.pointer (some ⟨gl + 1, 0, none⟩)] (mtR Lm) A cA R w5 hM.l hn (fun r hr => by have := HR60.out r hr; omega) eg
            (fun W hE A' c X hX' hc hm hl => limits_meets (gl + 1) gl R.length Lm A' c X W (hE.keepCell hpb) (Blk.ext hvy hE) HL.out.1 hX' hc hm hl hn) (mtR_mono (evsL R) Lm))
          rw [HLV.out] at HSC
          have HE5 := Lib.hid (hM.p.ext.trans hM.e)
          clear hM hpb hvy eg
          go_wp2_with fail
          refine HSC.out.mono ?_
          rintro e w9 ⟨A9, c9, rfl, hI9, hl9, hm9, hE9⟩
          go_wp2_with fail
          go_ret
          exact ⟨A9, c9, by rw [hV]; rfl, by rw [hV]; exact hI9, by rw [hV]; exact hl9, hm9, HE5.out.trans hE9⟩
end Go.Proofs.Ytcljdkjlfciacaa
