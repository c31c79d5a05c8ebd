/- orphan.Lower. No statement of the seat is proved here. -/
import Derived.Test.YtcljdkjlfciacaaCons
import Derived.Test.YtcljdkjlfciacaaSearch2
import Derived.Test.YtcljdkjlfciacaaSched
import Derived.WalkMore
namespace Go.Proofs.Ytcljdkjlfciacaa
open Go.RowKit Go.Shelf
set_option linter.unusedVariables false

/-- the first event that meets a condition -/
def FirstAt (p : Ev → Bool) (es : List Ev) (i : Int) : Prop := (i = -1 ∧ ∀ e ∈ es, p e = false) ∨ ∃ j : Nat, i = (j : Int) ∧ j < es.length ∧ (∀ e, es[j]? = some e → p e = true) ∧ ∀ k e, k < j → es[k]? = some e → p e = false
def IdxPost (p : Ev → Bool) (es : List Ev) (w : World) (e : Ending) (w' : World) : Prop := ∃ i : Int, e = .returned (.int .i64 i) ∧ FirstAt p es i ∧ Ext w w'
set_option maxHeartbeats 1600000 in
theorem index_event (g : Nat) (cb : Array Value) (p : Ev → Bool) (A : Option Addr) (c : Nat) (es : List Ev) (w : World) (hs : EvSeg w A es) (hl : (es.length : Int) ≤ 9223372036854775807) (eg : ∀ args w, (callFunc g args).run Try.prog w = .ok (.enter g args) w)
    (hf : ∀ (W : World), Ext w W → ∀ e ∈ es, Calls Try.prog g (#[.agg #[.int .i64 e.kind, .int .i64 e.inc, .int .i64 e.frm, .int .i64 e.sinc, .int .i64 e.sidx, .int .i64 e.ord, .int .i64 e.val]] ++ cb) W (ExtPost W (.bool (p e)))) :
    Calls Try.prog 48 #[.slice A es.length c, .func (.func g) #[] cb] w (IdxPost p es w) := by
  have HF := Lib.hid hf
  have HS := Lib.hid hs
  clear hf hs
  go_enter Try.func48, Try.ntmps48
  go_wp2_with fail
  go_loopg [8] es.length (fun gg iv wr => ∃ k : Nat, k ≤ es.length ∧ iv = .int .i64 k ∧ gg = es.length - k ∧ Ext w wr ∧ Hid (∀ j e, j < k → es[j]? = some e → p e = false))
  case atStart => exact ⟨0, Nat.zero_le _, rfl, rfl, Ext.refl w, fun j e h => absurd h (Nat.not_lt_zero _)⟩
  case round =>
    obtain ⟨k, hk, rfl, rfl, hE, HI⟩ := hrel
    by_cases hlt : k < es.length
    · obtain ⟨b, o, rfl, p0, p1, p2, p3, p4, p5, p6⟩ := Ev.at_ (HS.out.ext hE) hlt
      have hmem := List.getElem_mem hlt
      have HEK : Hid (es[k]? = some es[k]) := List.getElem?_eq_getElem hlt
      have hc := HF.out wr hE _ hmem
      generalize es[k] = e at *
      have hk0 : (0 : Int) ≤ (k : Int) := by omega
      have hk1 : (k : Int) < (es.length : Int) := by omega
      cases hp : p e <;> rw [hp] at hc
      · have HN : Hid (∀ j e, j < k + 1 → es[j]? = some e → p e = false) := fun j e' hj he => by
          by_cases h : j = k
          · subst h
            rw [HEK.out] at he
            injection he with he
            rw [← he]; exact hp
          · exact HI.out j e' (by omega) he
        clear hp HI
        go_wp2_with (go_at_fn g; refine hc.mono ?_; rintro e w' ⟨rfl, hE'⟩)
        go_roundg (es.length - (k + 1))
        case measure => omega
        case rel => exact ⟨k + 1, by omega, by go_num, rfl, hE.trans hE', HN⟩
      · have HP : Hid (FirstAt p es (k : Int)) := .inr ⟨k, rfl, hlt, fun e' he => by rw [HEK.out] at he; injection he with he; rw [← he]; exact hp, fun j e' hj he => HI.out j e' hj he⟩
        clear hp
        go_wp2_with (go_at_fn g; refine hc.mono ?_; rintro e w' ⟨rfl, hE'⟩)
        go_ret
        exact ⟨_, rfl, HP.out, hE.trans hE'⟩
    · go_wp2_with fail
      go_ret
      exact ⟨-1, rfl, .inl ⟨rfl, fun e he => by
        obtain ⟨j, hj⟩ := List.mem_iff_getElem?.1 he
        exact HI.out j e (by have := (List.getElem?_eq_some_iff.1 hj).1; omega) hj⟩, hE⟩

set_option maxHeartbeats 1600000 in
theorem lower_closure (A : Option Addr) (cA : Nat) (R : List Rw) (B : Option Addr) (cB : Nat) (Y : List Int) (q : Int) (b2 b5 b7 : Nat) (e : Ev) (w : World) (hs : LinSeg w A R) (hn : R.length ≤ 1000) (hX : IntSeg w B Y) (hXl : Hid (Y.length = R.length))
    (h2 : w.cell? ⟨b2, 0, none⟩ = some (.slice A R.length cA)) (h5 : w.cell? ⟨b5, 0, none⟩ = some (.slice B R.length cB)) (h7 : w.cell? ⟨b7, 0, none⟩ = some (.int .i64 q)) :
    Calls Try.prog 49 #[.agg #[.int .i64 e.kind, .int .i64 e.inc, .int .i64 e.frm, .int .i64 e.sinc, .int .i64 e.sidx, .int .i64 e.ord, .int .i64 e.val], .pointer (some ⟨b2, 0, none⟩), .pointer (some ⟨b5, 0, none⟩), .pointer (some ⟨b7, 0, none⟩)] w (ExtPost w (.bool (!fitsB (evsL R) Y q e))) := by
  have hX5 := (Ext.refl w).allocs (.cells #[.int .i64 e.kind, .int .i64 e.inc, .int .i64 e.frm, .int .i64 e.sinc, .int .i64 e.sidx, .int .i64 e.ord, .int .i64 e.val] 61)
  have hB5 : Blk (w.alloc (.cells #[.int .i64 e.kind, .int .i64 e.inc, .int .i64 e.frm, .int .i64 e.sinc, .int .i64 e.sidx, .int .i64 e.ord, .int .i64 e.val] 61)) w.heap.size 61 e.cells.toArray := Blk.new w _ _
  have HFA := Lib.hid (fits_any A cA R B cB Y q e _ (hs.ext hX5) hn (hX.ext hX5) hXl)
  have h2' := hX5.keepCell h2
  have h5' := hX5.keepCell h5
  have h7' := hX5.keepCell h7
  obtain ⟨c0, c1, c2, c3, c4, c5, c6⟩ := ev7 hB5
  clear h2 h5 h7 hs hX hB5
  obtain ⟨b, hb⟩ : ∃ b, fitsB (evsL R) Y q e = b := ⟨_, rfl⟩
  rw [hb] at HFA ⊢
  clear hb
  go_enter Try.func49, Try.ntmps49
  go_wp2_with fail
  refine HFA.out.mono ?_
  rintro e' w6 ⟨rfl, hE6⟩
  go_wp2_with fail
  go_ret
  exact ⟨rfl, hX5.trans hE6⟩

/-- where Lower begins -/
def clampY (L : Lin) (X : List Int) (q : Nat) : Int := if q < X.length then min (max (elX X q) 0) ((rowL L q).length : Int) else 0
structure YInv (L : Lin) (X Y : List Int) : Prop where
  len : Y.length = L.length
  lo : ∀ q, q < L.length → 0 ≤ elX Y q
  hi : ∀ q, q < L.length → elX Y q ≤ clampY L X q
theorem clampY_hi (L : Lin) (X : List Int) (q : Nat) : clampY L X q ≤ ((rowL L q).length : Int) := by unfold clampY; split <;> omega
theorem clampY_lo (L : Lin) (X : List Int) (q : Nat) : 0 ≤ clampY L X q := by unfold clampY; split <;> omega
def totY (Y : List Int) : Nat := (Y.map Int.toNat).sum
theorem totY_set : ∀ (Y : List Int) (q : Nat) (v : Int), q < Y.length → 0 ≤ v → v < elX Y q → totY (Y.set q v) < totY Y
  | [], q, v, h, _, _ => by simp at h
  | y :: Y, 0, v, _, h0, h1 => by
    unfold elX at h1
    simp only [List.getD_eq_getElem?_getD, List.getElem?_cons_zero, Option.getD_some] at h1
    simp only [totY, List.set_cons_zero, List.map_cons, List.sum_cons]
    omega
  | y :: Y, q + 1, v, h, h0, h1 => by
    have := totY_set Y q v (by simpa using h) h0 (by simpa [elX] using h1)
    simp only [totY, List.set_cons_succ, List.map_cons, List.sum_cons] at this ⊢
    omega
theorem YInv.down {L : Lin} {X Y : List Int} (h : YInv L X Y) {q : Nat} {v : Int} (hq : q < L.length) (h0 : 0 ≤ v) (h1 : v < elX Y q) : YInv L X (Y.set q v) := by
  have hs : ∀ r, elX (Y.set q v) r = if r = q then v else elX Y r := fun r => elX_set _ _ _ _ (by rw [h.len]; exact hq)
  refine ⟨by simp [h.len], fun r hr => ?_, fun r hr => ?_⟩
  · rw [hs]; have := h.lo r hr; split <;> omega
  · rw [hs]
    have := h.hi r hr
    split
    · rename_i e; subst e; omega
    · exact this
/-- the memory of Lower -/
structure LwMem (w : World) (A : Option Addr) (cA n : Nat) (Y : List Int) (W : World) : Prop where
  ext : Ext w W
  b2 : Blk W w.heap.size 22 #[.slice A n cA]
  b5 : Blk W (w.heap.size + 1 + 1) 28 #[.slice (some ⟨w.heap.size + 1, 0, none⟩) n n]
  y : VecB W (w.heap.size + 1) Y
section
variable {w W W' : World} {A : Option Addr} {cA n : Nat} {Y : List Int}
theorem LwMem.post (h : LwMem w A cA n Y W) (hE : Ext W W') : LwMem w A cA n Y W' := ⟨h.ext.trans hE, h.b2.ext hE, h.b5.ext hE, h.y.ext hE⟩
theorem LwMem.set (h : LwMem w A cA n Y W) {q : Nat} (hq : q < Y.length) (v : Int) : LwMem w A cA n (Y.set q v) (W.setCell ⟨w.heap.size + 1, q, none⟩ (.int .i64 v)) :=
  ⟨h.ext.set (Nat.le_succ _) _, (Below.heap_setCell W _ _ _ (by show w.heap.size ≠ w.heap.size + 1; omega)).trans h.b2, (Below.heap_setCell W _ _ _ (by show w.heap.size + 1 + 1 ≠ w.heap.size + 1; omega)).trans h.b5, h.y.set hq v⟩
end
def LowPost (L : Lin) (X : List Int) (w : World) (e : Ending) (w' : World) : Prop := ∃ A c Z, e = .returned (.slice A Z.length c) ∧ IntSeg w' A Z ∧ Z.length ≤ c ∧ c ≤ maxLen ∧ Ext w w' ∧ YInv L X Z ∧ Cons L Z
def Y1Rel (w : World) (A : Option Addr) (cA : Nat) (L : Lin) (X : List Int) (n m : Nat) (g : Nat) (iv : Value) (wr : World) : Prop :=
  ∃ (q : Nat) (Y : List Int), q ≤ m ∧ iv = .int .i64 q ∧ g = m - q ∧ LwMem w A cA n Y wr ∧ Hid (Y.length = n ∧ ∀ r, r < n → elX Y r = if r < q then clampY L X r else 0)
def Y2Rel (w : World) (A : Option Addr) (cA : Nat) (L : Lin) (X : List Int) (n : Nat) (g : Nat) (wr : World) : Prop := ∃ Y, g = totY Y ∧ LwMem w A cA n Y wr ∧ Hid (YInv L X Y)
def Y3Rel (w : World) (A : Option Addr) (cA : Nat) (L : Lin) (Y : List Int) (n : Nat) (g : Nat) (iv : Value) (wr : World) : Prop :=
  ∃ q : Nat, q ≤ n ∧ iv = .int .i64 q ∧ g = n - q ∧ LwMem w A cA n Y wr ∧ Hid (∀ (r k : Nat) (e : Ev), r < q → (k : Int) < elX Y r → (rowL L r)[k]? = some e → fitsB L Y (r : Int) e = true)
set_option maxRecDepth 100000 in
set_option maxHeartbeats 3200000 in
theorem lower_any (A : Option Addr) (cA : Nat) (R : List Rw) (B : Option Addr) (cB : Nat) (X : List Int) (w : World) (hs : LinSeg w A R) (hn : R.length ≤ 1000) (hX : IntSeg w B X) (hXl : Hid (X.length = R.length)) :
    Calls Try.prog 26 #[.slice A R.length cA, .slice B R.length cB] w (LowPost (evsL R) X w) := by
  have HLL : Hid ((evsL R).length = R.length) := evsL_len R
  have hmk := mk_ints R.length hn (w.alloc (.cells #[.slice A R.length cA] 22))
  have hz1 : (w.alloc (.cells #[.slice A R.length cA] 22)).heap.size = w.heap.size + 1 := by simp
  rw [hz1] at hmk
  have hM0 : LwMem w A cA R.length (List.replicate R.length 0) (((w.alloc (.cells #[.slice A R.length cA] 22)).alloc (.cells ((List.replicate R.length (0 : Int)).flatMap Iv).toArray 3)).alloc (.cells #[.slice (some ⟨w.heap.size + 1, 0, none⟩) R.length R.length] 28)) := by
    have x1 := (Ext.refl w).allocs (.cells #[.slice A R.length cA] 22)
    have b1 := Blk.new w 22 #[.slice A R.length cA]
    obtain ⟨w1, hw1⟩ : ∃ w1, w.alloc (.cells #[.slice A R.length cA] 22) = w1 := ⟨_, rfl⟩
    rw [hw1] at x1 b1 hz1 ⊢
    have x2 := (Ext.refl w1).allocs (.cells ((List.replicate R.length (0 : Int)).flatMap Iv).toArray 3)
    have b2 := Blk.new w1 3 ((List.replicate R.length (0 : Int)).flatMap Iv).toArray
    have hz2 : (w1.alloc (.cells ((List.replicate R.length (0 : Int)).flatMap Iv).toArray 3)).heap.size = w.heap.size + 1 + 1 := by simp [hz1]
    obtain ⟨w2, hw2⟩ : ∃ w2, w1.alloc (.cells ((List.replicate R.length (0 : Int)).flatMap Iv).toArray 3) = w2 := ⟨_, rfl⟩
    rw [hz1] at b2
    rw [hw2] at x2 b2 hz2 ⊢
    have x3 := (Ext.refl w2).allocs (.cells #[.slice (some ⟨w.heap.size + 1, 0, none⟩) R.length R.length] 28)
    have b3 := Blk.new w2 28 #[.slice (some ⟨w.heap.size + 1, 0, none⟩) R.length R.length]
    rw [hz2] at b3
    exact ⟨(x1.trans x2).trans x3, (b1.ext x2).ext x3, b3, Blk.ext b2 x3⟩
  have h2 : (w.alloc (.cells #[.slice A R.length cA] 22)).cell? ⟨w.heap.size, 0, none⟩ = some (.slice A R.length cA) := by rw [(Blk.new w _ _).cell]; rfl
  obtain ⟨w1, hw1⟩ : ∃ w1, w.alloc (.cells #[.slice A R.length cA] 22) = w1 := ⟨_, rfl⟩
  rw [hw1] at hmk hM0 hz1 h2
  have HS := Lib.hid hs
  have HX := Lib.hid hX
  have HM0 := Lib.hid hM0
  clear hs hX hM0
  go_enter Try.func26, Try.ntmps26
  go_wp2_with fail
  go_step3
  go_upto_region 3 with fail
  clear h2 hmk hz1 hw1
  go_loopg [18] R.length (fun g iv wr => Y1Rel w A cA (evsL R) X R.length R.length g iv wr)
  case atStart => exact ⟨0, _, Nat.zero_le _, rfl, rfl, HM0.out, (⟨List.length_replicate, fun r hr => by rw [elX_rep, if_neg (Nat.not_lt_zero _)]⟩ : _ ∧ _)⟩
  case round =>
    clear HM0
    obtain ⟨q, Y, hq, rfl, rfl, hM, HY⟩ := hrel
    by_cases hqR : q < R.length
    · have hqX : q < X.length := by rw [hXl.out]; exact hqR
      obtain ⟨b, off, rfl, pr⟩ := (HS.out.ext hM.ext).at_ hqR
      obtain ⟨bX, oX, rfl, pX⟩ := Iv.at_ (HX.out.ext hM.ext) hqX
      rw [← elX_at hqX] at pX
      have p2 : wr.cell? ⟨w.heap.size, 0, none⟩ = some (.slice (some ⟨b, off, none⟩) R.length cA) := by rw [hM.b2.cell]; rfl
      have p5 : wr.cell? ⟨w.heap.size + 1 + 1, 0, none⟩ = some (.slice (some ⟨w.heap.size + 1, 0, none⟩) R.length R.length) := by rw [hM.b5.cell]; rfl
      have HCL : Hid (clampY (evsL R) X q = min (max (elX X q) 0) (R[q].es.length : Int)) := by show _ = _; unfold clampY; rw [if_pos hqX, evsL_row hqR]
      generalize R[q] = r at *
      have hq0 : (0 : Int) ≤ (q : Int) := by omega
      have hq1 : (q : Int) < (R.length : Int) := by omega
      have hqY : q < Y.length := by rw [HY.out.1]; exact hqR
      have HM := Lib.hid hM
      clear hM
      go_upto_region 5 with fail
      refine wp_region_sched (by kernel_rfl) 14 [(0, true), (1, true), (2, true), (3, true), (4, true), (5, true), (6, true), (7, true), (8, true), (9, true), (10, true), (11, true), (12, true), (13, true), (14, false)] (fun w' => w'.cell? ⟨w.heap.size, 0, none⟩ = some (.slice (some ⟨b, off, none⟩) R.length cA) ∧ w'.cell? ⟨w.heap.size + 1 + 1, 0, none⟩ = some (.slice (some ⟨w.heap.size + 1, 0, none⟩) R.length R.length) ∧ w'.cell? ⟨bX, oX + q, none⟩ = some (.int .i64 (elX X q)) ∧ w'.cell? ⟨b, off + q, none⟩ = some (.slice r.A r.es.length r.c)) (by kernel_rfl) (fun _ _ dd _ _ h => by cases dd <;> exact h) ⟨p2, p5, pX, pr⟩ (fun hHeld => ?_)
      clear p2 p5 pX pr
      iterate 14 ((refine sched_read (v := ?_) rfl (Or.inl ⟨by rfl, ?_⟩) hHeld ?_; rotate_left 1; · (intro w' hSw; obtain ⟨t0, t1, t2, t3⟩ := hSw; go_simp; (first | done | with_reducible rfl))); (try simp only [Act.put, List.setIfInBounds_toArray, List.set_cons_zero, List.set_cons_succ]))
      have HM1 := Lib.hid (HM.out.post (Below.drew (Ext.refl wr)))
      have py := HM1.out.y.at_ hqY
      have pf := HM1.out.y.frz q
      refine sched_tail rfl (by decide) (fun K hK => ?_)
      go_simp
      refine hK.out _ _ ?_
      clear hK K
      refine sched_done ?_
      clear py pf
      have hmx : (if (r.es.length : Int) < (if elX X q < 0 then 0 else elX X q) then (r.es.length : Int) else (if elX X q < 0 then 0 else elX X q)) = clampY (evsL R) X q := by
        rw [HCL.out]
        repeat' split
        all_goals omega
      have HM9 := Lib.hid ((HM.out.set hqY (clampY (evsL R) X q)).post (Below.drew (Ext.refl _)))
      have HY9 : Hid ((Y.set q (clampY (evsL R) X q)).length = R.length ∧ ∀ r, r < R.length → elX (Y.set q (clampY (evsL R) X q)) r = if r < q + 1 then clampY (evsL R) X r else 0) := ⟨by rw [List.length_set]; exact HY.out.1, fun r hr => by
        rw [elX_set _ _ _ _ hqY]
        by_cases h : r = q
        · subst h; rw [if_pos rfl, if_pos (by omega)]
        · rw [if_neg h, HY.out.2 r hr]
          by_cases h2 : r < q
          · rw [if_pos h2, if_pos (by omega)]
          · rw [if_neg h2, if_neg (by omega)]⟩
      rw [hmx]
      clear hmx
      obtain ⟨z27, hz27⟩ : ∃ z, (if elX X q < 0 then (0 : Int) else elX X q) = z := ⟨_, rfl⟩
      try rw [hz27]
      clear HM1 HM hz27
      go_wp2_with fail
      go_roundg (R.length - (q + 1))
      case measure => omega
      case rel => exact ⟨q + 1, _, by omega, by go_num, rfl, HM9.out, HY9.out⟩
    · obtain rfl : q = R.length := by omega
      have HYI : Hid (YInv (evsL R) X Y) := ⟨by rw [HLL.out]; exact HY.out.1, fun r hr => by rw [HY.out.2 r (by rw [← HLL.out]; exact hr), if_pos (by rw [← HLL.out]; exact hr)]; exact clampY_lo _ _ _, fun r hr => by rw [HY.out.2 r (by rw [← HLL.out]; exact hr), if_pos (by rw [← HLL.out]; exact hr)]; exact Int.le_refl _⟩
      have HM := Lib.hid hM
      clear hM HY
      go_wp2_with fail
      go_step3
      go_wp2_with fail
      go_loopg [] (totY Y) (fun g wr => Y2Rel w A cA (evsL R) X R.length g wr)
      case atStart => exact ⟨Y, rfl, HM.out, HYI.out⟩
      case round =>
        clear HM HYI
        rename World => w2
        obtain ⟨Y, rfl, hM, HYI⟩ := hrel
        have hYl : Hid (Y.length = R.length) := by show _ = _; rw [HYI.out.len, HLL.out]
        have p2 : w2.cell? ⟨w.heap.size, 0, none⟩ = some (.slice A R.length cA) := by rw [hM.b2.cell]; rfl
        have HM := Lib.hid hM
        clear hM
        go_upto_region 8 with fail
        clear p2
        go_loopg [38] R.length (fun g iv wr => Y3Rel w A cA (evsL R) Y R.length g iv wr)
        case atStart => exact ⟨0, Nat.zero_le _, rfl, rfl, HM.out, fun r k e h => absurd h (Nat.not_lt_zero _)⟩
        case round =>
          clear HM
          rename World => w3
          obtain ⟨q, hq, rfl, rfl, hM, HF⟩ := hrel
          by_cases hqR : q < R.length
          · obtain ⟨b, off, hA, pr⟩ := (HS.out.ext hM.ext).at_ hqR
            have p2 : w3.cell? ⟨w.heap.size, 0, none⟩ = some (.slice A R.length cA) := by rw [hM.b2.cell]; rfl
            have p5 : w3.cell? ⟨w.heap.size + 1 + 1, 0, none⟩ = some (.slice (some ⟨w.heap.size + 1, 0, none⟩) R.length R.length) := by rw [hM.b5.cell]; rfl
            have hqY : q < Y.length := by rw [hYl.out]; exact hqR
            have py := hM.y.at_ hqY
            have h0 := HYI.out.lo q (by rw [HLL.out]; exact hqR)
            have h1 := Int.le_trans (HYI.out.hi q (by rw [HLL.out]; exact hqR)) (clampY_hi _ _ _)
            have HROW : Hid (rowL (evsL R) q = R[q].es) := evsL_row hqR
            rw [HROW.out] at h1
            obtain ⟨hr, hrc, hrm⟩ := HS.out.row hqR
            unfold maxLen at hrm
            have hq0 : (0 : Int) ≤ (q : Int) := by omega
            have hq1 : (q : Int) < (R.length : Int) := by omega
            subst hA
            generalize R[q] = r at *
            obtain ⟨k, hk⟩ : ∃ k : Nat, elX Y q = k := ⟨(elX Y q).toNat, by omega⟩
            have HKY := Lib.hid hk
            rw [hk] at py h1
            clear hk h0
            have hkl : k ≤ r.es.length := by omega
            have hcut := fun w => run_upto w r.A r.es.length r.c k (k : Int) rfl (by omega)
            have HSEG := Lib.hid (ev_upto hr r.c k hkl)
            have HTK : Hid (∀ j : Nat, j < k → (r.es.take k)[j]? = r.es[j]?) := fun j hj => by rw [List.getElem?_take_of_lt hj]
            have htl : (r.es.take k).length = k := by rw [List.length_take]; omega
            generalize (if r.c = 0 then r.A else r.A.map (·.add (0 * 7))) = A3 at *
            generalize r.es.take k = es3 at *
            have HTL := Lib.hid htl
            rw [← htl] at hcut
            have hX4 := (Ext.refl w3).allocs (.cells #[.int .i64 q] 3)
            have hB4 := Blk.new w3 3 #[.int .i64 q]
            have hM4 := hM.post hX4
            obtain ⟨w4, hw4⟩ : ∃ w4, w3.alloc (.cells #[.int .i64 q] 3) = w4 := ⟨_, rfl⟩
            obtain ⟨g7, hg7⟩ : ∃ g7, w3.heap.size = g7 := ⟨_, rfl⟩
            rw [hw4] at hX4 hB4 hM4
            rw [hg7] at hB4
            have p7 : w4.cell? ⟨g7, 0, none⟩ = some (.int .i64 q) := by rw [hB4.cell]; rfl
            have eg : ∀ args w, (callFunc 49 args).run Try.prog w = .ok (.enter 49 args) w := enters_of Try.func49 (by kernel_rfl) rfl
            have p25 := hX4.keepCell p2
            have p55 := hX4.keepCell p5
            have HIDX := Lib.hid (index_event 49 #[.pointer (some ⟨w.heap.size, 0, none⟩), .pointer (some ⟨w.heap.size + 1 + 1, 0, none⟩), .pointer (some ⟨g7, 0, none⟩)] (fun e => !fitsB (evsL R) Y (q : Int) e) A3 r.c es3 w4 (HSEG.out.ext (hM4.ext)) (by rw [HTL.out]; omega) eg
              (fun W hE e _ => lower_closure _ cA R _ R.length Y (q : Int) w.heap.size (w.heap.size + 1 + 1) g7 e W (HS.out.ext (hM4.ext.trans hE)) hn (show VecB W (w.heap.size + 1) Y from Blk.ext hM4.y hE).seg hYl (hE.keepCell p25) (hE.keepCell p55) (hE.keepCell p7)))
            have HM4 := Lib.hid hM4
            have HX4 := Lib.hid hX4
            have hpy4 := hM4.y.at_ hqY
            rw [HKY.out] at hpy4
            clear hM hM4 hB4 eg hX4 py
            rw [← HTL.out] at hpy4
            go_upto_region 10 with fail
            try rw [hw4]
            try rw [hg7]
            clear hw4 hg7 p2 p5 pr htl
            go_wp2_with fail
            refine HIDX.out.mono ?_
            rintro e w5 ⟨i, rfl, hFi, hE5⟩
            have hM5 := HM4.out.post hE5
            have p7' := hE5.keepCell p7
            clear HIDX p25 p55 p7 hpy4
            rcases hFi with ⟨rfl, hall⟩ | ⟨j, rfl, hjl, _, _⟩
            · have HF2 : Hid (∀ (r' j : Nat) (e : Ev), r' < q + 1 → (j : Int) < elX Y r' → (rowL (evsL R) r')[j]? = some e → fitsB (evsL R) Y (r' : Int) e = true) := fun r' j e hr' hj he => by
                by_cases h : r' = q
                · subst h
                  rw [HROW.out] at he
                  rw [HKY.out] at hj
                  have hj' : j < k := by omega
                  have h1 := hall e (List.mem_of_getElem? (by rw [HTK.out j hj']; exact he))
                  simpa using h1
                · exact HF.out r' j e (by omega) hj he
              have HM5 := Lib.hid hM5
              clear hM5 hall
              go_wp2_with fail
              go_roundg (R.length - (q + 1))
              case measure => omega
              case rel => exact ⟨q + 1, by omega, by go_num, rfl, HM5.out, HF2⟩
            · have dj : decide ((0 : Int) ≤ (j : Int)) = true := decide_eq_true (by omega)
              have hjk : (j : Int) < elX Y q := by rw [HKY.out]; have := HTL.out; omega
              have HYN := Lib.hid (HYI.out.down (q := q) (v := (j : Int)) (by rw [HLL.out]; exact hqR) (by omega) hjk)
              have HMS := Lib.hid (totY_set Y q (j : Int) hqY (by omega) hjk)
              have py := hM5.y.at_ hqY
              have pf := hM5.y.frz q
              have p5 : w5.cell? ⟨w.heap.size + 1 + 1, 0, none⟩ = some (.slice (some ⟨w.heap.size + 1, 0, none⟩) R.length R.length) := by rw [hM5.b5.cell]; rfl
              have HMN := Lib.hid (hM5.set hqY (j : Int))
              clear hM5 hjk
              go_wp2_with fail
              go_roundg (totY (Y.set q (j : Int)))
              case measure => exact HMS.out
              case rel => exact ⟨_, rfl, HMN.out, HYN.out⟩
          · obtain rfl : q = R.length := by omega
            have p5 : w3.cell? ⟨w.heap.size + 1 + 1, 0, none⟩ = some (.slice (some ⟨w.heap.size + 1, 0, none⟩) R.length R.length) := by rw [hM.b5.cell]; rfl
            have HM := Lib.hid hM
            have HCO : Hid (Cons (evsL R) Y) := ⟨HYI.out.len, HYI.out.lo, fun q hq => Int.le_trans (HYI.out.hi q hq) (clampY_hi _ _ _), fun q k e hq hk he => HF.out q k e (by rw [← HLL.out]; exact hq) hk he⟩
            clear hM
            go_wp2_with fail
            try rw [Exit.noGoto_ret]
            go_ret
            exact ⟨some ⟨w.heap.size + 1, 0, none⟩, R.length, Y, by rw [hYl.out]; rfl, HM.out.y.seg, by rw [hYl.out]; exact Nat.le_refl _, by unfold maxLen; omega, HM.out.ext, HYI.out, HCO.out⟩
end Go.Proofs.Ytcljdkjlfciacaa
