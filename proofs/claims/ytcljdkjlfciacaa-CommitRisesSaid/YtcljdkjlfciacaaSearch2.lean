/- search and Stable of package commit. No statement of the seat is proved here. -/
import Derived.Test.YtcljdkjlfciacaaSearch
import Derived.Test.YtcljdkjlfciacaaSearchPlain
namespace Go.Proofs.Ytcljdkjlfciacaa
open Go.RowKit Go.Shelf
set_option linter.unusedVariables false

set_option maxHeartbeats 1600000 in
theorem stable_meets (gb : Nat) (B : Option Addr) (cB : Nat) (St : List Int) (A : Option Addr) (c : Nat) (X : List Int) (w : World) (hb : w.cell? ⟨gb, 0, none⟩ = some (.slice B St.length cB)) (hB : IntSeg w B St) (hBc : St.length ≤ cB) (hBm : cB ≤ maxLen)
    (hX : IntSeg w A X) (hc : X.length ≤ c) (hm : c ≤ maxLen) (hn : X.length ≤ 1000) :
    Calls Try.prog 37 #[.slice A X.length c, .pointer (some ⟨gb, 0, none⟩)] w (ExtPost w (.bool (mtS St X))) := by
  have hn' : (X.length : Int) ≤ 1000 := by omega
  obtain ⟨res, hres⟩ : ∃ res, mtS St X = res := ⟨_, rfl⟩
  rw [hres]
  have HR := Lib.hid hres
  have HI := Lib.hid (mtS_iff St X)
  clear hres
  go_enter Try.func37, Try.ntmps37
  go_wp2_with fail
  go_loopg [8] X.length (fun g i wr => ∃ q : Nat, q ≤ X.length ∧ i = .int .i64 q ∧ g = X.length - q ∧ Ext w wr ∧ Hid (∀ q', q' < q → ¬ (0 < elX X q' ∧ elX St q' < elX X q')))
  case atStart => exact ⟨0, Nat.zero_le _, rfl, rfl, Ext.refl w, fun q' h => absurd h (Nat.not_lt_zero _)⟩
  case round =>
    obtain ⟨q, hq, rfl, rfl, hE, HQ⟩ := hrel
    by_cases hlt : q < X.length
    · obtain ⟨ba, oa, rfl, p0⟩ := Iv.at_ (hX.ext hE) hlt
      have hex := elX_at hlt
      rw [← hex] at p0
      clear hex
      have hq0 : (0 : Int) ≤ (q : Int) := by omega
      have hq1 : (q : Int) < (X.length : Int) := by omega
      have pb : wr.cell? ⟨gb, 0, none⟩ = some (.slice B St.length cB) := by rw [hE.cell (World.block_lt_of_cell? _ _ hb)]; exact hb
      by_cases h0 : 0 < elX X q
      · have d0 : decide (0 < elX X q) = true := decide_eq_true h0
        by_cases h1 : elX St q < elX X q
        · have d1 : decide (elX St q < elX X q) = true := decide_eq_true h1
          have HF : Hid (res = false) := by
            show res = false
            rw [← HR.out]
            rcases e : mtS St X with _ | _
            · rfl
            · exact absurd ⟨h0, h1⟩ (HI.out.1 e q hlt)
          go_wp2_with fail
          refine (element_any B cB St q wr (hB.ext hE) hBc hBm).mono ?_
          rintro e w1 ⟨rfl, hE1⟩
          go_wp2_with fail
          go_ret
          exact ⟨by rw [HF.out]; rfl, Ext.trans hE hE1⟩
        · have d1 : decide (elX St q < elX X q) = false := decide_eq_false h1
          have HQ2 : Hid (∀ q', q' < q + 1 → ¬ (0 < elX X q' ∧ elX St q' < elX X q')) := fun q' h => by
            by_cases e : q' = q
            · subst e; exact fun h => h1 h.2
            · exact HQ.out q' (by omega)
          clear HQ
          go_wp2_with fail
          refine (element_any B cB St q wr (hB.ext hE) hBc hBm).mono ?_
          rintro e w1 ⟨rfl, hE1⟩
          go_wp2_with fail
          go_roundg (X.length - (q + 1))
          case measure => omega
          case rel => exact ⟨q + 1, by omega, by go_num, rfl, Ext.trans hE hE1, HQ2.out⟩
      · have d0 : decide (0 < elX X q) = false := decide_eq_false h0
        have HQ2 : Hid (∀ q', q' < q + 1 → ¬ (0 < elX X q' ∧ elX St q' < elX X q')) := fun q' h => by
          by_cases e : q' = q
          · subst e; exact fun h => h0 h.1
          · exact HQ.out q' (by omega)
        clear HQ
        go_wp2_with fail
        go_roundg (X.length - (q + 1))
        case measure => omega
        case rel => exact ⟨q + 1, by omega, by go_num, rfl, hE, HQ2.out⟩
    · have HF : Hid (res = true) := by
        show res = true
        rw [← HR.out]
        exact HI.out.2 fun q' hq' => HQ.out q' (by omega)
      go_wp2_with fail
      go_ret
      exact ⟨by rw [HF.out]; rfl, hE⟩

/-- a closure that tells whether a list meets a condition -/
def Meets (g : Nat) (cb : Array Value) (mt : List Int → Bool) (n : Nat) (w : World) : Prop :=
  ∀ W, Ext w W → ∀ A c X, IntSeg W A X → X.length ≤ c → c ≤ maxLen → X.length ≤ n → Calls Try.prog g (#[.slice A X.length c] ++ cb) W (ExtPost W (.bool (mt X)))
set_option maxHeartbeats 1600000 in
theorem search_closure (g : Nat) (cb : Array Value) (mt : List Int → Bool) (A : Option Addr) (cA : Nat) (R : List Rw) (b2 b6 b3 : Nat) (q i : Nat) (w0 w : World) (hE0 : Ext w0 w) (hs : LinSeg w A R) (hn : R.length ≤ 1000)
    (eg : ∀ args w, (callFunc g args).run Try.prog w = .ok (.enter g args) w) (hmt : Meets g cb mt R.length w0)
    (h2 : w.cell? ⟨b2, 0, none⟩ = some (.slice A R.length cA)) (h6 : w.cell? ⟨b6, 0, none⟩ = some (.int .i64 q)) (h3 : w.cell? ⟨b3, 0, none⟩ = some (.func (.func g) #[] cb)) (hi : i < 9223372036854775807) :
    Calls Try.prog 55 #[.int .i64 i, .pointer (some ⟨b2, 0, none⟩), .pointer (some ⟨b6, 0, none⟩), .pointer (some ⟨b3, 0, none⟩)] w (ExtPost w (.bool (!goodB (evsL R) mt q (i + 1)))) := by
  have HG : Hid (goodB (evsL R) mt q (i + 1) = (decide (0 < (pastL (evsL R) (q : Int) ((i : Int) + 1)).length) && mt (pastL (evsL R) (q : Int) ((i : Int) + 1)))) := rfl
  have HP := Lib.hid (past_code A cA R (q : Int) ((i : Int) + 1) w hs hn)
  have hpl := pastL_len (evsL R) (q : Int) ((i : Int) + 1)
  rw [evsL_len] at hpl
  generalize goodB (evsL R) mt q (i + 1) = gd at *
  generalize pastL (evsL R) (q : Int) ((i : Int) + 1) = P at *
  go_enter Try.func55, Try.ntmps55
  go_wp2_with fail
  refine HP.out.mono ?_
  rintro e w1 ⟨A1, c1, rfl, hs1, hc1, hm1, hE1⟩
  have h3' : w1.cell? ⟨b3, 0, none⟩ = some (.func (.func g) #[] cb) := by rw [hE1.cell (World.block_lt_of_cell? _ _ h3)]; exact h3
  have HM := Lib.hid (hmt w1 (hE0.trans hE1) A1 c1 P hs1 hc1 hm1 (by omega))
  clear hmt
  by_cases h0 : P.length = 0
  · have d0 : ((P.length : Int) == 0) = true := by simp [h0]
    have HF : Hid (gd = false) := by show gd = false; rw [HG.out, h0]; rfl
    clear h0
    go_wp2_with fail
    go_ret
    exact ⟨by rw [HF.out]; rfl, hE1⟩
  · have d0 : ((P.length : Int) == 0) = false := by simp [h0]
    have HF : Hid (gd = mt P) := by show gd = mt P; rw [HG.out, decide_eq_true (by omega)]; rfl
    clear h0
    generalize mt P = mp at *
    go_wp2_with (go_at_fn g; refine HM.out.mono ?_; rintro e w' ⟨rfl, hE'⟩)
    go_ret
    exact ⟨by rw [HF.out]; rfl, Ext.trans hE1 hE'⟩

theorem Ext.keepCell {W W' : World} {a : Addr} {v : Value} (h : Ext W W') (hc : W.cell? a = some v) : W'.cell? a = some v := by rw [h.cell (World.block_lt_of_cell? _ _ hc)]; exact hc
theorem cell_far {W : World} {b i g o : Nat} {v : Value} (h : W.cell? ⟨b, i, none⟩ = some v) (hne : b ≠ g) (u : Value) : (W.setCell ⟨g, o, none⟩ u).cell? ⟨b, i, none⟩ = some v :=
  (World.cell?_of_block (w := W) (a := ⟨b, i, none⟩) (Below.heap_setCell W ⟨g, o, none⟩ u b hne)).trans h
def SeRel (n : Nat) (V : List Int) (w2 : World) (go : Nat) (g : Nat) (iv : Value) (wr : World) : Prop :=
  ∃ (q : Nat) (O : List Int), q ≤ n ∧ iv = .int .i64 q ∧ g = n - q ∧ Ext w2 wr ∧ VecB wr go O ∧ Hid (O.length = n ∧ ∀ q', q' < q → elX O q' = elX V q')
set_option maxRecDepth 100000 in
set_option maxHeartbeats 3200000 in
theorem search_code (g : Nat) (cb : Array Value) (mt : List Int → Bool) (A : Option Addr) (cA : Nat) (R : List Rw) (w : World) (hs : LinSeg w A R) (hn : R.length ≤ 1000) (hsz : ∀ r ∈ R, r.es.length < 4611686018427387904)
    (eg : ∀ args w, (callFunc g args).run Try.prog w = .ok (.enter g args) w) (hmt : Meets g cb mt R.length w) (hmono : Mono (evsL R) mt) :
    Calls Try.prog 36 #[.slice A R.length cA, .func (.func g) #[] cb] w (IPost (searchL (evsL R) mt) w) := by
  have hB2 := Blk.new w 22 #[.slice A R.length cA]
  have hX1 := (Ext.refl w).allocs (.cells #[.slice A R.length cA] 22)
  obtain ⟨w1, hw1⟩ : ∃ w1, w.alloc (.cells #[.slice A R.length cA] 22) = w1 := ⟨_, rfl⟩
  have hz1 : w1.heap.size = w.heap.size + 1 := by rw [← hw1]; simp
  rw [hw1] at hB2 hX1
  have HW1 := Lib.hid hw1
  clear hw1
  have hB3 := Blk.new w1 70 #[.func (.func g) #[] cb]
  have hX2 := (Ext.refl w1).allocs (.cells #[.func (.func g) #[] cb] 70)
  obtain ⟨w2, hw2⟩ : ∃ w2, w1.alloc (.cells #[.func (.func g) #[] cb] 70) = w2 := ⟨_, rfl⟩
  have hz2 : w2.heap.size = w.heap.size + 2 := by rw [← hw2]; simp [hz1]
  rw [hw2, hz1] at hB3
  rw [hw2] at hX2
  have HW2 := Lib.hid hw2
  clear hw2 hz1
  have h2 : w2.cell? ⟨w.heap.size, 0, none⟩ = some (.slice A R.length cA) := hX2.keepCell (by rw [hB2.cell]; rfl)
  have h3 : w2.cell? ⟨w.heap.size + 1, 0, none⟩ = some (.func (.func g) #[] cb) := by rw [hB3.cell]; rfl
  have hE2 := hX1.trans hX2
  have HE2 := Lib.hid hE2
  clear hB2 hB3 hX1 hX2 hE2
  have hmk := mk_ints R.length hn w2
  rw [hz2] at hmk
  have hv3 : VecB (w2.alloc (.cells ((List.replicate R.length (0 : Int)).flatMap Iv).toArray 3)) (w.heap.size + 2) (List.replicate R.length 0) := by rw [← hz2]; exact Blk.new w2 _ _
  have hX3 := (Ext.refl w2).allocs (.cells ((List.replicate R.length (0 : Int)).flatMap Iv).toArray 3)
  obtain ⟨w3, hw3⟩ : ∃ w3, w2.alloc (.cells ((List.replicate R.length (0 : Int)).flatMap Iv).toArray 3) = w3 := ⟨_, rfl⟩
  rw [hw3] at hmk hv3 hX3
  have HV3 := Lib.hid hv3
  have HX3 := Lib.hid hX3
  have HZ2 := Lib.hid hz2
  have h2' := hX3.keepCell h2
  have h3' := hX3.keepCell h3
  have HSL := Lib.hid hs
  have HMT := Lib.hid hmt
  have HMO := Lib.hid hmono
  have HSZ := Lib.hid hsz
  clear hw3 hv3 hX3 hz2 hs hmt hmono hsz
  have HLL : Hid ((evsL R).length = R.length) := evsL_len R
  have HSA : Hid (∀ q (hq : q < R.length) r, Least (fun i => !goodB (evsL R) mt q (i + 1)) (R[q]).es.length r → elX (searchL (evsL R) mt) q = (r : Int)) := fun q hq r ⟨h1, h2, h3⟩ => by
    rw [searchL_at (by rw [evsL_len]; exact hq), evsL_row hq, bestK_eq (p := fun i => !goodB (evsL R) mt q (i + 1)) (fun k => rfl) _ r h1 h2 h3]
  have HSN : Hid ((searchL (evsL R) mt).length = R.length) := by show _ = _; rw [searchL_len, evsL_len]
  have HDN : Hid (∀ q (hq : q < R.length) a b, a ≤ b → b < (R[q]).es.length → (!goodB (evsL R) mt q (a + 1)) = true → (!goodB (evsL R) mt q (b + 1)) = true) := fun q hq a b hab hb h => by
    rcases e : goodB (evsL R) mt q (b + 1) with _ | _
    · rfl
    · rw [good_down HMO.out (by rw [evsL_len]; exact hq) (show a + 1 ≤ b + 1 by omega) (by rw [evsL_row hq]; omega) e] at h; cases h
  obtain ⟨V, hV⟩ : ∃ V, searchL (evsL R) mt = V := ⟨_, rfl⟩
  rw [hV] at HSA HSN ⊢
  clear hV
  have eg55 : ∀ args w, (callFunc 55 args).run Try.prog w = .ok (.enter 55 args) w := enters_of Try.func55 (by kernel_rfl) rfl
  have EG := Lib.hid eg
  have EG5 := Lib.hid eg55
  clear eg eg55
  go_enter Try.func36, Try.ntmps36
  go_upto_region 1 with fail
  rw [HW1.out, HW2.out]
  go_upto_region 3 with fail
  clear hmk h2' h3' HW1 HW2
  go_loopg [13] R.length (fun g iv wr => SeRel R.length V w2 (w.heap.size + 2) g iv wr)
  case atStart => exact ⟨0, _, Nat.zero_le _, rfl, rfl, HX3.out, HV3.out, (⟨List.length_replicate, fun q' h => absurd h (Nat.not_lt_zero _)⟩ : _ ∧ _)⟩
  case round =>
    clear HX3 HV3
    obtain ⟨q, O, hq, rfl, rfl, hE, hO, HO⟩ := hrel
    by_cases hlt : q < R.length
    · have hEw := HE2.out.trans hE
      obtain ⟨bl, ol, rfl, pr⟩ := (HSL.out.ext hEw).at_ hlt
      have HOL : Hid (O.length = R.length) := HO.out.1
      have HN := Lib.hid (HSZ.out R[q] (List.getElem_mem hlt))
      have HA := Lib.hid (HSA.out q hlt)
      have HD := Lib.hid (HDN.out q hlt)
      generalize R[q] = r at *
      have hq0 : (0 : Int) ≤ (q : Int) := by omega
      have hq1 : (q : Int) < (R.length : Int) := by omega
      have hX4 := (Ext.refl wr).allocs (.cells #[.int .i64 (q : Int)] 3)
      have hB4 := Blk.new wr 3 #[.int .i64 (q : Int)]
      have hgw : w.heap.size + 2 < wr.heap.size := hO.lt
      obtain ⟨gq, hgq⟩ : ∃ gq, wr.heap.size = gq := ⟨_, rfl⟩
      obtain ⟨W4, hW4⟩ : ∃ W4, wr.alloc (.cells #[.int .i64 (q : Int)] 3) = W4 := ⟨_, rfl⟩
      rw [hW4] at hX4 hB4
      rw [hgq] at hB4 hgw
      have HW4 := Lib.hid hW4
      have HGQ := Lib.hid hgq
      clear hW4 hgq
      have h6 : W4.cell? ⟨gq, 0, none⟩ = some (.int .i64 (q : Int)) := by rw [hB4.cell]; rfl
      have hE4 := hE.trans hX4
      have hO4 := hO.ext hX4
      have HSS : Hid (∀ W, Ext W4 W → Calls Try.prog 54 #[.int .i64 r.es.length, .func (.func 55) #[] #[.pointer (some ⟨w.heap.size, 0, none⟩), .pointer (some ⟨gq, 0, none⟩), .pointer (some ⟨w.heap.size + 1, 0, none⟩)]] W (SrPost (fun i => !goodB (evsL R) mt q (i + 1)) r.es.length W)) := fun W hW =>
        sort_search 55 #[.pointer (some ⟨w.heap.size, 0, none⟩), .pointer (some ⟨gq, 0, none⟩), .pointer (some ⟨w.heap.size + 1, 0, none⟩)] r.es.length (fun i => !goodB (evsL R) mt q (i + 1)) W EG5.out HN.out
          (fun W' hW' i hi => search_closure g cb mt (some ⟨bl, ol, none⟩) cA R w.heap.size gq (w.heap.size + 1) q i w W' (HE2.out.trans (hE4.trans (hW.trans hW'))) (HSL.out.ext (HE2.out.trans (hE4.trans (hW.trans hW')))) hn EG.out HMT.out
            ((hE4.trans (hW.trans hW')).keepCell h2) ((hW.trans hW').keepCell h6) ((hE4.trans (hW.trans hW')).keepCell h3) (by have := HN.out; omega)) HD.out
      have hX4d : Ext W4 W4.drew := Below.drew (Ext.refl W4)
      have h6d := hX4d.keepCell h6
      clear hE hO hX4 hB4 hEw
      go_upto_region 5 with fail
      rw [HW4.out, HGQ.out]
      go_region_held3 (fun w' => w'.cell? ⟨gq, 0, none⟩ = some (.int .i64 (q : Int)))
        (first | with_reducible exact h6 | with_reducible exact h6d | with_reducible exact h65 | with_reducible exact h66)
        (first
          | (go_at_call 54; refine (HSS.out _ hX4d).mono ?_; rintro e w5 ⟨rr, rfl, hLe, hE5⟩; have E5 : Ext W4 w5 := Ext.trans hX4d hE5; have h65 := E5.keepCell h6; have hO5 : VecB w5 (w.heap.size + 2) O := hO4.ext E5; have hco := hO5.at_ (q := q) (by rw [HOL.out]; exact hlt); have hfo := hO5.frz q; have h66 := cell_far h65 (o := q) (show gq ≠ w.heap.size + 2 by omega) (.int .i64 (rr : Int))))
      have HE6 : Hid (Ext w2 (w5.setCell ⟨w.heap.size + 2, q, none⟩ (.int .i64 (rr : Int)))) := (hE4.trans E5).set (by rw [HZ2.out]; exact Nat.le_refl _) _
      have HO6 := Lib.hid (hO5.set (q := q) (by rw [HOL.out]; exact hlt) (rr : Int))
      have HOI : Hid ((O.set q (rr : Int)).length = R.length ∧ ∀ q', q' < q + 1 → elX (O.set q (rr : Int)) q' = elX V q') := ⟨by rw [List.length_set]; exact HOL.out, fun q' hq' => by
        rw [elX_set _ _ _ _ (by rw [HOL.out]; exact hlt)]
        split
        · rename_i e; subst e; exact (HA.out rr hLe).symm
        · exact HO.out.2 q' (by omega)⟩
      clear hO5 hO4 hE4 E5 hE5 hco hfo h65 h66 h6 h6d hX4d HSS
      go_wp2_with fail
      go_roundg (R.length - (q + 1))
      case measure => omega
      case rel => exact ⟨q + 1, _, by omega, by go_num, rfl, HE6.out, HO6.out, HOI.out⟩
    · obtain rfl : q = R.length := by omega
      have HV : Hid (O = V) := elX_ext (by rw [HO.out.1, HSN.out]) (fun q' hq' => HO.out.2 q' (by rw [HO.out.1] at hq'; exact hq'))
      go_wp2_with fail
      go_ret
      exact ⟨some ⟨w.heap.size + 2, 0, none⟩, R.length, by rw [HSN.out]; rfl, by rw [← HV.out]; exact hO.seg, by rw [HSN.out]; exact Nat.le_refl _, by unfold maxLen; omega, HE2.out.trans hE⟩

set_option maxHeartbeats 1600000 in
theorem stable_code (A : Option Addr) (cA : Nat) (R : List Rw) (B : Option Addr) (cB : Nat) (St : List Int) (w : World) (hs : LinSeg w A R) (hn : R.length ≤ 1000) (hsz : ∀ r ∈ R, r.es.length < 4611686018427387904)
    (hB : IntSeg w B St) (hBc : St.length ≤ cB) (hBm : cB ≤ maxLen) :
    Calls Try.prog 19 #[.slice A R.length cA, .slice B St.length cB] w (IPost (searchL (evsL R) (mtS St)) w) := by
  have hX := (Ext.refl w).allocs (.cells #[.slice B St.length cB] 28)
  have hB1 := Blk.new w 28 #[.slice B St.length cB]
  obtain ⟨w1, hw1⟩ : ∃ w1, w.alloc (.cells #[.slice B St.length cB] 28) = w1 := ⟨_, rfl⟩
  rw [hw1] at hX hB1
  have HW := Lib.hid hw1
  have h1 : w1.cell? ⟨w.heap.size, 0, none⟩ = some (.slice B St.length cB) := by rw [hB1.cell]; rfl
  have eg : ∀ args w, (callFunc 37 args).run Try.prog w = .ok (.enter 37 args) w := enters_of Try.func37 (by kernel_rfl) rfl
  have HS := Lib.hid (search_code 37 #[.pointer (some ⟨w.heap.size, 0, none⟩)] (mtS St) A cA R w1 (hs.ext hX) hn hsz eg
    (fun W hE A' c X hX' hc hm hl => stable_meets w.heap.size B cB St A' c X W (hE.keepCell h1) (hB.ext (hX.trans hE)) hBc hBm hX' hc hm (by omega)) (mtS_mono (evsL R) St))
  clear hw1 hs hB1 h1 eg hB
  generalize searchL (evsL R) (mtS St) = V at *
  go_enter Try.func19, Try.ntmps19
  go_wp2_with fail
  rw [HW.out]
  refine HS.out.mono ?_
  rintro e w2 ⟨A2, c2, rfl, hs2, hc2, hm2, hE2⟩
  go_wp2_with fail
  go_ret
  exact ⟨A2, c2, rfl, hs2, hc2, hm2, hX.trans hE2⟩
end Go.Proofs.Ytcljdkjlfciacaa
