/- The walk of CommitAgrees. No statement of the seat is proved here. -/
import Derived.Test.YtcljdkjlfciacaaMonoPlain
namespace Go.Proofs.Ytcljdkjlfciacaa
open Go.RowKit
set_option linter.unusedVariables false

structure AgAt (c : Nat) (bs : List Int) (k : Nat) (w : World) (base gl : Nat) (R : List Rw) (gx cx n : Nat) (X : List Int) (bT gt : Nat) (G : List (Gr Dt)) (W : World) : Prop where
  ln : LnAt c bs k w base gl R gx cx n X W
  tb : TbL W bT gt G
section
variable {c : Nat} {bs : List Int} {k : Nat} {w : World} {base gl : Nat} {R : List Rw} {gx cx n : Nat} {X : List Int} {bT gt : Nat} {G : List (Gr Dt)} {W W' : World}
theorem AgAt.ext (h : AgAt c bs k w base gl R gx cx n X bT gt G W) (hE : Ext W W') : AgAt c bs k w base gl R gx cx n X bT gt G W' := ⟨h.ln.ext hE, h.tb.ext hE⟩
theorem AgAt.draw (h : AgAt c bs k w base gl R gx cx n X bT gt G W) (hD : Drew c bs k w W') (hg : W.grownBy W' (some c)) (hc : c < w.heap.size) (hb : w.heap.size ≤ base) (hl : w.heap.size ≤ gl) (ht : w.heap.size ≤ bT) : AgAt c bs k w base gl R gx cx n X bT gt G W' := ⟨h.ln.draw hD hg hc hb hl, h.tb.low hg (by omega)⟩
theorem AgAt.put {W9 : World} (h : AgAt c bs k w base gl R gx cx n X bT gt G W) (hc : c < w.heap.size) (ht : w.heap.size ≤ bT) (hbT : bT ≤ W.heap.size) (hE : Ext W W9) {q : Nat} (hq : q < G.length) {A : Option Addr} {cA : Nat} {l : List Dt} (hown : W9.ownsRow W.heap.size 72 9 (.slice A l.length cA) l.length (l.flatMap Dt.cells)) :
    AgAt c bs k w base gl R gx cx n X bT gt (G.set q ⟨A, cA, l⟩) (W9.setCell ⟨gt, q, none⟩ (.slice A l.length cA)) := by
  have h9 := h.ext hE
  obtain ⟨cs, hB, _⟩ := h9.tb.b
  have hz := h.tb.z
  have hg1 := grown_set1 W9 gt q (.slice A l.length cA)
  refine ⟨⟨h9.ln.d.grown hg1 (fun r e => by injection e; omega) hc, h9.ln.l.typed hg1 (fun e => by subst e; exact absurd (blk_type h9.ln.l.b hB) (by decide)) hB (by decide), h9.ln.x.kept hg1 ?_⟩, h.tb.put hbT hE hq hown⟩
  rcases own_not h9.ln.x hB (by decide) with h1 | h1
  · exact .inl h1
  · exact .inr h1
end
theorem own_cellI' {w : World} {b g c n : Nat} {X : List Int} (h : w.ownsRow b 3 1 (.slice (some ⟨g, 0, none⟩) n c) n (X.flatMap Iv)) (hl : X.length = n) {s : Nat} (hs : s < n) : w.cell? ⟨g, s, none⟩ = some (.int .i64 (elX X s)) := own_cellI h hl hs
def AgRel (c : Nat) (bs : List Int) (w : World) (base gl : Nat) (R : List Rw) (gx cx n : Nat) (X : List Int) (bT gt m : Nat) (g : Nat) (iv : Value) (wr : World) : Prop :=
  ∃ (q : Nat) (G : List (Gr Dt)), q ≤ n ∧ iv = .int .i64 q ∧ g = n - q ∧ AgAt c bs 0 w base gl R gx cx n X bT gt G wr ∧ bT ≤ wr.heap.size ∧ G.length = m ∧ Hid (LgInv (evsL R) X q G)
set_option maxRecDepth 100000 in
set_option maxHeartbeats 3200000 in
theorem agrees_walk (a0 : Option Addr) (cap0 : Nat) (bs : List Int) (faults : Int) (w : World)
    (h3 : Seg w 1 a0 bs.length (bs.map (Value.int .u8)) ∧ bs.length ≤ cap0 ∧ cap0 ≤ maxLen ∧ ∀ b ∈ bs, 0 ≤ b ∧ b < 256) (hx1 : (Lit.int .i64 faults).wf = true) :
    Calls Try.prog 8 #[.slice a0 bs.length cap0, .int .i64 faults] w fun e w' => e = .returned (.bool true) ∧ Below w.heap.size w w' := by
  obtain ⟨hb, hb1, hb2, hb3⟩ := h3
  have HB3 := Lib.hid hb3
  have HB := Lib.hid hb
  clear hb3 hb hx1
  have hb2' := hb2
  unfold maxLen at hb2'
  go_enter Try.func8, Try.ntmps8
  go_wp2_with fail
  refine (awake_any w).mono ?_
  rintro e w2 ⟨rfl, hE2'⟩
  go_wp2_with fail
  refine (new_any a0 cap0 bs 200 w2 (HB.out.ext hE2') hb1 hb2 (by omega) HB3.out).mono ?_
  rintro e w3 ⟨rfl, hC3, hE3⟩
  obtain ⟨c, hcw⟩ : ∃ c, w2.heap.size = c := ⟨_, rfl⟩
  rw [hcw] at hC3
  have hc0' : w.heap.size ≤ c := by have := hE2'.size; omega
  have hE3' := hE2'.trans hE3
  have hc3 : c < w3.heap.size := hC3.lt
  try rw [hcw]
  clear hcw hE3 hE2'
  go_wp2_with fail
  refine (lineages_any c _ 0 w3 hC3 18 (by omega)).mono ?_
  rintro e w4 ⟨base, gl, p, R, rfl, hn2, hn4, hb4, hgl4, hL4, hM4, hO4, hG4, -, -, hD4⟩
  have HPA : Hid (∀ (q : Nat) (k : Int), q < p.Ls.length → 0 ≤ k → k ≤ elX p.Ls q → ∃ X, pastL (evsL R) (q : Int) k = X ∧ IsPast (evsL R) q k (some X) ∧ X.length = p.Ls.length ∧ elX X q = k ∧ (k = 0 → ∀ r, r < p.Ls.length → elX X r = 0)) := fun q k hq h0 h1 => lin_past hO4 hG4 hq h0 h1
  have hRl : R.length = p.Ls.length := hG4.len
  have HRW : Hid (∀ r, r < p.Ls.length → ((rowL (evsL R) r).length : Int) = elX p.Ls r) := fun r hr => by
    have hr' : r < R.length := by rw [hG4.len]; exact hr
    rw [evsL_row hr']
    exact hG4.rl r R[r] (List.getElem?_eq_getElem hr')
  have HRK : Hid (∀ s ∈ R, ∀ e ∈ s.es, e.ok) := fun s hs e he => by
    obtain ⟨q, hq⟩ := List.mem_iff_getElem?.1 hs
    obtain ⟨k, hk⟩ := List.mem_iff_getElem?.1 he
    obtain ⟨⟨a1, a2⟩, ⟨b1, b2⟩, ⟨c1, c2⟩, ⟨d1, d2⟩, ⟨e1, e2⟩, ⟨f1, f2⟩, g1, g2⟩ := (hG4.ev q s k e hq hk).1
    exact ⟨⟨by omega, by omega⟩, ⟨by omega, by omega⟩, ⟨by omega, by omega⟩, ⟨by omega, by omega⟩, ⟨by omega, by omega⟩, ⟨by omega, by omega⟩, ⟨by omega, by omega⟩⟩
  have HR24 : Hid (∀ s ∈ R, s.es.length ≤ 24) := fun s hs => by
    obtain ⟨q, hq⟩ := List.mem_iff_getElem?.1 hs
    have h1 := hG4.rl q s hq
    have h2 := (hO4.lb q (by have := (List.getElem?_eq_some_iff.1 hq).1; omega)).2
    omega
  obtain ⟨A0, c0, Ls, A1, c1, Ks, v2, As⟩ := p
  obtain ⟨A2, c2, hv2, _, _, _⟩ := own_slice hM4.a
  dsimp only at hv2
  subst hv2
  dsimp only at hn2 hn4 hRl
  have hSc : ScAt c (bs.take 200) 0 w3 base gl ⟨A0, c0, Ls, A1, c1, Ks, .slice A2 As.length c2, As⟩ R w4 := ⟨hD4, hL4, hM4⟩
  have HRl := Lib.hid hRl
  have HO := Lib.hid hO4
  clear hL4 hM4 hD4 hRl hO4 hC3 hG4
  have hX5 := (Ext.refl w4).allocs (.cells #[.slice A0 Ls.length c0, .slice A1 Ks.length c1, .slice A2 As.length c2] 32)
  have hB5 := Blk.new w4 32 #[.slice A0 Ls.length c0, .slice A1 Ks.length c1, .slice A2 As.length c2]
  have hc4 : c < w4.heap.size := by have := hSc.d.1.size; omega
  have hSc5 := hSc.ext hX5
  obtain ⟨w5, hw5⟩ : ∃ w5, w4.alloc (.cells #[.slice A0 Ls.length c0, .slice A1 Ks.length c1, .slice A2 As.length c2] 32) = w5 := ⟨_, rfl⟩
  obtain ⟨g5, hg5⟩ : ∃ g5, w4.heap.size = g5 := ⟨_, rfl⟩
  go_upto_region 5 with fail
  rw [hw5] at hB5 hSc5
  try rw [hw5]
  rw [hg5] at hB5 hc4
  try rw [hg5]
  clear hX5 hw5 hSc hg5
  obtain ⟨⟨x0, x1, x2⟩, _, _, _⟩ := blk3 hB5
  have HSc5 := Lib.hid hSc5
  clear hSc5 hB5
  go_wp2_with fail
  refine (cut_any c (bs.take 200) 0 w3 w5 A0 c0 Ls _ _ HSc5.out.d HSc5.out.m.l HSc5.out.m.lf hc3 hn4 (fun q hq => by have := HO.out.lb q hq; dsimp only at this; omega) ⟨rfl, rfl⟩).mono ?_
  rintro e w7 ⟨v7, X7, rfl, hO7, ⟨hX7, hXb⟩, hD7, hg7⟩
  have hO7' := hO7
  rw [hX7] at hO7'
  obtain ⟨gx, cx, rfl, _, _⟩ := hO7'.form (by omega)
  have HLn7 : Hid (LnAt c (bs.take 200) 0 w3 base gl R gx cx Ls.length X7 w7) := ⟨hD7, HSc5.out.l.low hg7 (by omega) (by omega), own_base hO7' HSc5.out.d.1.size⟩
  have HX7 := Lib.hid hX7
  have HXB : Hid (∀ r, r < Ls.length → 0 ≤ elX X7 r ∧ elX X7 r ≤ ((rowL (evsL R) r).length : Int)) := fun r hr => by rw [HRW.out r hr]; exact hXb r hr
  clear hO7 hO7' hX7 hXb hD7 hg7 x0 x1 x2 HSc5
  go_wp2_with fail
  refine (next_on HLn7.out.d (Ext.refl _) 3 (by omega) (by omega)).mono ?_
  rintro e w8 ⟨r8, rfl, ⟨hr0, hr1⟩, hD8, hg8⟩
  have HLn8 := Lib.hid (HLn7.out.draw hD8 hg8 hc3 hb4 hgl4)
  clear hD8 hg8 HLn7
  obtain ⟨m, hm⟩ : ∃ m : Nat, 1 + r8 = (m : Int) := ⟨(1 + r8).toNat, by omega⟩
  have hm1 : 1 ≤ m := by omega
  have hm3 : m ≤ 3 := by omega
  have hwm : IntKind.i64.wrap (1 + r8) = (m : Int) := by rw [hm]; exact IntWalk.i64_in _ (by omega)
  clear hm hr0 hr1
  have hmk := mk_detrows m (by omega) w8
  obtain ⟨w9, hw9⟩ : ∃ w9, w8.alloc (.cells ((List.replicate m (⟨none, 0, []⟩ : Gr Dt)).flatMap Gr.cells).toArray 44) = w9 := ⟨_, rfl⟩
  obtain ⟨gt, hgt⟩ : ∃ gt, w8.heap.size = gt := ⟨_, rfl⟩
  have hT0 := TbL.start (W := w9) (gl := gt) (n := m) (by rw [← hw9, ← hgt]; exact Blk.new w8 _ _)
  have hz8 := HLn8.out.d.1.size
  have hAg : AgAt c (bs.take 200) 0 w3 base gl R gx cx Ls.length X7 gt gt (List.replicate m ⟨none, 0, []⟩) w9 := ⟨HLn8.out.ext (by rw [← hw9]; exact (Ext.refl w8).allocs _), hT0⟩
  have hgt3 : w3.heap.size ≤ gt := by omega
  have hgt9 : gt ≤ w9.heap.size := by have := hT0.lt; omega
  rw [hw9, hgt] at hmk
  have HAg := Lib.hid hAg
  clear hw9 hgt hT0 hz8 hAg HLn8
  go_wp2_with fail
  clear hmk hwm
  go_loopg [10] Ls.length (fun g iv wr => AgRel c (bs.take 200) w3 base gl R gx cx Ls.length X7 gt gt m g iv wr)
  case atStart => exact ⟨0, _, Nat.zero_le _, rfl, rfl, HAg.out, hgt9, List.length_replicate, LgInv.start _ _ _⟩
  case round =>
    clear HAg hgt9
    rename World => wl
    obtain ⟨q, G, hq, rfl, rfl, hAg, hgtl, hGl, HI⟩ := hrel
    have HAg := Lib.hid hAg
    have HGl := Lib.hid hGl
    clear hAg hGl
    by_cases hlt : q < Ls.length
    · have hq0 : (0 : Int) ≤ (q : Int) := by omega
      have hq1 : (q : Int) < (Ls.length : Int) := by omega
      go_wp2_with fail
      refine (next_on HAg.out.ln.d (Ext.refl _) (m : Int) (by omega) (by omega)).mono ?_
      rintro e w10 ⟨k, rfl, ⟨hk0, hk1⟩, hD10, hg10⟩
      have HAg10 := Lib.hid (HAg.out.draw hD10 hg10 hc3 hb4 hgl4 hgt3)
      have hgt10 : gt ≤ w10.heap.size := by have := hg10.size; omega
      clear hD10 hg10 HAg hgtl
      obtain ⟨k, rfl⟩ : ∃ kn : Nat, k = (kn : Int) := ⟨k.toNat, by omega⟩
      have hkG : k < G.length := by rw [HGl.out]; omega
      have hqR : q < R.length := by rw [HRl.out]; exact hlt
      obtain ⟨hi, hhi⟩ : ∃ hi : Nat, elX X7 q = (hi : Int) := ⟨(elX X7 q).toNat, by have := HXB.out q hlt; omega⟩
      obtain ⟨r, hr⟩ : ∃ r, R[q] = r := ⟨_, rfl⟩
      have hrq : R[q]? = some r := by rw [List.getElem?_eq_getElem hqR, hr]
      have hrw : rowL (evsL R) q = r.es := by rw [evsL_row hqR, hr]
      have hrf := HAg10.out.ln.l.seg.row hqR
      rw [hr] at hrf
      have hr24 := HR24.out r (by rw [← hr]; exact List.getElem_mem hqR)
      have hhi2 := (HXB.out q hlt).2
      rw [hrw, hhi] at hhi2
      have hhi3 : hi ≤ r.es.length := by omega
      have HROK : Hid (∀ e ∈ r.es, e.ok) := HRK.out r (by rw [← hr]; exact List.getElem_mem hqR)
      obtain ⟨s, hs⟩ : ∃ s, G[k] = s := ⟨_, rfl⟩
      have hsG : G[k]? = some s := by rw [List.getElem?_eq_getElem hkG, hs]
      have hs96 : s.l.length ≤ 96 := by have := HI.out.2.1 s (by rw [← hs]; exact List.getElem_mem hkG); omega
      have HS := Lib.hid hs
      have HRW2 := Lib.hid hrw
      have HHI := Lib.hid hhi
      obtain ⟨hre, hrc, hrm⟩ := hrf
      have hcut := fun (w : World) => run_cut0 w r.A r.es.length r.c hi (hi : Int) rfl (by omega)
      obtain ⟨A3, hA3⟩ : ∃ A3, (if r.c = 0 then r.A else r.A.map (·.add (0 * 7))) = A3 := ⟨_, rfl⟩
      rw [hA3] at hcut
      have HSG : Hid (∀ (W : World), Ext w10 W → EvSeg W A3 (r.es.take hi)) := fun W hE => by rw [← hA3]; exact ev_cut0 (hre.ext hE) r.c hi hhi3 hrc
      have pG := fun (W : World) (hE : Ext w10 W) => (HAg10.out.tb.ext hE).cell hsG
      have pL := fun (W : World) (hE : Ext w10 W) => (HAg10.out.ln.l.ext hE).cell hrq
      have pX := fun (W : World) (hE : Ext w10 W) => own_cellI' (HAg10.out.ln.ext hE).x HX7.out hlt
      rw [hhi] at pX
      have HPG := Lib.hid pG
      have HPL := Lib.hid pL
      have HPX := Lib.hid pX
      clear hs hr hrw hhi hre hA3 hhi2 pG pL pX
      have hk0' : (0 : Int) ≤ (k : Int) := by omega
      have hk1' : (k : Int) < (m : Int) := by omega
      have hh0 : (0 : Int) ≤ (hi : Int) := by omega
      go_upto_region 11 with fail
      refine wp_region_sched (by kernel_rfl) 19 [(0, true), (1, true), (2, true), (3, true), (4, true), (5, true), (6, true), (7, true), (8, true), (9, true), (10, true), (11, true), (12, true), (13, true), (14, true), (15, true), (16, false), (17, false), (18, true), (19, false)] (fun w' => w'.cell? ⟨gt, k, none⟩ = some (Gr.val s) ∧ w'.cell? ⟨gl, q, none⟩ = some (Rw.val r) ∧ w'.cell? ⟨gx, q, none⟩ = some (.int .i64 (hi : Int))) (by kernel_rfl) (fun _ _ dd _ _ h => by cases dd <;> exact h) ⟨HPG.out _ (Below.drew (Ext.refl _)), HPL.out _ (Below.drew (Ext.refl _)), HPX.out _ (Below.drew (Ext.refl _))⟩ (fun hHeld => ?_)
      unfold Gr.val Rw.val at hHeld
      unfold Gr.val Rw.val
      iterate 16 ((refine sched_read (v := ?_) rfl (Or.inl ⟨by rfl, ?_⟩) hHeld ?_; rotate_left 1; · (intro w' hSw; obtain ⟨t0, t1, t2⟩ := hSw; go_simp; (first | done | with_reducible rfl))); (try simp only [Act.put, List.setIfInBounds_toArray, List.set_cons_zero, List.set_cons_succ]))
      refine sched_eff rfl (fun K hK => ?_)
      go_simp
      have hlt3 : (r.es.take hi).length = hi := by rw [List.length_take]; omega
      have hp := lineage_sl A3 r.c (q : Int) (r.es.take hi) _ (HSG.out _ (Below.drew (Ext.refl _))) (by omega)
      rw [hlt3] at hp
      refine hp.mono ?_
      clear hp
      rintro e w11 ⟨v11, rfl, hown11, hE11⟩
      have hDl : (linV (q : Int) (r.es.take hi)).length ≤ 24 := by rw [linV_len]; omega
      have HINV : Hid (∀ A c, LgInv (evsL R) X7 (q + 1) (G.set k ⟨A, c, stockV (s.l ++ linV (q : Int) (r.es.take hi))⟩)) := fun A c => by
        have h := HI.out.step hkG HHI.out (by omega) (by omega) (by rw [HRW2.out]; exact HROK.out) A c
        rw [HRW2.out, HS.out] at h
        exact h
      obtain ⟨D, hD⟩ : ∃ D, linV (q : Int) (r.es.take hi) = D := ⟨_, rfl⟩
      rw [hD] at HINV hDl hown11
      obtain ⟨AD, cD, rfl, hds, _, _⟩ := own_slice hown11
      have hE11' : Ext w10 w11 := (Below.drew (Ext.refl w10)).trans hE11
      have hsS := (HAg10.out.tb.ext hE11').r s (List.mem_of_getElem? hsG)
      have HMG := Lib.hid (merge_own s.A AD s.c cD s.l D w11 hsS.1 hds (by omega) (by omega))
      have HH11 : Hid (w11.cell? ⟨gt, k, none⟩ = some (Gr.val s) ∧ w11.cell? ⟨gl, q, none⟩ = some (Rw.val r) ∧ w11.cell? ⟨gx, q, none⟩ = some (.int .i64 (hi : Int))) := ⟨HPG.out _ hE11', HPL.out _ hE11', HPX.out _ hE11'⟩
      have HE11 := Lib.hid hE11'
      clear hD hown11 hE11 hE11' hds hsS hlt3
      go_wp2_with fail
      refine hK.out _ _ HH11.out (fun hHeld => ?_)
      clear hK K
      try simp only [Act.put, List.setIfInBounds_toArray, List.set_cons_zero, List.set_cons_succ]
      refine sched_eff rfl (fun K hK => ?_)
      go_simp
      refine HMG.out.mono ?_
      rintro e w12 ⟨A12, c12, rfl, hown12, hE12⟩
      have hE12' : Ext w10 w12 := Ext.trans HE11.out hE12
      have HH12 : Hid (w12.cell? ⟨gt, k, none⟩ = some (Gr.val s) ∧ w12.cell? ⟨gl, q, none⟩ = some (Rw.val r) ∧ w12.cell? ⟨gx, q, none⟩ = some (.int .i64 (hi : Int))) := ⟨HPG.out _ hE12', HPL.out _ hE12', HPX.out _ hE12'⟩
      have hown12' := own_base hown12 HE11.out.size
      have pf := (HAg10.out.tb.ext hE12').frz k
      have pc := HPG.out _ hE12'
      have HPUT := Lib.hid (HAg10.out.put hc3 hgt3 hgt10 hE12' hkG hown12')
      have hgt12 : gt ≤ w12.heap.size := by have := hE12'.size; omega
      clear hown12 hE12 hE12' hown12' HMG HH11 HE11
      go_wp2_with fail
      refine hK.out _ _ HH12.out (fun hHeld => ?_)
      clear hK K
      try simp only [Act.put, List.setIfInBounds_toArray, List.set_cons_zero, List.set_cons_succ]
      iterate 1 ((refine sched_read (v := ?_) rfl (Or.inl ⟨by rfl, ?_⟩) hHeld ?_; rotate_left 1; · (intro w' hSw; obtain ⟨t0, t1, t2⟩ := hSw; go_simp; (first | done | with_reducible rfl))); (try simp only [Act.put, List.setIfInBounds_toArray, List.set_cons_zero, List.set_cons_succ]))
      refine sched_tail rfl (by decide) (fun K hK => ?_)
      unfold Gr.val at pc
      go_simp
      refine hK.out _ _ ?_
      clear hK K
      refine sched_done ?_
      go_wp2_with fail
      go_roundg (Ls.length - (q + 1))
      case measure => omega
      case rel => exact ⟨q + 1, _, by omega, by go_num, rfl, HPUT.out, by simpa using hgt12, by rw [List.length_set]; exact HGl.out, HINV.out _ _⟩
    · obtain rfl : q = Ls.length := by omega
      have HFULL : Hid (searchL (evsL R) (mtS (fullL (evsL R))) = fullL (evsL R)) := full_plain (fun r hr => by
        rw [evsL_len, HRl.out] at hr
        have h1 := HRW.out r hr
        obtain ⟨X, hX, _, hl, _⟩ := HPA.out r ((rowL (evsL R) r).length : Int) hr (by omega) (by rw [h1]; exact Int.le_refl _)
        rw [hX, evsL_len, HRl.out]
        exact hl)
      have HINV : Hid (LgInv (evsL R) X7 (evsL R).length G) := by show LgInv _ _ _ _; rw [evsL_len, HRl.out]; exact HI.out
      have hR4 : R.length ≤ 1000 := by have := HRl.out; omega
      have hxl : X7.length = Ls.length := HX7.out
      have hf0 : 0 ≤ max faults 0 := Int.le_max_right _ _
      have HAGR : Hid (searchL (evsL R) (mtS X7) = searchL (evsL R) (mtR (limL (evsL R) [] G [] (max faults 0)))) := agree_plain hf0 (fun q hq => HXB.out q (by rw [evsL_len, HRl.out] at hq; exact hq)) HINV.out
      obtain ⟨_, _, _, hxc, hxm⟩ : ∃ A c, Value.slice (some ⟨gx, 0, none⟩) Ls.length cx = .slice A Ls.length c ∧ Ls.length ≤ cx ∧ cx ≤ maxLen := by
        obtain ⟨A, c, e, _, h5, h6⟩ := own_slice HAg.out.ln.x
        injection e with e1 e2 e3
        subst e3
        exact ⟨_, _, rfl, h5, h6⟩
      have hIX : IntSeg wl (some ⟨gx, 0, none⟩) X7 := by show Seg _ _ _ _ _; rw [hxl]; exact Seg.of_own HAg.out.ln.x
      have hE0 : Below w.heap.size w wl := HAg.out.ln.d.ext hE3' hc0'
      have hp := stable_code (some ⟨gl, 0, none⟩) Ls.length R (some ⟨gx, 0, none⟩) cx X7 wl HAg.out.ln.l.seg hR4 (fun r hr => by have := HR24.out r hr; omega) hIX (by rw [hxl]; exact hxc) hxm
      rw [HRl.out, hxl] at hp
      have HP := Lib.hid hp
      have HIX := Lib.hid hIX
      clear hp hIX
      go_wp2_with fail
      refine HP.out.mono ?_
      rintro e w20 ⟨B1, d1, rfl, hI1, hl1, hl1', hE20⟩
      have hE20' := Below.trans hE0 (hE20.mono hE0.size)
      have HAg20 := Lib.hid (HAg.out.ext hE20)
      clear HP HIX hE20 hE0
      have hp := replicated_code (some ⟨gl, 0, none⟩) Ls.length R none 0 [] (some ⟨gt, 0, none⟩) m G none 0 [] (max faults 0) w20 HAg20.out.ln.l.seg hR4 (fun r hr => by have := HR24.out r hr; omega) HRK.out Seg.nil (Nat.le_refl _) (by unfold maxLen; omega) HAg20.out.tb.seg (by rw [HGl.out]; omega) (fun r hr => by have := HI.out.2.1 r hr; omega) HI.out.2.2 GSeg.nil (by show (0 : Nat) ≤ 1000; omega)
      rw [HRl.out, HGl.out, ← HAGR.out] at hp
      have HP := Lib.hid hp
      clear hp
      go_wp2_with fail
      refine HP.out.mono ?_
      rintro e w21 ⟨B2, d2, rfl, hI2, hl2, hl2', hE21⟩
      have hE21' := Below.trans hE20' (hE21.mono hE20'.size)
      have HAg21 := Lib.hid (HAg20.out.ext hE21)
      have hI1' := hI1.ext hE21
      clear HP HAg20 hE20' hE21 hI1
      have hn0 : (searchL (evsL R) (mtS X7)).length ≤ 1000 := by rw [searchL_len, evsL_len]; exact hR4
      have hn1 : (fullL (evsL R)).length ≤ 1000 := by rw [fullL_len, evsL_len]; exact hR4
      go_wp2_with fail
      refine (same_ints B1 B2 d1 d2 _ w21 hI1' hI2 hn0).mono ?_
      rintro e w22 ⟨rfl, hE22⟩
      have hE22' := Below.trans hE21' (hE22.mono hE21'.size)
      have HAg22 := Lib.hid (HAg21.out.ext hE22)
      clear HAg21 hE21' hE22 hI1' hI2 hl1 hl1' hl2 hl2' hn0
      have hp := full_any (some ⟨gl, 0, none⟩) Ls.length R w22 HAg22.out.ln.l.seg hR4 (fun r hr => by have := HR24.out r hr; omega)
      rw [HRl.out] at hp
      have HP := Lib.hid hp
      clear hp
      go_wp2_with fail
      refine HP.out.mono ?_
      rintro e w23 ⟨B3, d3, rfl, hI3, hl3, hl3', hE23⟩
      have hE23' := Below.trans hE22' (hE23.mono hE22'.size)
      have HAg23 := Lib.hid (HAg22.out.ext hE23)
      clear HP HAg22 hE22' hE23
      have hp := stable_code (some ⟨gl, 0, none⟩) Ls.length R B3 d3 (fullL (evsL R)) w23 HAg23.out.ln.l.seg hR4 (fun r hr => by have := HR24.out r hr; omega) hI3 hl3 hl3'
      rw [HRl.out, HFULL.out] at hp
      have HP := Lib.hid hp
      clear hp hI3
      go_wp2_with fail
      refine HP.out.mono ?_
      rintro e w24 ⟨B4, d4, rfl, hI4, hl4, hl4', hE24⟩
      have hE24' := Below.trans hE23' (hE24.mono hE23'.size)
      have HAg24 := Lib.hid (HAg23.out.ext hE24)
      clear HP HAg23 hE23' hE24
      have hp := full_any (some ⟨gl, 0, none⟩) Ls.length R w24 HAg24.out.ln.l.seg hR4 (fun r hr => by have := HR24.out r hr; omega)
      rw [HRl.out] at hp
      have HP := Lib.hid hp
      clear hp
      go_wp2_with fail
      refine HP.out.mono ?_
      rintro e w25 ⟨B5, d5, rfl, hI5, hl5, hl5', hE25⟩
      have hE25' := Below.trans hE24' (hE25.mono hE24'.size)
      have hI4' := hI4.ext hE25
      clear HP HAg24 hE24' hE25 hI4
      go_wp2_with fail
      refine (same_ints B4 B5 d4 d5 _ w25 hI4' hI5 hn1).mono ?_
      rintro e w26 ⟨rfl, hE26⟩
      have hE26' := Below.trans hE25' (hE26.mono hE25'.size)
      go_wp2_with fail
      go_ret
      exact ⟨rfl, hE26'⟩
end Go.Proofs.Ytcljdkjlfciacaa
