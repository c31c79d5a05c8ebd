/- The scene of chapter 35. No statement of the seat is proved here. -/
import Derived.Test.YtcljdkjlfciacaaSpoil
namespace Go.Proofs.Ytcljdkjlfciacaa
open Go.RowKit
set_option linter.unusedVariables false

def ScenePost (c : Nat) (bs : List Int) (k : Nat) (w : World) (e : Ending) (w' : World) : Prop :=
  ∃ (base gl : Nat) (p : Pt) (R : List Rw), e = .returned (.tuple #[.slice (some ⟨gl, 0, none⟩) p.Ls.length p.Ls.length, .agg #[.slice p.A0 p.Ls.length p.c0, .slice p.A1 p.Ks.length p.c1, p.v2]]) ∧ 2 ≤ p.Ls.length ∧ p.Ls.length ≤ 4 ∧ w.heap.size ≤ base ∧ w.heap.size ≤ gl ∧
    LinOwn w' base gl R ∧ R.length = p.Ls.length ∧ (∀ (q : Nat) (s : Rw), R[q]? = some s → (s.es.length : Int) = elX p.Ls q) ∧ (∀ s ∈ R, ∀ e ∈ s.es, e.ok) ∧ PtMem w' w.heap.size p ∧ PtOk p.Ls.length 18 p ∧ Drew c bs k w w'
theorem Wrote.blk {c base gl : Nat} {R : List Rw} {w w' : World} (h : Wrote c base gl R w w') (hL : LinOwn w base gl R) (hcb : c < base) {g : Nat} {t : TypeId} {cs : Array Value} (hB : Blk w g t cs) (ht : t ≠ 61) (hc : c ≠ g) : Blk w' g t cs := by
  obtain ⟨w1, row, hg1, hg2, hr⟩ := h
  have hB1 : Blk w1 g t cs := (hg1.block g hB.lt (fun e => hc (by injection e with e; exact e.symm))).trans hB
  rcases row with _ | r
  · exact (hg2.block g hB1.lt (by simp)).trans hB1
  · obtain ⟨_, q, s, hs, hv⟩ := hr r rfl
    refine (hg2.block g hB1.lt (fun e => ?_)).trans hB1
    injection e with e
    subst e
    rcases own_not (hL.r q s hs) hB ht with h | h
    · rw [h] at hv; cases hv
    · exact h hv
theorem Wrote.pt {c base gl b : Nat} {R : List Rw} {w w' : World} {p : Pt} (h : Wrote c base gl R w w') (hM : PtMem w b p) (hcb : c < b) (haw : ∀ g, base ≤ g → PtAway g p) : PtMem w' b p := by
  obtain ⟨w1, row, hg1, hg2, hr⟩ := h
  have hM1 := hM.grown hg1 hcb
  rcases row with _ | r
  · exact hM1.ext ⟨hg2.os, hg2.tape, hg2.output, hg2.size, fun k hk => hg2.block k hk (by simp)⟩
  · exact hM1.put (haw r (hr r rfl).1) hg2
set_option maxRecDepth 100000 in
set_option maxHeartbeats 3200000 in
theorem scene_any (c : Nat) (bs : List Int) (k : Nat) (w : World) (h : Codes w c bs k) :
    Calls Try.prog 12 #[.pointer (some ⟨c, 0, none⟩)] w (ScenePost c bs k w) := by
  have hcl := h.lt
  have hX3 := (Ext.refl w).allocs (.cells #[.slice none 0 0, .slice none 0 0, .slice none 0 0] 32)
  have hB3 := Blk.new w 32 #[.slice none 0 0, .slice none 0 0, .slice none 0 0]
  go_enter Try.func12, Try.ntmps12
  go_wp2_with fail
  refine (lineages_any c bs k _ (h.ext hX3) 18 (by omega)).mono ?_
  rintro e w2 ⟨base, gl, p, R, rfl, hn2, hn4, hbb, hgl, hL2, hM2, HO, hG, hAW, hAg, hD2⟩
  have hB32 := hB3.grown hD2.1 hcl
  have hD2' := hD2.pre hX3
  obtain ⟨g3, hg3⟩ : ∃ g3, w.heap.size = g3 := ⟨_, rfl⟩
  rw [hg3] at hB32
  have hz1 : (w.alloc (.cells #[.slice none 0 0, .slice none 0 0, .slice none 0 0] 32)).heap.size = g3 + 1 := by rw [← hg3]; simp
  rw [hz1] at hbb hgl hM2
  clear hz1 hB3 hX3 hD2
  obtain ⟨A0, c0, Ls, A1, c1, Ks, v2, As⟩ := p
  obtain ⟨A2, c2, hv2, _, _, _⟩ := own_slice hM2.a
  dsimp only at hv2
  subst hv2
  dsimp only at hn2 hn4
  have hRn : R.length = Ls.length := hG.len
  have hev : ∀ s ∈ R, s.es.length ≤ 60 := fun s hs => by
    obtain ⟨q, hq⟩ := List.mem_iff_getElem?.1 hs
    have h1 := hG.rl q s hq
    have h2 := (HO.lb q (by have := (List.getElem?_eq_some_iff.1 hq).1; show q < Ls.length; omega)).2
    omega
  have hok : ∀ s ∈ R, ∀ e ∈ s.es, e.ok := fun s hs e he => by
    obtain ⟨q, hq⟩ := List.mem_iff_getElem?.1 hs
    obtain ⟨k, hk⟩ := List.mem_iff_getElem?.1 he
    obtain ⟨⟨a0, b0⟩, ⟨a1, b1⟩, ⟨a2, b2⟩, ⟨a3, b3⟩, ⟨a4, b4⟩, ⟨a5, b5⟩, ⟨a6, b6⟩⟩ := (hG.ev q s k e hq hk).1
    exact ⟨⟨by omega, by omega⟩, ⟨by omega, by omega⟩, ⟨by omega, by omega⟩, ⟨by omega, by omega⟩, ⟨by omega, by omega⟩, ⟨by omega, by omega⟩, ⟨by omega, by omega⟩⟩
  have HOK := Lib.hid hok
  clear hok
  have HRL0 : Hid (R.length = Ls.length ∧ ∀ (q : Nat) (s : Rw), R[q]? = some s → (s.es.length : Int) = elX Ls q) := ⟨hRn, hG.rl⟩
  have HO := Lib.hid HO
  have hE5 : Ext w2 (w2.alloc (.cells #[.slice A0 Ls.length c0, .slice A1 Ks.length c1, .slice A2 As.length c2] 32)) := (Ext.refl w2).allocs _
  have hB5 := Blk.new w2 32 #[.slice A0 Ls.length c0, .slice A1 Ks.length c1, .slice A2 As.length c2]
  have h35 : g3 < w2.heap.size := hB32.lt
  go_wp2_with fail
  refine (next_on hD2' hE5 4 (by omega) (by omega)).mono ?_
  rintro e w6 ⟨r6, rfl, ⟨hr60, hr61⟩, hD6, hg6⟩
  have hcb : c < base := by omega
  have hcl' : c < gl := by omega
  have hL6 := (hL2.ext hE5).low hg6 (by omega) hcb
  have hM6 := (hM2.ext hE5).grown hg6 (by omega)
  have hB56 := hB5.grown hg6 (by omega)
  have hB36 := (hB32.ext hE5).grown hg6 (by omega)
  obtain ⟨g5, hg5⟩ : ∃ g5, w2.heap.size = g5 := ⟨_, rfl⟩
  rw [hg5] at hB56 h35
  have HG5 := Lib.hid hg5
  clear hL2 hM2 hB5 hB32 hE5 hg6 hD2' hg5
  have h3b : g3 < g3 + 1 := by omega
  have hw3 : w.heap.size ≤ g3 := by omega
  by_cases hk : r6 = 3
  · have dk : (r6 == 3) = true := by simp [hk]
    clear hk hr60 hr61
    try rw [HG5.out]
    have hsp := spoil_any c bs k w w6 base gl R hD6 hL6 hcb hcl' (by omega) hcl (by omega) (by omega) hev HOK.out
    rw [hRn] at hsp
    clear hRn
    go_wp2_with fail
    refine hsp.mono ?_
    clear hsp
    rintro e w7 ⟨rfl, R', hL, hlen, hrl, hko, hD, hW⟩
    have HRK := Lib.hid hko
    clear hko
    have hM := hW.pt hM6 (by omega) hAW
    have hB5 := hW.blk hL6 hcb hB56 (by decide) (by omega)
    have hB3 := hW.blk hL6 hcb hB36 (by decide) (by omega)
    rw [HRL0.out.1]
    have HRL : Hid (R'.length = Ls.length ∧ ∀ (q : Nat) (s : Rw), R'[q]? = some s → (s.es.length : Int) = elX Ls q) := ⟨hlen.trans HRL0.out.1, fun q s hs => by
      obtain ⟨s0, h0, hl⟩ := hrl q s hs
      rw [← hl]
      exact HRL0.out.2 q s0 h0⟩
    clear hlen hrl hW hL6 hM6 hB56 hB36 hD6 hev
    have hz := hB5.lt
    obtain ⟨⟨x0, x1, x2⟩, _, _, _⟩ := blk3 hB5
    obtain ⟨⟨z0, z1, z2⟩, y0, y1, y2⟩ := blk3 hB3
    clear hB5
    go_upto_region 4 with fail
    refine wp_region_sched (by kernel_rfl) 3 [(0, true), (1, true), (2, true), (3, false)] (fun w' => w'.cell? ⟨g5, 0, none⟩ = some (.slice A0 Ls.length c0) ∧ w'.cell? ⟨g5, 1, none⟩ = some (.slice A1 Ks.length c1) ∧ w'.cell? ⟨g5, 2, none⟩ = some (.slice A2 As.length c2)) (by kernel_rfl) (fun _ _ dd _ _ h => by cases dd <;> exact h) ⟨x0, x1, x2⟩ (fun hHeld => ?_)
    clear x0 x1 x2
    iterate 3 ((refine sched_read (v := ?_) rfl (Or.inl ⟨by rfl, ?_⟩) hHeld ?_; rotate_left 1; · (intro w' hSw; obtain ⟨t0, t1, t2⟩ := hSw; go_simp; (first | done | with_reducible rfl))); (try simp only [Act.put, List.setIfInBounds_toArray, List.set_cons_zero, List.set_cons_succ]))
    refine sched_tail rfl (by decide) (fun K hK => ?_)
    go_simp
    refine hK.out _ _ ?_
    clear hK K
    refine sched_done ?_
    have hE9 : Ext w7 w7.drew := Below.drew (Ext.refl w7)
    have hL9 := (hL.ext hE9)
    have hM9 := (hM.ext hE9)
    have HFIN : Hid (∀ v0 v1 v2 : Value, LinOwn (((w7.drew.setCell ⟨g3, 0, none⟩ v0).setCell ⟨g3, 1, none⟩ v1).setCell ⟨g3, 2, none⟩ v2) base gl R' ∧ PtMem (((w7.drew.setCell ⟨g3, 0, none⟩ v0).setCell ⟨g3, 1, none⟩ v1).setCell ⟨g3, 2, none⟩ v2) w.heap.size ⟨A0, c0, Ls, A1, c1, Ks, .slice A2 As.length c2, As⟩ ∧ Drew c bs k w (((w7.drew.setCell ⟨g3, 0, none⟩ v0).setCell ⟨g3, 1, none⟩ v1).setCell ⟨g3, 2, none⟩ v2)) := fun v0 v1 v2 => ⟨hL9.low (grown_sets3 _ g3 _ _ _) (by omega) (by omega), (hM9.put (hM9.farAway h3b) (grown_sets3 _ g3 _ _ _)).base (by omega), (((hD.post hE9).set hw3 hcl _).set hw3 hcl _).set hw3 hcl _⟩
    clear hL9 hM9 hL hM hD hB3
    go_wp2_with fail
    refine bodyPost_ret (v := .tuple #[.slice (some ⟨gl, 0, none⟩) Ls.length Ls.length, .agg #[.slice A0 Ls.length c0, .slice A1 Ks.length c1, .slice A2 As.length c2]]) (by simp [results, Try.results12, go_sem, *]) rfl ?_
    obtain ⟨hl9, hm9, hd9⟩ := HFIN.out (.slice A0 Ls.length c0) (.slice A1 Ks.length c1) (.slice A2 As.length c2)
    exact ⟨base, gl, ⟨A0, c0, Ls, A1, c1, Ks, .slice A2 As.length c2, As⟩, R', rfl, hn2, hn4, by omega, by omega, hl9, HRL.out.1, HRL.out.2, HRK.out, hm9, HO.out, hd9⟩
  · have dk : (r6 == 3) = false := by simp [hk]
    clear hk hr60 hr61 hRn hev
    obtain ⟨w7, hw7⟩ : ∃ w7, w6 = w7 := ⟨_, rfl⟩
    obtain ⟨R', hR'⟩ : ∃ R', R = R' := ⟨_, rfl⟩
    rw [hR'] at HRL0 hL6 HOK
    have HRK := HOK
    have HRL := HRL0
    have hL := hL6
    have hM := hM6
    have hB5 := hB56
    have hB3 := hB36
    have hD := hD6
    clear hL6 hM6 hB56 hB36 hD6
    rw [hw7] at hL hM hB5 hB3 hD ⊢
    try rw [HG5.out]
    clear hw7
    have hz := hB5.lt
    obtain ⟨⟨x0, x1, x2⟩, _, _, _⟩ := blk3 hB5
    obtain ⟨⟨z0, z1, z2⟩, y0, y1, y2⟩ := blk3 hB3
    clear hB5
    go_upto_region 4 with fail
    refine wp_region_sched (by kernel_rfl) 3 [(0, true), (1, true), (2, true), (3, false)] (fun w' => w'.cell? ⟨g5, 0, none⟩ = some (.slice A0 Ls.length c0) ∧ w'.cell? ⟨g5, 1, none⟩ = some (.slice A1 Ks.length c1) ∧ w'.cell? ⟨g5, 2, none⟩ = some (.slice A2 As.length c2)) (by kernel_rfl) (fun _ _ dd _ _ h => by cases dd <;> exact h) ⟨x0, x1, x2⟩ (fun hHeld => ?_)
    clear x0 x1 x2
    iterate 3 ((refine sched_read (v := ?_) rfl (Or.inl ⟨by rfl, ?_⟩) hHeld ?_; rotate_left 1; · (intro w' hSw; obtain ⟨t0, t1, t2⟩ := hSw; go_simp; (first | done | with_reducible rfl))); (try simp only [Act.put, List.setIfInBounds_toArray, List.set_cons_zero, List.set_cons_succ]))
    refine sched_tail rfl (by decide) (fun K hK => ?_)
    go_simp
    refine hK.out _ _ ?_
    clear hK K
    refine sched_done ?_
    have hE9 : Ext w7 w7.drew := Below.drew (Ext.refl w7)
    have hL9 := (hL.ext hE9)
    have hM9 := (hM.ext hE9)
    have HFIN : Hid (∀ v0 v1 v2 : Value, LinOwn (((w7.drew.setCell ⟨g3, 0, none⟩ v0).setCell ⟨g3, 1, none⟩ v1).setCell ⟨g3, 2, none⟩ v2) base gl R' ∧ PtMem (((w7.drew.setCell ⟨g3, 0, none⟩ v0).setCell ⟨g3, 1, none⟩ v1).setCell ⟨g3, 2, none⟩ v2) w.heap.size ⟨A0, c0, Ls, A1, c1, Ks, .slice A2 As.length c2, As⟩ ∧ Drew c bs k w (((w7.drew.setCell ⟨g3, 0, none⟩ v0).setCell ⟨g3, 1, none⟩ v1).setCell ⟨g3, 2, none⟩ v2)) := fun v0 v1 v2 => ⟨hL9.low (grown_sets3 _ g3 _ _ _) (by omega) (by omega), (hM9.put (hM9.farAway h3b) (grown_sets3 _ g3 _ _ _)).base (by omega), (((hD.post hE9).set hw3 hcl _).set hw3 hcl _).set hw3 hcl _⟩
    clear hL9 hM9 hL hM hD hB3
    go_wp2_with fail
    refine bodyPost_ret (v := .tuple #[.slice (some ⟨gl, 0, none⟩) Ls.length Ls.length, .agg #[.slice A0 Ls.length c0, .slice A1 Ks.length c1, .slice A2 As.length c2]]) (by simp [results, Try.results12, go_sem, *]) rfl ?_
    obtain ⟨hl9, hm9, hd9⟩ := HFIN.out (.slice A0 Ls.length c0) (.slice A1 Ks.length c1) (.slice A2 As.length c2)
    exact ⟨base, gl, ⟨A0, c0, Ls, A1, c1, Ks, .slice A2 As.length c2, As⟩, R', rfl, hn2, hn4, by omega, by omega, hl9, HRL.out.1, HRL.out.2, HRK.out, hm9, HO.out, hd9⟩
end Go.Proofs.Ytcljdkjlfciacaa
