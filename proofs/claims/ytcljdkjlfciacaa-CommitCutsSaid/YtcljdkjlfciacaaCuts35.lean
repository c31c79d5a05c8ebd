/- The walk of CommitCuts. No statement of the seat is proved here. -/
import Derived.Test.YtcljdkjlfciacaaPasts
import Derived.Test.YtcljdkjlfciacaaLower
namespace Go.Proofs.Ytcljdkjlfciacaa
open Go.RowKit
set_option linter.unusedVariables false

set_option maxRecDepth 100000 in
theorem wpList_catI {ops : Array Oper} {rest : List Oper} {o : Oper} {ac : Act} {Q : Exit → Act → World → Prop} (w : World) (hgd : o.guard = none) (s x : Operand) (ho : o.op = .call { callee := .builtin .append, args := #[s, x], argTypes := #[28, 28] })
    (base : Nat) (v : Value) (a b : List Int) (hs : ac.eval s = v) (hown : w.ownsRow base 3 1 v a.length (a.flatMap Iv)) (B : Option Addr) (c : Nat) (hx : ac.eval x = .slice B b.length c) (hb : IntSeg w B b) (hl : a.length + b.length ≤ 2000) (hbase : base ≤ w.heap.size)
    (h : ∀ v' w', w'.ownsRow base 3 1 v' (a ++ b).length ((a ++ b).flatMap Iv) → w.grownBy w' v.ownBlock → wpList Try.prog ops Q rest (ac.put o.dst v') w') : wpList Try.prog ops Q (o :: rest) ac w := by
  refine wpList_plain hgd fun K hK => ?_
  obtain ⟨i0, hi, hz0, hz1, hz2⟩ := info_parts (show (Try.prog.info? 3).map (fun i => (i.zero, i.size, i.bytes)) = some (some (.int .i64 0), 1, 8) by kernel_rfl)
  have hr : ∃ v' w', (Builtin.append_ #[28, 28] o.type #[v, .slice B b.length c]).run Try.prog w = .ok v' w' ∧ w'.ownsRow base 3 1 v' (a ++ b).length ((a ++ b).flatMap Iv) ∧ w.grownBy w' v.ownBlock := by
    cases B with
    | none =>
      have hl0 : b = [] := by
        cases b with
        | nil => rfl
        | cons x b =>
          obtain ⟨_, _, h, _⟩ := hb.2 (by simp)
          cases h
      subst hl0
      obtain ⟨A, cA, rfl, _, hle, _⟩ := own_slice hown
      refine ⟨_, _, run_append_nothing w _ _ o.type _ i0 Try.underlying28 hi A a.length cA hle _ (Src.ofNil w Try.underlying28 c), by rw [List.append_nil]; exact hown, World.grownBy.refl w _⟩
    | some ad =>
      have hnews : ∀ k u, (b.flatMap Iv)[k]? = some u → w.cell? (ad.add k) = some u := by
        intro k u hu
        have hk := (List.getElem?_eq_some_iff.1 hu).1
        rw [flat_len Iv 1 Iv.len] at hk
        obtain ⟨x, off, h, _, hc⟩ := hb.2 (by omega)
        injection h with h
        subst h
        have hadd : (⟨x, off, none⟩ : Addr).add k = ⟨x, off + k, none⟩ := by unfold Addr.add; split <;> simp_all
        rw [hadd]
        exact hc k u hu
      obtain ⟨v', w', hr, h2, h3, _, _⟩ := run_append_own_at (P := Try.prog) w base _ o.type _ i0 _ 1 8 Try.underlying28 hi hz0 hz1 hz2 rfl (by omega) v a.length _ hown ad b.length c (b.flatMap Iv) (flat_len Iv 1 Iv.len b) hnews (fun u hu => by obtain ⟨z, _, hz⟩ := List.mem_flatMap.1 hu; exact Iv.one z u hz) (by unfold maxLen; omega) (by omega) hbase
      exact ⟨v', w', hr, by rw [List.length_append, List.flatMap_append]; exact h2, h3⟩
  obtain ⟨v', w', hr, h2, h3⟩ := hr
  unfold Oper.wp execOp
  simp only [ho, resolve, invoke, builtin, Sem.run_bind, Sem.run_pure, Result.andThen_ok, List.map_toArray, List.map_cons, List.map_nil, hs, hx, hr]
  exact hK _ _ (h v' w' h2 h3)

/-- the past of an index of the maker's lineages -/
theorem lin_past {p : Pt} {R : List Rw} {N : Nat} (hO : PtOk p.Ls.length N p) (hG : LinGood p R) {q : Nat} {k : Int} (hq : q < p.Ls.length) (h0 : 0 ≤ k) (h1 : k ≤ elX p.Ls q) :
    ∃ X, pastL (evsL R) (q : Int) k = X ∧ IsPast (evsL R) q k (some X) ∧ X.length = p.Ls.length ∧ elX X q = k ∧ (k = 0 → ∀ r, r < p.Ls.length → elX X r = 0) := by
  obtain ⟨V, hV, hb, hc⟩ := hO.gd q hq k h0 h1
  have hl : (evsL R).length = p.Ls.length := by rw [evsL_len, hG.len]
  have hrow : ∀ r, r < p.Ls.length → ((rowL (evsL R) r).length : Int) = elX p.Ls r := fun r hr => by
    have hr' : r < R.length := by rw [hG.len]; exact hr
    rw [evsL_row hr']
    exact hG.rl r R[r] (List.getElem?_eq_getElem hr')
  have hev : ∀ (U : Nat → Int), (∀ a ∈ p.As, 0 < a.at_ → a.at_ ≤ U a.dst.toNat → a.idx ≤ U a.frm.toNat) → ∀ (r k : Nat) (e : Ev), r < (evsL R).length → (k : Int) < U r → (rowL (evsL R) r)[k]? = some e → e.kind = 1 → sentB (evsL R) r e = true ∧ e.sidx ≤ U e.frm.toNat := fun U hU r k e hr hk he h1 => by
    have hr' : r < R.length := by rw [evsL_len] at hr; exact hr
    rw [evsL_row hr'] at he
    rcases (hG.ev r R[r] k e (List.getElem?_eq_getElem hr') he).2 with h2 | ⟨_, hs, a, ha, hd, hat, hf, hx⟩
    · omega
    · refine ⟨hs, ?_⟩
      have := hU a ha (by omega) (by rw [hd, hat]; show (k : Int) + 1 ≤ U ((r : Int)).toNat; rw [Int.toNat_natCast]; omega)
      rw [← hx, ← hf]
      exact this
  have hGV : GoodY (evsL R) q k V := ⟨by omega, fun r hr => (hb r (by omega)).1, fun r hr => by rw [hrow r (by omega)]; exact (hb r (by omega)).2, hev V hc⟩
  rcases pastL_cases (L := evsL R) (p := q) (i := k) (by omega) h0 (by rw [hrow q hq]; exact h1) with ⟨_, hn⟩ | ⟨X, hX, hI, hXl⟩
  · exact absurd hGV (hn V)
  · refine ⟨X, hX, hI, by rw [hXl, hl], ?_, fun hk r hr => ?_⟩
    · have h2 := hI.2.2 V hGV q (by omega)
      have h3 := hI.2.1.start
      omega
    · subst hk
      have hz : GoodY (evsL R) q 0 (fun _ => 0) := ⟨Int.le_refl _, fun _ _ => Int.le_refl _, fun r hr => by omega, fun r k e _ hk => absurd hk (by show ¬ (k : Int) < 0; omega)⟩
      have h2 := hI.2.2 _ hz r (by omega)
      have h3 := hI.2.1.lo r (by omega)
      (try dsimp only at h2)
      omega
theorem sent_fits {L : Lin} {X : List Int} {q : Nat} {e : Ev} : fitsB L X (q : Int) e = ((e.kind != 1) || (sentB L q e && decide (e.sidx ≤ elX X e.frm.toNat))) := by
  unfold fitsB sentB
  cases (e.kind != 1) <;> cases decide (0 ≤ e.frm) <;> cases decide (e.frm < (L.length : Int)) <;> cases (e.frm != (q : Int)) <;> cases decide (e.sidx ≤ elX X e.frm.toNat) <;> cases labB (rowL L e.frm.toNat) e.sinc e.sidx <;> rfl
theorem cons_of_past {L : Lin} {q : Nat} {k : Int} {X : List Int} (h : IsPast L q k (some X)) : Cons L X :=
  ⟨h.1, h.2.1.lo, h.2.1.hi, fun r j e hr hj he => by
    rw [sent_fits]
    by_cases h1 : e.kind = 1
    · obtain ⟨h2, h3⟩ := h.2.1.evs r j e hr hj he h1
      rw [h2, decide_eq_true h3]; simp
    · simp [h1]⟩
theorem good_of_cons {L : Lin} {q : Nat} {k : Int} {Z : List Int} (h : Cons L Z) (hk : k ≤ elX Z q) : GoodY L q k (elX Z) :=
  ⟨hk, h.lo, h.hi, fun r j e hr hj he h1 => by
    have h2 := h.fit r j e hr hj he
    rw [sent_fits, h1] at h2
    simpa using h2⟩
theorem lower_less {L : Lin} {q s : Nat} {k : Int} {X Z : List Int} (h : IsPast L q k (some X)) (hs : s < L.length) (h0 : 0 < elX X s) (hY : YInv L (X.set s (elX X s - 1)) Z) (hC : Cons L Z) : elX Z q < k := by
  by_cases hlt : elX Z q < k
  · exact hlt
  · have h1 := h.2.2 _ (good_of_cons hC (by omega)) s hs
    have h2 := hY.hi s hs
    unfold clampY at h2
    rw [if_pos (by rw [List.length_set, h.1]; exact hs), elX_set _ _ _ _ (by rw [h.1]; exact hs), if_pos rfl] at h2
    omega
/-- the copy of a list -/
theorem copy_own {w8 w9 : World} {v9 : Value} {X : List Int} {n : Nat} (hown : w9.ownsRow w8.heap.size 3 1 v9 ([] ++ X).length (([] ++ X).flatMap Iv)) (hg : w8.grownBy w9 (Value.slice none 0 0).ownBlock) (hl : X.length = n) (hn : 0 < n) :
    ∃ gy cy, v9 = .slice (some ⟨gy, 0, none⟩) n cy ∧ w8.heap.size ≤ gy ∧ w9.ownsRow w8.heap.size 3 1 (.slice (some ⟨gy, 0, none⟩) n cy) n (X.flatMap Iv) ∧ Ext w8 w9 := by
  rw [List.nil_append, hl] at hown
  obtain ⟨g, cap, e, h1, h2⟩ := hown.form hn
  exact ⟨g, cap, e, h1, by rw [← e]; exact hown, ⟨hg.os, hg.tape, hg.output, hg.size, fun k hk => hg.block k hk (by simp [Value.ownBlock])⟩⟩
theorem own_cellI {w : World} {b g c n : Nat} {X : List Int} (h : w.ownsRow b 3 1 (.slice (some ⟨g, 0, none⟩) n c) n (X.flatMap Iv)) (hl : X.length = n) {s : Nat} (hs : s < n) : w.cell? ⟨g, s, none⟩ = some (.int .i64 (elX X s)) := by
  have hi : X[s]? = some (elX X s) := by unfold elX; rw [List.getD_eq_getElem?_getD, List.getElem?_eq_getElem (by omega)]; rfl
  have h1 := h.cellAt (s * 1 + 0) (by omega)
  rw [flat_get Iv 1 Iv.len X s 0 _ hi (by omega)] at h1
  simpa [Iv] using h1
theorem own_setI {w : World} {b g c n : Nat} {X : List Int} (h : w.ownsRow b 3 1 (.slice (some ⟨g, 0, none⟩) n c) n (X.flatMap Iv)) (hl : X.length = n) {s : Nat} (hs : s < n) (v : Int) : (w.setCell ⟨g, s, none⟩ (.int .i64 v)).ownsRow b 3 1 (.slice (some ⟨g, 0, none⟩) n c) n ((X.set s v).flatMap Iv) := by
  have h2 := (h.stored (s * 1 + 0) (.int .i64 v)).1
  rw [flat_set1 Iv 1 (by omega) Iv.len X s v (by omega) 0 (by omega) _ (by simp [Iv])] at h2
  simpa using h2
def CcRel (w5 : World) (n : Nat) (X : List Int) (g : Nat) (zv sv : Value) (wr : World) : Prop :=
  ∃ (s : Nat) (z : Bool), s ≤ n ∧ zv = .bool z ∧ sv = .int .i64 s ∧ g = n - s ∧ Ext w5 wr ∧ Hid (z = true ↔ ∀ r, r < s → elX X r = 0)
set_option maxRecDepth 100000 in
set_option maxHeartbeats 3200000 in
theorem cuts_walk (a3 : Option Addr) (cap3 : Nat) (bs : List Int) (w : World)
    (h3 : Seg w 1 a3 bs.length (bs.map (Value.int .u8)) ∧ bs.length ≤ cap3 ∧ cap3 ≤ maxLen ∧ ∀ b ∈ bs, 0 ≤ b ∧ b < 256) :
    Calls Try.prog 6 #[.slice a3 bs.length cap3] w fun e w' => e = .returned (.bool true) ∧ Below w.heap.size w w' := by
  obtain ⟨hb, hb1, hb2, hb3⟩ := h3
  have HB3 := Lib.hid hb3
  have HB := Lib.hid hb
  clear hb3 hb
  have hb2' := hb2
  unfold maxLen at hb2'
  go_enter Try.func6, Try.ntmps6
  go_wp2_with fail
  refine (awake_any w).mono ?_
  rintro e w2 ⟨rfl, hE2'⟩
  go_wp2_with fail
  refine (new_any a3 cap3 bs 200 w2 (HB.out.ext hE2') hb1 hb2 (by omega) HB3.out).mono ?_
  rintro e w3 ⟨rfl, hC3, hE3⟩
  obtain ⟨c, hcw⟩ : ∃ c, w2.heap.size = c := ⟨_, rfl⟩
  rw [hcw] at hC3
  have hc0' : w.heap.size ≤ c := by have := hE2'.size; omega
  have hE3' := hE2'.trans hE3
  have hc3 : c < w3.heap.size := hC3.lt
  try rw [hcw]
  clear hcw hE3 hE2'
  go_wp2_with fail
  refine (lineages_any c _ 0 w3 hC3 24 (by omega)).mono ?_
  rintro e w4 ⟨base, gl, p, R, rfl, hn2, hn4, hb4, hgl4, hL4, hM4, hO4, hG4, -, -, hD4⟩
  have HPA : Hid (∀ (q : Nat) (k : Int), q < p.Ls.length → 0 ≤ k → k ≤ elX p.Ls q → ∃ X, pastL (evsL R) (q : Int) k = X ∧ IsPast (evsL R) q k (some X) ∧ X.length = p.Ls.length ∧ elX X q = k ∧ (k = 0 → ∀ r, r < p.Ls.length → elX X r = 0)) := fun q k hq h0 h1 => lin_past hO4 hG4 hq h0 h1
  have hRl : R.length = p.Ls.length := hG4.len
  have HRW : Hid (∀ r, r < p.Ls.length → ((rowL (evsL R) r).length : Int) = elX p.Ls r) := fun r hr => by
    have hr' : r < R.length := by rw [hG4.len]; exact hr
    rw [evsL_row hr']
    exact hG4.rl r R[r] (List.getElem?_eq_getElem hr')
  obtain ⟨A0, c0, Ls, A1, c1, Ks, v2, As⟩ := p
  obtain ⟨A2, c2, hv2, _, _, _⟩ := own_slice hM4.a
  dsimp only at hv2
  subst hv2
  dsimp only at hn2 hn4 hRl
  have hSc : ScAt c (bs.take 200) 0 w3 base gl ⟨A0, c0, Ls, A1, c1, Ks, .slice A2 As.length c2, As⟩ R w4 := ⟨hD4, hL4, hM4⟩
  have HRl := Lib.hid hRl
  have HO := Lib.hid hO4
  clear hL4 hM4 hD4 hRl hO4 hC3 hG4
  have hX5 := (Ext.refl w4).allocs (.cells #[.slice A0 Ls.length c0, .slice A1 Ks.length c1, .slice A2 As.length c2] 32)
  have hB5 := Blk.new w4 32 #[.slice A0 Ls.length c0, .slice A1 Ks.length c1, .slice A2 As.length c2]
  have hc4 : c < w4.heap.size := by have := hSc.d.1.size; omega
  have hSc5 := hSc.ext hX5
  obtain ⟨w5, hw5⟩ : ∃ w5, w4.alloc (.cells #[.slice A0 Ls.length c0, .slice A1 Ks.length c1, .slice A2 As.length c2] 32) = w5 := ⟨_, rfl⟩
  obtain ⟨g5, hg5⟩ : ∃ g5, w4.heap.size = g5 := ⟨_, rfl⟩
  go_upto_region 5 with fail
  rw [hw5] at hB5 hSc5
  try rw [hw5]
  rw [hg5] at hB5 hc4
  try rw [hg5]
  clear hX5 hw5 hSc hg5
  go_wp2_with fail
  refine (next_on hSc5.d (Ext.refl _) (Ls.length : Int) (by omega) (by omega)).mono ?_
  rintro e w6 ⟨q, rfl, ⟨hq0, hq1⟩, hD6, hg6⟩
  have HSc := Lib.hid (hSc5.draw hD6 hg6 hc3 hb4 hgl4)
  have hB6 := hB5.grown hg6 hc4
  clear hSc5 hB5 hD6 hg6
  obtain ⟨q, rfl⟩ : ∃ qn : Nat, q = (qn : Int) := ⟨q.toNat, by omega⟩
  have hlt : q < Ls.length := by omega
  have hlb := HO.out.lb q hlt
  dsimp only at hlb
  obtain ⟨bL, oL, hAL, pq⟩ := Iv.at_ HSc.out.m.l hlt
  rw [← elX_at hlt] at pq
  dsimp only at hAL
  subst hAL
  obtain ⟨⟨x0, _, _⟩, _, _, _⟩ := blk3 hB6
  have HB6 := Lib.hid hB6
  clear hB6
  have hw1 : IntKind.i64.wrap (elX Ls q + 1) = elX Ls q + 1 := IntWalk.i64_in _ (by omega)
  go_upto_region 6 with fail
  refine wp_region_sched (by kernel_rfl) 14 [(0, true), (1, true), (2, true), (3, true), (4, true), (5, true), (6, true), (7, true), (8, true), (9, true), (10, true), (11, true), (12, false), (13, true), (14, false)] (fun w' => w'.cell? ⟨g5, 0, none⟩ = some (.slice (some ⟨bL, oL, none⟩) Ls.length c0) ∧ w'.cell? ⟨bL, oL + q, none⟩ = some (.int .i64 (elX Ls q))) (by kernel_rfl) (fun _ _ dd _ _ h => by cases dd <;> exact h) ⟨x0, pq⟩ (fun hHeld => ?_)
  clear x0 pq
  iterate 12 ((refine sched_read (v := ?_) rfl (Or.inl ⟨by rfl, ?_⟩) hHeld ?_; rotate_left 1; · (intro w' hSw; obtain ⟨t0, t1⟩ := hSw; go_simp; (first | done | with_reducible rfl))); (try simp only [Act.put, List.setIfInBounds_toArray, List.set_cons_zero, List.set_cons_succ]))
  refine sched_eff rfl (fun K hK => ?_)
  go_simp
  refine (next_on HSc.out.d (Below.drew (Ext.refl _)) (elX Ls q + 1) (by omega) (by omega)).mono ?_
  rintro e w8 ⟨r8, rfl, ⟨hr80, hr81⟩, hD8, hg8⟩
  have HSc8 := Lib.hid ((HSc.out.ext (Below.drew (Ext.refl _))).draw hD8 hg8 hc3 hb4 hgl4)
  obtain ⟨⟨x0, _, _⟩, _, _, _⟩ := blk3 ((HB6.out.ext (Below.drew (Ext.refl _))).grown hg8 hc4)
  have pq := Iv.cellX HSc8.out.m.l hlt
  have hw2 : IntKind.i64.wrap (elX Ls q - r8) = elX Ls q - r8 := IntWalk.i64_in _ (by omega)
  clear hD8 hg8
  go_wp2_with fail
  refine hK.out _ _ ⟨x0, pq⟩ (fun hHeld => ?_)
  clear hK K x0 pq
  try simp only [Act.put, List.setIfInBounds_toArray, List.set_cons_zero, List.set_cons_succ]
  iterate 1 ((refine sched_read (v := ?_) rfl (Or.inl ⟨by rfl, ?_⟩) hHeld ?_; rotate_left 1; · (intro w' hSw; obtain ⟨t0, t1⟩ := hSw; go_simp; (first | done | with_reducible rfl))); (try simp only [Act.put, List.setIfInBounds_toArray, List.set_cons_zero, List.set_cons_succ]))
  refine sched_tail rfl (by decide) (fun K hK => ?_)
  go_simp
  refine hK.out _ _ ?_
  clear hK K
  refine sched_done ?_
  obtain ⟨k, hk⟩ : ∃ k, elX Ls q - r8 = k := ⟨_, rfl⟩
  obtain ⟨X, hX, hIP, hXl, hXq, hX0⟩ := HPA.out q k hlt (by omega) (by show k ≤ elX Ls q; omega)
  (try dsimp only at hXl); (try dsimp only at hX0)
  try rw [hk]
  have hE8 := HSc8.out.d.ext hE3' hc0'
  have HIP := Lib.hid hIP
  have HXl := Lib.hid hXl
  have HX0 := Lib.hid hX0
  have HXq := Lib.hid hXq
  have HCO := Lib.hid (cons_of_past hIP)
  clear HSc HB6 hw1 hw2 hX0 hIP hXq
  have hk0 : 0 ≤ k := by omega
  clear hk hr80 hr81 hlb HPA
  have hR4 : R.length ≤ 1000 := by have := HRl.out; omega
  have hp := past_code (some ⟨gl, 0, none⟩) Ls.length R q k _ HSc8.out.l.seg hR4
  rw [HRl.out, hX] at hp
  have HP := Lib.hid hp
  clear hp hX
  go_wp2_with fail
  refine HP.out.mono ?_
  rintro e w9 ⟨B1, d1, he, hI1, hl1, hl1', hE9⟩
  rw [hXl] at he hl1
  subst he
  have HSc9 := Lib.hid (HSc8.out.ext hE9)
  have hE9' := hE8.trans hE9
  have HI1 := Lib.hid hI1
  clear HP HSc8 hE8 hE9 hXl hI1
  have hne : ((Ls.length : Int) != (Ls.length : Int)) = false := by simp
  have hcon := consistent_yes (some ⟨gl, 0, none⟩) Ls.length R B1 d1 X w9 HSc9.out.l.seg hR4 HI1.out HCO.out
  rw [HRl.out] at hcon
  have HCON := Lib.hid hcon
  clear hcon
  go_wp2_with fail
  refine HCON.out.mono ?_
  rintro e w10 ⟨rfl, hE10⟩
  have HSc10 := Lib.hid (HSc9.out.ext hE10)
  have HI10 := Lib.hid (HI1.out.ext hE10)
  have hE10' := hE9'.trans hE10
  clear HCON HSc9 HI1 hE9' hE10
  have hqX : q < X.length := by rw [HXl.out]; exact hlt
  obtain ⟨bX, oX, hAX, pX⟩ := Iv.at_ HI10.out hqX
  rw [← elX_at hqX, HXq.out] at pX
  subst hAX
  have hnk : (k != k) = false := by simp
  have hq0' : (0 : Int) ≤ (q : Int) := by omega
  have hq1' : (q : Int) < (Ls.length : Int) := by omega
  go_wp2_with fail
  clear pX
  go_loopg [9, 10] Ls.length (fun g zv sv wr => CcRel w10 Ls.length X g zv sv wr)
  case atStart => exact ⟨0, true, Nat.zero_le _, rfl, rfl, rfl, Ext.refl _, (⟨fun _ r hr => absurd hr (Nat.not_lt_zero _), fun _ => rfl⟩ : _ ↔ _)⟩
  case round =>
    rename World => wl
    obtain ⟨s, z, hs, rfl, rfl, rfl, hE, HZ⟩ := hrel
    have HE := Lib.hid hE
    clear hE
    by_cases hsl : s < Ls.length
    · have hsX : s < X.length := by rw [HXl.out]; exact hsl
      have pX := (HI10.out.ext HE.out)
      have pX := Iv.cellX pX hsX
      have hs0 : (0 : Int) ≤ (s : Int) := by omega
      have hs1 : (s : Int) < (Ls.length : Int) := by omega
      have hxlo := HCO.out.lo s (by rw [evsL_len, HRl.out]; exact hsl)
      have hxhi := HCO.out.hi s (by rw [evsL_len, HRl.out]; exact hsl)
      obtain ⟨z', hz'⟩ : ∃ z', (z && (elX X s == 0)) = z' := ⟨_, rfl⟩
      have HZ' : Hid (z' = true ↔ ∀ r, r < s + 1 → elX X r = 0) := by
        show _ ↔ _
        rw [← hz', Bool.and_eq_true, beq_iff_eq, HZ.out]
        constructor
        · intro ⟨h1, h2⟩ r hr
          by_cases h : r = s
          · subst h; exact h2
          · exact h1 r (by omega)
        · intro h
          exact ⟨fun r hr => h r (by omega), h s (by omega)⟩
      by_cases hxs : 0 < elX X s
      · have dx : decide (0 < elX X s) = true := decide_eq_true hxs
        have dx0 : (elX X s == 0) = false := by rw [beq_eq_false_iff_ne]; omega
        have hzf : z' = false := by rw [← hz', dx0, Bool.and_false]
        subst hzf
        clear hz'
        have hXm : elX X s ≤ 60 := by
          have h1 := HO.out.lb s hsl
          have h2 := HRW.out s hsl
          dsimp only at h1
          omega
        have hw3 : IntKind.i64.wrap (elX X s - 1) = elX X s - 1 := IntWalk.i64_in _ (by omega)
        have hwI := (HI10.out.ext HE.out)
        have HWI := Lib.hid hwI
        clear hwI
        cases z with
        | false =>
          go_wp2_with (at_builtin; go_loud (refine wpList_catI wl rfl _ _ rfl wl.heap.size (.slice none 0 0) [] X rfl (own_nil wl wl.heap.size 3 1 Iv) (some ⟨bX, oX, none⟩) d1 (by rw [HXl.out]; rfl) HWI.out (by rw [HXl.out]; simp; omega) (Nat.le_refl _) ?_; intro v9 w9 hown9 hg9; obtain ⟨gy, cy, rfl, hgy, hO9, hE9⟩ := copy_own hown9 hg9 HXl.out (by omega); have HO9 := Lib.hid hO9; have HE9 := Lib.hid hE9; have py := own_cellI hO9 HXl.out hsl; have pf := hO9.frozenAt s; clear hown9 hg9 hO9 hE9))
          have hO10 := own_setI HO9.out HXl.out hsl (elX X s - 1)
          have hE10 := HE9.out.set hgy (o := s) (.int .i64 (elX X s - 1))
          have HLW : Hid (Calls Try.prog 26 #[.slice (some ⟨gl, 0, none⟩) Ls.length Ls.length, .slice (some ⟨gy, 0, none⟩) Ls.length cy] (w9.setCell ⟨gy, s, none⟩ (.int .i64 (elX X s - 1))) (LowPost (evsL R) (X.set s (elX X s - 1)) (w9.setCell ⟨gy, s, none⟩ (.int .i64 (elX X s - 1))))) := by
            have h := lower_any (some ⟨gl, 0, none⟩) Ls.length R (some ⟨gy, 0, none⟩) cy (X.set s (elX X s - 1)) (w9.setCell ⟨gy, s, none⟩ (.int .i64 (elX X s - 1))) (HSc10.out.ext (HE.out.trans hE10)).l.seg hR4 (by have := Seg.of_own hO10; unfold IntSeg; rw [List.length_set, HXl.out]; exact this) (by show _ = _; rw [List.length_set, HXl.out, HRl.out])
            rw [HRl.out] at h
            exact h
          have HE10 := Lib.hid hE10
          clear hO10 hE10
          refine HLW.out.mono ?_
          rintro e w11 ⟨AZ, cZ, Z, he, hIZ, hlZ, hmZ, hE11, hYI, hCZ⟩
          have hZl : Z.length = Ls.length := by rw [hCZ.len, evsL_len, HRl.out]
          have hZq : elX Z q < k := lower_less HIP.out (by rw [evsL_len, HRl.out]; exact hsl) hxs hYI hCZ
          rw [hZl] at he
          subst he
          have pZ := Iv.at_ hIZ (show q < Z.length by rw [hZl]; exact hlt)
          obtain ⟨bZ, oZ, hAZ, pZ⟩ := pZ
          rw [← elX_at (show q < Z.length by rw [hZl]; exact hlt)] at pZ
          subst hAZ
          have dZ : decide (k ≤ elX Z q) = false := decide_eq_false (by omega)
          have HE11 := Lib.hid (HE.out.trans (HE10.out.trans hE11))
          clear hIZ hlZ hmZ hE11 hYI hCZ hZl py pf HLW hZq
          go_wp2_with fail
          go_roundg (Ls.length - (s + 1))
          case measure => omega
          case rel => exact ⟨s + 1, false, by omega, rfl, by go_num, rfl, HE11.out, HZ'⟩
        | true =>
          go_wp2_with (at_builtin; go_loud (refine wpList_catI wl rfl _ _ rfl wl.heap.size (.slice none 0 0) [] X rfl (own_nil wl wl.heap.size 3 1 Iv) (some ⟨bX, oX, none⟩) d1 (by rw [HXl.out]; rfl) HWI.out (by rw [HXl.out]; simp; omega) (Nat.le_refl _) ?_; intro v9 w9 hown9 hg9; obtain ⟨gy, cy, rfl, hgy, hO9, hE9⟩ := copy_own hown9 hg9 HXl.out (by omega); have HO9 := Lib.hid hO9; have HE9 := Lib.hid hE9; have py := own_cellI hO9 HXl.out hsl; have pf := hO9.frozenAt s; clear hown9 hg9 hO9 hE9))
          have hO10 := own_setI HO9.out HXl.out hsl (elX X s - 1)
          have hE10 := HE9.out.set hgy (o := s) (.int .i64 (elX X s - 1))
          have HLW : Hid (Calls Try.prog 26 #[.slice (some ⟨gl, 0, none⟩) Ls.length Ls.length, .slice (some ⟨gy, 0, none⟩) Ls.length cy] (w9.setCell ⟨gy, s, none⟩ (.int .i64 (elX X s - 1))) (LowPost (evsL R) (X.set s (elX X s - 1)) (w9.setCell ⟨gy, s, none⟩ (.int .i64 (elX X s - 1))))) := by
            have h := lower_any (some ⟨gl, 0, none⟩) Ls.length R (some ⟨gy, 0, none⟩) cy (X.set s (elX X s - 1)) (w9.setCell ⟨gy, s, none⟩ (.int .i64 (elX X s - 1))) (HSc10.out.ext (HE.out.trans hE10)).l.seg hR4 (by have := Seg.of_own hO10; unfold IntSeg; rw [List.length_set, HXl.out]; exact this) (by show _ = _; rw [List.length_set, HXl.out, HRl.out])
            rw [HRl.out] at h
            exact h
          have HE10 := Lib.hid hE10
          clear hO10 hE10
          refine HLW.out.mono ?_
          rintro e w11 ⟨AZ, cZ, Z, he, hIZ, hlZ, hmZ, hE11, hYI, hCZ⟩
          have hZl : Z.length = Ls.length := by rw [hCZ.len, evsL_len, HRl.out]
          have hZq : elX Z q < k := lower_less HIP.out (by rw [evsL_len, HRl.out]; exact hsl) hxs hYI hCZ
          rw [hZl] at he
          subst he
          have pZ := Iv.at_ hIZ (show q < Z.length by rw [hZl]; exact hlt)
          obtain ⟨bZ, oZ, hAZ, pZ⟩ := pZ
          rw [← elX_at (show q < Z.length by rw [hZl]; exact hlt)] at pZ
          subst hAZ
          have dZ : decide (k ≤ elX Z q) = false := decide_eq_false (by omega)
          have HE11 := Lib.hid (HE.out.trans (HE10.out.trans hE11))
          clear hIZ hlZ hmZ hE11 hYI hCZ hZl py pf HLW hZq
          go_wp2_with fail
          go_roundg (Ls.length - (s + 1))
          case measure => omega
          case rel => exact ⟨s + 1, false, by omega, rfl, by go_num, rfl, HE11.out, HZ'⟩
      · have dx : decide (0 < elX X s) = false := decide_eq_false hxs
        have dx0 : (elX X s == 0) = true := by rw [beq_iff_eq]; omega
        rw [dx0, Bool.and_true] at hz'
        subst hz'
        cases z with
        | false =>
          go_wp2_with fail
          go_roundg (Ls.length - (s + 1))
          case measure => omega
          case rel => exact ⟨s + 1, false, by omega, rfl, by go_num, rfl, HE.out, HZ'⟩
        | true =>
          have HZ2 := Lib.hid (HZ'.out.1 rfl)
          go_wp2_with fail
          go_roundg (Ls.length - (s + 1))
          case measure => omega
          case rel => exact ⟨s + 1, true, by omega, rfl, by go_num, rfl, HE.out, (⟨fun _ => HZ2.out, fun _ => rfl⟩ : _ ↔ _)⟩
    · obtain rfl : s = Ls.length := by omega
      by_cases hk1 : k = 0
      · have dk : (k == 0) = true := by simp [hk1]
        have hz1 : z = true := HZ.out.2 (HX0.out hk1)
        subst hz1
        go_wp2_with fail
        go_ret
        exact ⟨rfl, hE10'.trans HE.out⟩
      · have dk : (k == 0) = false := by simp [hk1]
        have hz1 : z = false := by
          cases z with
          | false => rfl
          | true => exact absurd ((HZ.out.1 rfl q hlt).symm.trans HXq.out).symm hk1
        subst hz1
        go_wp2_with fail
        go_ret
        exact ⟨rfl, hE10'.trans HE.out⟩
end Go.Proofs.Ytcljdkjlfciacaa
