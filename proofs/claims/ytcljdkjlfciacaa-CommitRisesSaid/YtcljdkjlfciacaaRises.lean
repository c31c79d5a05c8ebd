/- The walk of CommitRises. No statement of the seat is proved here. -/
import Derived.Test.YtcljdkjlfciacaaMonoPlain
namespace Go.Proofs.Ytcljdkjlfciacaa
open Go.RowKit
set_option linter.unusedVariables false

def RsE (w5 : World) (n : Nat) (g : Nat) (iv : Value) (wr : World) : Prop := ∃ q : Nat, q ≤ n ∧ iv = .int .i64 q ∧ g = n - q ∧ Ext w5 wr
structure GB {α : Type} (f : α → List Value) (sz lo b : Nat) (A : Option Addr) (W : World) (G : List (Gr α)) : Prop where
  s : GSeg f sz W A G
  a : ∀ ad, A = some ad → lo ≤ ad.block ∧ ad.block < b
  r : ∀ r ∈ G, 0 < r.l.length → ∀ ad, r.A = some ad → lo ≤ ad.block ∧ ad.block < b
section
variable {α : Type} {f : α → List Value} {sz lo b : Nat} {A : Option Addr} {W W' : World} {G : List (Gr α)}
theorem GB.ext (h : GB f sz lo b A W G) (hE : Ext W W') : GB f sz lo b A W' G := ⟨h.s.ext hE, h.a, h.r⟩
theorem GB.grown (h : GB f sz lo b A W G) {g : Nat} (hg : W.grownBy W' (some g)) (hn : g < lo ∨ b ≤ g) : GB f sz lo b A W' G :=
  ⟨⟨h.s.1.grown hg (fun _ ad ha e => by injection e with e; have := h.a ad ha; omega), fun r hr => ⟨(h.s.2 r hr).1.grown hg (fun hl ad ha e => by injection e with e; have := h.r r hr hl ad ha; omega), (h.s.2 r hr).2⟩⟩, h.a, h.r⟩
theorem GOwn.gb {t tR : TypeId} {base gl : Nat} (h : GOwn f sz t tR W base gl G) (hb : lo ≤ base) (hl : lo ≤ gl) : GB f sz lo W.heap.size (some ⟨gl, 0, none⟩) W G :=
  ⟨h.seg, fun ad ha => by injection ha with ha; subst ha; exact ⟨hl, h.b.lt⟩, fun r hr hn ad ha => by
    obtain ⟨q, hq⟩ := List.mem_iff_getElem?.1 hr
    have ho := h.r q r hq
    obtain ⟨g, cap, e, h1, h2⟩ := ho.form hn
    injection e with e1
    rw [ha] at e1
    injection e1 with e1
    subst e1
    have := ho.lt g (by unfold Gr.val; rw [ha]; rfl)
    exact ⟨by show lo ≤ g; omega, this.2⟩⟩
end
theorem TbL.ofOwn {W : World} {base lo b gm n cm : Nat} {A : Option Addr} {G : List (Gr Dt)} (h : W.ownsRow base 44 1 (.slice (some ⟨gm, 0, none⟩) n cm) n (G.flatMap Gr.cells)) (hG : GB Dt.cells 9 lo b A W G) (hn : G.length = n) (hlo : lo ≤ gm) (hb : b ≤ gm) : TbL W lo gm G := by
  obtain ⟨cs, hB⟩ := own_blk h (g := gm) rfl
  refine ⟨⟨cs, hB, fun q s hs => ?_⟩, fun s hs => hG.s.2 s hs, fun s hs hl ad ha => by have := hG.r s hs hl ad ha; exact ⟨this.1, by omega⟩, hlo⟩
  have hq := (List.getElem?_eq_some_iff.1 hs).1
  have h1 := h.cellAt (q * 1 + 0) (by omega)
  rw [flat_get Gr.cells 1 Gr.len G q 0 _ hs (by omega), hB.cell] at h1
  rw [show q * 1 + 0 = q by omega] at h1
  exact h1
/-- the first state: the cuts -/
structure RyAt (c : Nat) (bs : List Int) (w : World) (base gl : Nat) (R : List Rw) (gx cx gy cy n : Nat) (X Y : List Int) (W : World) : Prop where
  ln : LnAt c bs 0 w base gl R gy cy n Y W
  x : W.ownsRow w.heap.size 3 1 (.slice (some ⟨gx, 0, none⟩) n cx) n (X.flatMap Iv)
section
variable {c : Nat} {bs : List Int} {w : World} {base gl : Nat} {R : List Rw} {gx cx gy cy n : Nat} {X Y : List Int} {W W' : World}
theorem RyAt.ext (h : RyAt c bs w base gl R gx cx gy cy n X Y W) (hE : Ext W W') : RyAt c bs w base gl R gx cx gy cy n X Y W' := ⟨h.ln.ext hE, own_ext h.x hE⟩
theorem RyAt.draw (h : RyAt c bs w base gl R gx cx gy cy n X Y W) (hD : Drew c bs 0 w W') (hg : W.grownBy W' (some c)) (hc : c < w.heap.size) (hb : w.heap.size ≤ base) (hl : w.heap.size ≤ gl) : RyAt c bs w base gl R gx cx gy cy n X Y W' := ⟨h.ln.draw hD hg hc hb hl, own_keptc h.x hg hc⟩
theorem RyAt.set (h : RyAt c bs w base gl R gx cx gy cy n X Y W) (hY : Y.length = n) (hne : gx ≠ gy) {q : Nat} (hq : q < n) (hc : c < w.heap.size) (v : Int) : RyAt c bs w base gl R gx cx gy cy n X (Y.set q v) (W.setCell ⟨gy, q, none⟩ (.int .i64 v)) :=
  ⟨h.ln.set hY hq hc v, h.x.kept (grown_set1 _ _ _ _) (.inr (by simp only [Value.ownBlock, ne_eq, Option.some.injEq]; exact hne))⟩
end
/-- the second state: with the stocks -/
structure RzAt (c : Nat) (bs : List Int) (w : World) (base gl : Nat) (R : List Rw) (gx cx gy cy n : Nat) (X Y : List Int) (lo b g1 : Nat) (Gs : List (Gr Dt)) (g2 : Nat) (Kw : List (Gr Kn)) (gm : Nat) (M : List (Gr Dt)) (W : World) : Prop where
  ry : RyAt c bs w base gl R gx cx gy cy n X Y W
  lg : GB Dt.cells 9 lo b (some ⟨g1, 0, none⟩) W Gs
  kn : GB Kn.cells 10 lo b (some ⟨g2, 0, none⟩) W Kw
  tb : TbL W lo gm M
section
variable {c : Nat} {bs : List Int} {w : World} {base gl : Nat} {R : List Rw} {gx cx gy cy n : Nat} {X Y : List Int} {lo b g1 g2 gm : Nat} {Gs M : List (Gr Dt)} {Kw : List (Gr Kn)} {W W' : World}
theorem RzAt.ext (h : RzAt c bs w base gl R gx cx gy cy n X Y lo b g1 Gs g2 Kw gm M W) (hE : Ext W W') : RzAt c bs w base gl R gx cx gy cy n X Y lo b g1 Gs g2 Kw gm M W' := ⟨h.ry.ext hE, h.lg.ext hE, h.kn.ext hE, h.tb.ext hE⟩
theorem RzAt.draw (h : RzAt c bs w base gl R gx cx gy cy n X Y lo b g1 Gs g2 Kw gm M W) (hD : Drew c bs 0 w W') (hg : W.grownBy W' (some c)) (hc : c < w.heap.size) (hb : w.heap.size ≤ base) (hl : w.heap.size ≤ gl) (hlo : w.heap.size ≤ lo) : RzAt c bs w base gl R gx cx gy cy n X Y lo b g1 Gs g2 Kw gm M W' :=
  ⟨h.ry.draw hD hg hc hb hl, h.lg.grown hg (.inl (by omega)), h.kn.grown hg (.inl (by omega)), h.tb.low hg (by omega)⟩
theorem RzAt.put {W9 : World} (h : RzAt c bs w base gl R gx cx gy cy n X Y lo b g1 Gs g2 Kw gm M W) (hc : c < w.heap.size) (hlo : w.heap.size ≤ lo) (hbm : b ≤ gm) (hE : Ext W W9) {q : Nat} (hq : q < M.length) {A : Option Addr} {cA : Nat} {l : List Dt} (hown : W9.ownsRow W.heap.size 72 9 (.slice A l.length cA) l.length (l.flatMap Dt.cells)) :
    RzAt c bs w base gl R gx cx gy cy n X Y lo b g1 Gs g2 Kw gm (M.set q ⟨A, cA, l⟩) (W9.setCell ⟨gm, q, none⟩ (.slice A l.length cA)) := by
  have h9 := h.ext hE
  obtain ⟨cs, hB, _⟩ := h9.tb.b
  have hz := h.tb.z
  have hlt := h.tb.lt
  have hg1 := grown_set1 W9 gm q (.slice A l.length cA)
  have hI : ∀ {g cc : Nat} {Z : List Int}, W9.ownsRow w.heap.size 3 1 (.slice (some ⟨g, 0, none⟩) n cc) n (Z.flatMap Iv) → (W9.setCell ⟨gm, q, none⟩ (.slice A l.length cA)).ownsRow w.heap.size 3 1 (.slice (some ⟨g, 0, none⟩) n cc) n (Z.flatMap Iv) := fun ho => ho.kept hg1 (by
    rcases own_not ho hB (by decide) with h1 | h1
    · exact .inl h1
    · exact .inr h1)
  exact ⟨⟨⟨h9.ry.ln.d.grown hg1 (fun r e => by injection e; omega) hc, h9.ry.ln.l.typed hg1 (fun e => by subst e; exact absurd (blk_type h9.ry.ln.l.b hB) (by decide)) hB (by decide), hI h9.ry.ln.x⟩, hI h9.ry.x⟩, h9.lg.grown hg1 (.inr hbm), h9.kn.grown hg1 (.inr hbm), h.tb.put (by omega) hE hq hown⟩
end
set_option maxRecDepth 100000 in
theorem wpList_catG {ops : Array Oper} {rest : List Oper} {o : Oper} {ac : Act} {Q : Exit → Act → World → Prop} (w : World) (hgd : o.guard = none) (s x : Operand) (ho : o.op = .call { callee := .builtin .append, args := #[s, x], argTypes := #[43, 43] })
    (hs : ac.eval s = .slice none 0 0) (G : List (Gr Dt)) (g1 n c : Nat) (hn : G.length = n) (hx : ac.eval x = .slice (some ⟨g1, 0, none⟩) n c) (hb : Seg w 1 (some ⟨g1, 0, none⟩) G.length (G.flatMap Gr.cells)) (hl : n ≤ 1000)
    (h : ∀ v' w', w'.ownsRow w.heap.size 44 1 v' n (G.flatMap Gr.cells) → Ext w w' → wpList Try.prog ops Q rest (ac.put o.dst v') w') : wpList Try.prog ops Q (o :: rest) ac w := by
  subst hn
  refine wpList_plain hgd fun K hK => ?_
  obtain ⟨i0, hi, hz0, hz1, hz2⟩ := info_parts infoDets
  have hr : ∃ v' w', (Builtin.append_ #[43, 43] o.type #[.slice none 0 0, .slice (some ⟨g1, 0, none⟩) G.length c]).run Try.prog w = .ok v' w' ∧ w'.ownsRow w.heap.size 44 1 v' G.length (G.flatMap Gr.cells) ∧ Ext w w' := by
    have hnews : ∀ k u, (G.flatMap Gr.cells)[k]? = some u → w.cell? ((⟨g1, 0, none⟩ : Addr).add k) = some u := by
      intro k u hu
      have hk := (List.getElem?_eq_some_iff.1 hu).1
      rw [flat_len Gr.cells 1 Gr.len] at hk
      obtain ⟨x, off, h, _, hc⟩ := hb.2 (by omega)
      injection h with h
      injection h with h1 h2
      subst h1 h2
      have hadd : (⟨g1, 0, none⟩ : Addr).add k = ⟨g1, 0 + k, none⟩ := by unfold Addr.add; split <;> simp_all
      rw [hadd]
      exact hc k u hu
    obtain ⟨v', w', hr, h2, h3, _, _⟩ := run_append_own_at (P := Try.prog) w w.heap.size _ o.type _ i0 _ 1 24 Try.underlying43 hi hz0 hz1 hz2 rfl (by omega) (.slice none 0 0) 0 [] (own_nilv w _ _ _) ⟨g1, 0, none⟩ G.length c (G.flatMap Gr.cells) (flat_len Gr.cells 1 Gr.len G) hnews (fun u hu => by obtain ⟨z, _, hz⟩ := List.mem_flatMap.1 hu; exact Gr.one z u hz) (by unfold maxLen; omega) (by omega) (Nat.le_refl _)
    refine ⟨v', w', hr, by simpa using h2, ⟨h3.os, h3.tape, h3.output, h3.size, fun k hk => h3.block k hk (by simp [Value.ownBlock])⟩⟩
  obtain ⟨v', w', hr, h2, h3⟩ := hr
  unfold Oper.wp execOp
  simp only [ho, resolve, invoke, builtin, Sem.run_bind, Sem.run_pure, Result.andThen_ok, List.map_toArray, List.map_cons, List.map_nil, hs, hx, hr]
  exact hK _ _ (h v' w' h2 h3)
def RzRel (c : Nat) (bs : List Int) (w : World) (base gl : Nat) (R : List Rw) (gx cx gy cy n : Nat) (X : List Int) (g : Nat) (iv : Value) (wr : World) : Prop :=
  ∃ (s : Nat) (Y : List Int), s ≤ n ∧ iv = .int .i64 s ∧ g = n - s ∧ RyAt c bs w base gl R gx cx gy cy n X Y wr ∧ Hid (Y.length = n ∧ ∀ r, r < s → elX X r ≤ elX Y r)
set_option maxRecDepth 100000 in
set_option maxHeartbeats 3200000 in
theorem rises_walk (a0 : Option Addr) (cap0 : Nat) (bs : List Int) (w : World)
    (h3 : Seg w 1 a0 bs.length (bs.map (Value.int .u8)) ∧ bs.length ≤ cap0 ∧ cap0 ≤ maxLen ∧ ∀ b ∈ bs, 0 ≤ b ∧ b < 256) :
    Calls Try.prog 7 #[.slice a0 bs.length cap0] w fun e w' => e = .returned (.bool true) ∧ Below w.heap.size w w' := by
  obtain ⟨hb, hb1, hb2, hb3⟩ := h3
  have HB3 := Lib.hid hb3
  have HB := Lib.hid hb
  clear hb3 hb
  have hb2' := hb2
  unfold maxLen at hb2'
  go_enter Try.func7, Try.ntmps7
  go_wp2_with fail
  refine (awake_any w).mono ?_
  rintro e w2 ⟨rfl, hE2'⟩
  go_wp2_with fail
  refine (new_any a0 cap0 bs 250 w2 (HB.out.ext hE2') hb1 hb2 (by omega) HB3.out).mono ?_
  rintro e w3 ⟨rfl, hC3, hE3⟩
  obtain ⟨c, hcw⟩ : ∃ c, w2.heap.size = c := ⟨_, rfl⟩
  rw [hcw] at hC3
  have hc0' : w.heap.size ≤ c := by have := hE2'.size; omega
  have hE3' := hE2'.trans hE3
  have hc3 : c < w3.heap.size := hC3.lt
  try rw [hcw]
  clear hcw hE3 hE2'
  go_wp2_with fail
  refine (lineages_any c _ 0 w3 hC3 14 (by omega)).mono ?_
  rintro e w4 ⟨base, gl, p, R, rfl, hn2, hn4, hb4, hgl4, hL4, hM4, hO4, hG4, -, -, hD4⟩
  have HPA : Hid (∀ (q : Nat) (k : Int), q < p.Ls.length → 0 ≤ k → k ≤ elX p.Ls q → ∃ X, pastL (evsL R) (q : Int) k = X ∧ IsPast (evsL R) q k (some X) ∧ X.length = p.Ls.length ∧ elX X q = k ∧ (k = 0 → ∀ r, r < p.Ls.length → elX X r = 0)) := fun q k hq h0 h1 => lin_past hO4 hG4 hq h0 h1
  have hRl : R.length = p.Ls.length := hG4.len
  have HRW : Hid (∀ r, r < p.Ls.length → ((rowL (evsL R) r).length : Int) = elX p.Ls r) := fun r hr => by
    have hr' : r < R.length := by rw [hG4.len]; exact hr
    rw [evsL_row hr']
    exact hG4.rl r R[r] (List.getElem?_eq_getElem hr')
  have HRK : Hid (∀ s ∈ R, ∀ e ∈ s.es, e.ok) := fun s hs e he => by
    obtain ⟨q, hq⟩ := List.mem_iff_getElem?.1 hs
    obtain ⟨k, hk⟩ := List.mem_iff_getElem?.1 he
    obtain ⟨⟨a1, a2⟩, ⟨b1, b2⟩, ⟨c1, c2⟩, ⟨d1, d2⟩, ⟨e1, e2⟩, ⟨f1, f2⟩, g1, g2⟩ := (hG4.ev q s k e hq hk).1
    exact ⟨⟨by omega, by omega⟩, ⟨by omega, by omega⟩, ⟨by omega, by omega⟩, ⟨by omega, by omega⟩, ⟨by omega, by omega⟩, ⟨by omega, by omega⟩, ⟨by omega, by omega⟩⟩
  have HR24 : Hid (∀ s ∈ R, s.es.length ≤ 24) := fun s hs => by
    obtain ⟨q, hq⟩ := List.mem_iff_getElem?.1 hs
    have h1 := hG4.rl q s hq
    have h2 := (hO4.lb q (by have := (List.getElem?_eq_some_iff.1 hq).1; omega)).2
    omega
  obtain ⟨A0, c0, Ls, A1, c1, Ks, v2, As⟩ := p
  obtain ⟨A2, c2, hv2, _, _, _⟩ := own_slice hM4.a
  dsimp only at hv2
  subst hv2
  dsimp only at hn2 hn4 hRl
  have hSc : ScAt c (bs.take 250) 0 w3 base gl ⟨A0, c0, Ls, A1, c1, Ks, .slice A2 As.length c2, As⟩ R w4 := ⟨hD4, hL4, hM4⟩
  have HRl := Lib.hid hRl
  have HO := Lib.hid hO4
  clear hL4 hM4 hD4 hRl hO4 hC3 hG4
  have hX5 := (Ext.refl w4).allocs (.cells #[.slice A0 Ls.length c0, .slice A1 Ks.length c1, .slice A2 As.length c2] 32)
  have hB5 := Blk.new w4 32 #[.slice A0 Ls.length c0, .slice A1 Ks.length c1, .slice A2 As.length c2]
  have hc4 : c < w4.heap.size := by have := hSc.d.1.size; omega
  have hSc5 := hSc.ext hX5
  obtain ⟨w5, hw5⟩ : ∃ w5, w4.alloc (.cells #[.slice A0 Ls.length c0, .slice A1 Ks.length c1, .slice A2 As.length c2] 32) = w5 := ⟨_, rfl⟩
  obtain ⟨g5, hg5⟩ : ∃ g5, w4.heap.size = g5 := ⟨_, rfl⟩
  go_upto_region 5 with fail
  rw [hw5] at hB5 hSc5
  try rw [hw5]
  rw [hg5] at hB5 hc4
  try rw [hg5]
  clear hX5 hw5 hSc hg5
  have hR4 : R.length ≤ 1000 := by have := HRl.out; omega
  obtain ⟨bL, oL, hAL, -⟩ := Iv.at_ hSc5.m.l (show 0 < Ls.length by omega)
  dsimp only at hAL
  subst hAL
  have HSc5 := Lib.hid hSc5
  have HB5 := Lib.hid hB5
  clear hSc5 hB5
  go_wp2_with fail
  go_loopg [6] Ls.length (fun g iv wr => RsE w5 Ls.length g iv wr)
  case atStart => exact ⟨0, Nat.zero_le _, rfl, rfl, Ext.refl _⟩
  case round =>
    rename World => wr
    obtain ⟨q, hq, rfl, rfl, hE⟩ := hrel
    have HE := Lib.hid hE
    clear hE
    by_cases hlt : q < Ls.length
    · have hq0 : (0 : Int) ≤ (q : Int) := by omega
      have hq1 : (q : Int) < (Ls.length : Int) := by omega
      have hlb := HO.out.lb q hlt
      dsimp only at hlb
      obtain ⟨lq, hlq⟩ : ∃ lq : Nat, elX Ls q = (lq : Int) := ⟨(elX Ls q).toNat, by omega⟩
      have hlq14 : lq ≤ 14 := by omega
      have HPQ : Hid (∀ k : Int, 0 ≤ k → k ≤ (lq : Int) → ∃ X, pastL (evsL R) (q : Int) k = X ∧ IsPast (evsL R) q k (some X) ∧ X.length = Ls.length) := fun k h0 h1 => by
        obtain ⟨X, h2, h3, h4, _⟩ := HPA.out q k hlt h0 (by show k ≤ elX Ls q; omega)
        exact ⟨X, h2, h3, h4⟩
      have HLQ := Lib.hid hlq
      clear hlq hlb
      go_wp2_with fail
      go_loopg [7] lq (fun g iv wk => RsE w5 lq g iv wk)
      case atStart => exact ⟨0, Nat.zero_le _, rfl, rfl, HE.out⟩
      case round =>
        rename World => wk
        obtain ⟨k, hk, rfl, rfl, hEk⟩ := hrel
        obtain ⟨⟨x0, x1, x2⟩, _, _, _⟩ := blk3 (HB5.out.ext hEk)
        have pq := Iv.cellX (HSc5.out.m.l.ext hEk) hlt
        rw [HLQ.out] at pq
        have HEk := Lib.hid hEk
        clear hEk
        have hwk : IntKind.i64.wrap ((k : Int) + 1) = (k : Int) + 1 := IntWalk.i64_in _ (by omega)
        by_cases hkl : k < lq
        · have hk1 : (k : Int) + 1 ≤ (lq : Int) := by omega
          have hk0 : (0 : Int) ≤ (k : Int) := by omega
          obtain ⟨X, hX, hIX, hXl⟩ := HPQ.out (k : Int) hk0 (by omega)
          obtain ⟨Y, hY, hIY, hYl⟩ := HPQ.out ((k : Int) + 1) (by omega) hk1
          have HUP : Hid (∀ s, s < Ls.length → elX X s ≤ elX Y s) := fun s hs => past_up hIX hIY (by omega) (by rw [evsL_len, HRl.out]; exact hs)
          clear hIX hIY
          have hp := past_code (some ⟨gl, 0, none⟩) Ls.length R (q : Int) (k : Int) wk (HSc5.out.l.ext HEk.out).seg hR4
          rw [HRl.out, hX] at hp
          have HP := Lib.hid hp
          clear hp hX
          go_wp2_with fail
          refine HP.out.mono ?_
          rintro e w7 ⟨B1, d1, he, hI1, -, -, hE7⟩
          rw [hXl] at he
          subst he
          have hE7' : Ext w5 w7 := Ext.trans HEk.out hE7
          have hp := past_code (some ⟨gl, 0, none⟩) Ls.length R (q : Int) ((k : Int) + 1) w7 (HSc5.out.l.ext hE7').seg hR4
          rw [HRl.out, hY] at hp
          have HP2 := Lib.hid hp
          clear hp hY HP hE7
          go_wp2_with fail
          refine HP2.out.mono ?_
          rintro e w8 ⟨B2, d2, he, hI2, -, -, hE8⟩
          rw [hYl] at he
          subst he
          have HE8 : Hid (Ext w5 w8) := Ext.trans hE7' hE8
          have hI1' := hI1.ext hE8
          obtain ⟨bX, oX, hAX, -⟩ := Iv.at_ hI1' (show 0 < X.length by omega)
          obtain ⟨bY, oY, hAY, -⟩ := Iv.at_ hI2 (show 0 < Y.length by omega)
          subst hAX hAY
          have HI1 := Lib.hid hI1'
          have HI2 := Lib.hid hI2
          have HXl := Lib.hid hXl
          have HYl := Lib.hid hYl
          clear HP2 hE7' hE8 hI1 hI1' hI2 hXl hYl x0 x1 x2 pq hwk
          go_wp2_with fail
          go_loopg [10] Ls.length (fun g iv ws => RsE w8 Ls.length g iv ws)
          case atStart => exact ⟨0, Nat.zero_le _, rfl, rfl, Ext.refl _⟩
          case round =>
            rename World => ws
            obtain ⟨s, hs, rfl, rfl, hEs⟩ := hrel
            by_cases hsl : s < Ls.length
            · have pX := Iv.cellX (HI1.out.ext hEs) (show s < X.length by rw [HXl.out]; exact hsl)
              have pY := Iv.cellX (HI2.out.ext hEs) (show s < Y.length by rw [HYl.out]; exact hsl)
              have hxy := HUP.out s hsl
              have hs0 : (0 : Int) ≤ (s : Int) := by omega
              have hs1 : (s : Int) < (Ls.length : Int) := by omega
              have hne : ((Ls.length : Int) != (Ls.length : Int)) = false := by simp
              have dgt : decide (elX Y s < elX X s) = false := decide_eq_false (by omega)
              have HEs := Lib.hid hEs
              clear hEs
              go_wp2_with fail
              go_quiet (fail)
              go_wp2_with fail
              go_roundg (Ls.length - (s + 1))
              case measure => omega
              case rel => exact ⟨s + 1, by omega, by go_num, rfl, HEs.out.drewN _⟩
            · obtain rfl : s = Ls.length := by omega
              have HE9 : Hid (Ext w5 ws) := Ext.trans HE8.out hEs
              clear hEs
              go_wp2_with fail
              go_roundg (lq - (k + 1))
              case measure => omega
              case rel => exact ⟨k + 1, by omega, by go_num, rfl, HE9.out⟩
        · obtain rfl : k = lq := by omega
          have hk1 : ¬ ((k : Int) + 1 ≤ (k : Int)) := by omega
          go_wp2_with fail
          go_roundg (Ls.length - (q + 1))
          case measure => omega
          case rel => exact ⟨q + 1, by omega, by go_num, rfl, HEk.out⟩
    · obtain rfl : q = Ls.length := by omega
      clear HPA
      have HSc6 := Lib.hid (HSc5.out.ext HE.out)
      have hB6 := HB5.out.ext HE.out
      clear HSc5 HB5 HE
      obtain ⟨⟨x0, x1, x2⟩, _, _, _⟩ := blk3 (hB6.ext (Below.drew (Ext.refl _)))
      have HB6 := Lib.hid hB6
      clear hB6
      go_upto_region 17 with fail
      refine wp_region_sched (by kernel_rfl) 5 [(0, true), (1, true), (3, true), (4, true), (2, false), (5, false), (6, false), (7, false)] (fun w' => w'.cell? ⟨g5, 0, none⟩ = some (.slice (some ⟨bL, oL, none⟩) Ls.length c0) ∧ w'.cell? ⟨g5, 1, none⟩ = some (.slice A1 Ks.length c1) ∧ w'.cell? ⟨g5, 2, none⟩ = some (.slice A2 As.length c2)) (by kernel_rfl) (fun _ _ dd _ _ h => by cases dd <;> exact h) ⟨x0, x1, x2⟩ (fun hHeld => ?_)
      clear x0 x1 x2
      iterate 4 ((refine sched_read (v := ?_) rfl (Or.inl ⟨by rfl, ?_⟩) hHeld ?_; rotate_left 1; · (intro w' hSw; obtain ⟨t0, t1, t2⟩ := hSw; go_simp; (first | done | with_reducible rfl))); (try simp only [Act.put, List.setIfInBounds_toArray, List.set_cons_zero, List.set_cons_succ]))
      refine sched_eff rfl (fun K hK => ?_)
      go_simp
      have hSc7 := HSc6.out.ext (Below.drew (Ext.refl _))
      refine (cut_any c (bs.take 250) 0 w3 _ (some ⟨bL, oL, none⟩) c0 Ls _ _ hSc7.d hSc7.m.l hSc7.m.lf hc3 hn4 (fun q hq => by have := HO.out.lb q hq; dsimp only at this; omega) ⟨rfl, rfl⟩).mono ?_
      rintro e w10 ⟨v10, X, rfl, hOx, ⟨hXl, hXb⟩, hD10, hg10⟩
      have HSc10 := Lib.hid (hSc7.draw hD10 hg10 hc3 hb4 hgl4)
      obtain ⟨⟨x0, x1, x2⟩, _, _, _⟩ := blk3 ((HB6.out.ext (Below.drew (Ext.refl _))).grown hg10 hc4)
      rw [hXl] at hOx
      obtain ⟨gx, cx, rfl, _, _⟩ := hOx.form (by omega)
      have hgxl := (hOx.lt gx rfl).2
      have HOx := Lib.hid (own_base hOx hSc7.d.1.size)
      have HXl := Lib.hid hXl
      clear hOx hXl hXb hD10 hg10 hSc7 HSc6
      go_wp2_with fail
      refine hK.out _ _ ⟨x0, x1, x2⟩ (fun hHeld => ?_)
      clear hK K x0 x1 x2
      try simp only [Act.put, List.setIfInBounds_toArray, List.set_cons_zero, List.set_cons_succ]
      refine sched_tail rfl (by decide) (fun K hK => ?_)
      go_simp
      refine (cut_any c (bs.take 250) 0 w3 w10 (some ⟨bL, oL, none⟩) c0 Ls _ _ HSc10.out.d HSc10.out.m.l HSc10.out.m.lf hc3 hn4 (fun q hq => by have := HO.out.lb q hq; dsimp only at this; omega) ⟨rfl, rfl⟩).mono ?_
      rintro e w11 ⟨v11, Y0, rfl, hOy, ⟨hYl, hYb⟩, hD11, hg11⟩
      rw [hYl] at hOy
      obtain ⟨gy, cy, rfl, _, _⟩ := hOy.form (by omega)
      have hgyl := (hOy.lt gy rfl).1
      have hne : gx ≠ gy := by omega
      have HRY : Hid (RyAt c (bs.take 250) w3 base gl R gx cx gy cy Ls.length X Y0 w11) := ⟨⟨hD11, HSc10.out.l.low hg11 (by omega) (by omega), own_base hOy HSc10.out.d.1.size⟩, own_keptc HOx.out hg11 hc3⟩
      have HYl := Lib.hid hYl
      clear hOy hYl hYb hD11 hg11 HSc10 HOx hgxl hgyl HB6 HO
      go_wp2_with fail
      refine hK.out _ _ ?_
      clear hK K
      try simp only [Act.put, List.setIfInBounds_toArray, List.set_cons_zero, List.set_cons_succ]
      refine sched_tail rfl (by decide) (fun K hK => ?_)
      go_simp
      refine hK.out _ _ ?_
      clear hK K
      try simp only [Act.put, List.setIfInBounds_toArray, List.set_cons_zero, List.set_cons_succ]
      refine sched_tail rfl (by decide) (fun K hK => ?_)
      go_simp
      refine hK.out _ _ ?_
      clear hK K
      try simp only [Act.put, List.setIfInBounds_toArray, List.set_cons_zero, List.set_cons_succ]
      refine sched_done ?_
      go_wp2_with fail
      go_loopg [13] Ls.length (fun g iv wr => RzRel c (bs.take 250) w3 base gl R gx cx gy cy Ls.length X g iv wr)
      case atStart => exact ⟨0, Y0, Nat.zero_le _, rfl, rfl, HRY.out, (⟨HYl.out, fun r hr => absurd hr (Nat.not_lt_zero _)⟩ : _ ∧ _)⟩
      case round =>
        clear HRY HYl
        rename World => ws
        obtain ⟨s, Y, hs, rfl, rfl, hRY, HYM⟩ := hrel
        have HRY := Lib.hid hRY
        clear hRY
        by_cases hsl : s < Ls.length
        · have hs0 : (0 : Int) ≤ (s : Int) := by omega
          have hs1 : (s : Int) < (Ls.length : Int) := by omega
          go_upto_region 21 with fail
          refine wp_region_sched (by kernel_rfl) 12 [(0, true), (1, true), (2, true), (3, true), (4, true), (5, true), (6, true), (7, true), (8, true), (9, true), (10, true), (11, true), (12, false)] (fun w' => w'.cell? ⟨gx, s, none⟩ = some (.int .i64 (elX X s)) ∧ w'.cell? ⟨gy, s, none⟩ = some (.int .i64 (elX Y s))) (by kernel_rfl) (fun _ _ dd _ _ h => by cases dd <;> exact h) ⟨own_cellI (HRY.out.ext (Below.drew (Ext.refl ws))).x HXl.out hsl, own_cellI (HRY.out.ext (Below.drew (Ext.refl ws))).ln.x HYM.out.1 hsl⟩ (fun hHeld => ?_)
          iterate 12 ((refine sched_read (v := ?_) rfl (Or.inl ⟨by rfl, ?_⟩) hHeld ?_; rotate_left 1; · (intro w' hSw; obtain ⟨t0, t1⟩ := hSw; go_simp; (first | done | with_reducible rfl))); (try simp only [Act.put, List.setIfInBounds_toArray, List.set_cons_zero, List.set_cons_succ]))
          have py := own_cellI (HRY.out.ext (Below.drew (Ext.refl ws))).ln.x HYM.out.1 hsl
          have pf := (HRY.out.ext (Below.drew (Ext.refl ws))).ln.x.frozenAt s
          refine sched_tail rfl (by decide) (fun K hK => ?_)
          go_simp
          refine hK.out _ _ ?_
          clear hK K
          refine sched_done ?_
          have HSET := Lib.hid ((HRY.out.ext (Below.drew (Ext.refl ws))).set HYM.out.1 hne hsl hc3 (max (elX X s) (elX Y s)))
          have HYM' : Hid ((Y.set s (max (elX X s) (elX Y s))).length = Ls.length ∧ ∀ r, r < s + 1 → elX X r ≤ elX (Y.set s (max (elX X s) (elX Y s))) r) := by
            refine ⟨by rw [List.length_set]; exact HYM.out.1, fun r hr => ?_⟩
            rw [elX_set _ _ _ _ (by rw [HYM.out.1]; exact hsl)]
            split
            · rename_i e
              subst e
              exact Int.le_max_left _ _
            · exact HYM.out.2 r (by omega)
          clear py pf HRY HYM
          go_wp2_with fail
          go_roundg (Ls.length - (s + 1))
          case measure => omega
          case rel => exact ⟨s + 1, _, by omega, by go_num, rfl, HSET.out, HYM'⟩
        · obtain rfl : s = Ls.length := by omega
          have HXY : Hid (∀ r, elX X r ≤ elX Y r) := fun r => by
            by_cases hr : r < Ls.length
            · exact HYM.out.2 r hr
            · unfold elX
              rw [List.getD_eq_getElem?_getD, List.getD_eq_getElem?_getD, List.getElem?_eq_none (by have := HXl.out; omega), List.getElem?_eq_none (by have := HYM.out.1; omega)]
              exact Int.le_refl _
          have HYl := Lib.hid HYM.out.1
          have hzs := HRY.out.ln.d.1.size
          clear HYM
          go_wp2_with fail
          refine (stocks_600 c (bs.take 250) 0 w3 ws Ls.length gl R HRY.out.ln.d hc3 HRl.out (by omega) hn4 (fun W' hg => (HRY.out.ln.l.low hg (by omega) (by omega)).seg) HR24.out HRK.out).mono ?_
          rintro e w12 ⟨g1, g2, Gs, Kw, rfl, hSk, hSo⟩
          have HSo := Lib.hid hSo
          have hGn := hSk.n1
          have hKn := hSk.n2
          have HGB : Hid (GB Dt.cells 9 w3.heap.size w12.heap.size (some ⟨g1, 0, none⟩) w12 Gs) := hSk.lg.gb hzs (by have := hSk.h.1; omega)
          have HKB : Hid (GB Kn.cells 10 w3.heap.size w12.heap.size (some ⟨g2, 0, none⟩) w12 Kw) := hSk.kn.gb hzs (by have := hSk.h.2; omega)
          have HRY12 : Hid (RyAt c (bs.take 250) w3 base gl R gx cx gy cy Ls.length X Y w12) := HRY.out.draw hSk.d hSk.g hc3 hb4 hgl4
          have hz12 := hSk.d.1.size
          clear hSk hSo HRY hzs
          have HGn := Lib.hid hGn
          have HKn := Lib.hid hKn
          clear hGn hKn
          go_wp2_with (at_builtin; go_loud (refine wpList_catG w12 rfl _ _ rfl rfl Gs g1 Ls.length Ls.length HGn.out rfl HGB.out.s.1 (by omega) ?_; intro v9 w13 hown13 hE13; obtain ⟨gm, cm, rfl, hgm, _⟩ := hown13.form (by omega); have HRZ : Hid (RzAt c (bs.take 250) w3 base gl R gx cx gy cy Ls.length X Y w3.heap.size w12.heap.size g1 Gs g2 Kw gm Gs w13) := ⟨HRY12.out.ext hE13, HGB.out.ext hE13, HKB.out.ext hE13, TbL.ofOwn hown13 (HGB.out.ext hE13) HGn.out (by omega) hgm⟩; clear hown13 hE13 HRY12 HGB HKB))
          refine (next_on HRZ.out.ry.ln.d (Ext.refl _) (Ls.length : Int) (by omega) (by omega)).mono ?_
          rintro e w14 ⟨q, rfl, ⟨hq0, hq1⟩, hD14, hg14⟩
          have HRZ14 := Lib.hid (HRZ.out.draw hD14 hg14 hc3 hb4 hgl4 (Nat.le_refl _))
          clear hD14 hg14 HRZ
          obtain ⟨q, rfl⟩ : ∃ qn : Nat, q = (qn : Int) := ⟨q.toNat, by omega⟩
          have hqG : q < Gs.length := by rw [HGn.out]; omega
          have hqR : q < R.length := by rw [HRl.out]; omega
          obtain ⟨r, hr⟩ : ∃ r, R[q] = r := ⟨_, rfl⟩
          have hrq : R[q]? = some r := by rw [List.getElem?_eq_getElem hqR, hr]
          have hre := (HRZ14.out.ry.ln.l.seg.row hqR).1
          rw [hr] at hre
          have hr24 := HR24.out r (by rw [← hr]; exact List.getElem_mem hqR)
          have HROK : Hid (∀ e ∈ r.es, e.ok) := HRK.out r (by rw [← hr]; exact List.getElem_mem hqR)
          obtain ⟨s, hs⟩ : ∃ s, Gs[q] = s := ⟨_, rfl⟩
          have hsG : Gs[q]? = some s := by rw [List.getElem?_eq_getElem hqG, hs]
          have hs600 := (HSo.out.g s (by rw [← hs]; exact List.getElem_mem hqG)).1
          have HS := Lib.hid hs
          have HRE := Lib.hid hre
          have HPG : Hid (∀ (W : World), Ext w14 W → W.cell? ⟨g1, q, none⟩ = some (Gr.val s)) := fun W hE => by
            have hg := (HRZ14.out.lg.ext hE).s.1
            obtain ⟨b, off, hA, _, hc⟩ := hg.2 (by omega)
            injection hA with hA
            injection hA with h1 h2
            subst h1 h2
            have h3 := flat_get Gr.cells 1 Gr.len Gs q 0 _ hsG (by omega)
            have h4 := hc (q * 1 + 0) _ h3
            rw [show 0 + (q * 1 + 0) = q by omega] at h4
            exact h4
          have HPL : Hid (∀ (W : World), Ext w14 W → W.cell? ⟨gl, q, none⟩ = some (Rw.val r)) := fun W hE => (HRZ14.out.ry.ln.l.ext hE).cell hrq
          clear hs hr hre
          have hq0' : (0 : Int) ≤ (q : Int) := by omega
          go_upto_region 25 with fail
          refine wp_region_sched (by kernel_rfl) 14 [(0, true), (1, true), (2, true), (3, true), (4, true), (5, true), (6, true), (7, true), (8, true), (9, true), (10, true), (11, false), (12, false), (13, true), (14, false)] (fun w' => w'.cell? ⟨g1, q, none⟩ = some (Gr.val s) ∧ w'.cell? ⟨gl, q, none⟩ = some (Rw.val r)) (by kernel_rfl) (fun _ _ dd _ _ h => by cases dd <;> exact h) ⟨HPG.out _ (Below.drew (Ext.refl _)), HPL.out _ (Below.drew (Ext.refl _))⟩ (fun hHeld => ?_)
          unfold Gr.val Rw.val at hHeld
          unfold Gr.val Rw.val
          iterate 11 ((refine sched_read (v := ?_) rfl (Or.inl ⟨by rfl, ?_⟩) hHeld ?_; rotate_left 1; · (intro w' hSw; obtain ⟨t0, t1⟩ := hSw; go_simp; (first | done | with_reducible rfl))); (try simp only [Act.put, List.setIfInBounds_toArray, List.set_cons_zero, List.set_cons_succ]))
          refine sched_eff rfl (fun K hK => ?_)
          go_simp
          refine (lineage_sl r.A r.c (q : Int) r.es _ (HRE.out.ext (Below.drew (Ext.refl _))) (by omega)).mono ?_
          rintro e w15 ⟨v15, rfl, hown15, hE15⟩
          have hDl : (linV (q : Int) r.es).length ≤ 24 := by rw [linV_len]; omega
          have HDok : Hid (∀ d ∈ linV (q : Int) r.es, d.ok) := lin_ok (by omega) (by omega) HROK.out
          obtain ⟨D, hD⟩ : ∃ D, linV (q : Int) r.es = D := ⟨_, rfl⟩
          rw [hD] at HDok hDl hown15
          obtain ⟨AD, cD, rfl, hds, _, _⟩ := own_slice hown15
          have hE15' : Ext w14 w15 := (Below.drew (Ext.refl w14)).trans hE15
          have hsS := ((HRZ14.out.lg.ext hE15').s.2 s (List.mem_of_getElem? hsG)).1
          have HMG := Lib.hid (merge_own s.A AD s.c cD s.l D w15 hsS hds (by omega) (by omega))
          have HH15 : Hid (w15.cell? ⟨g1, q, none⟩ = some (Gr.val s) ∧ w15.cell? ⟨gl, q, none⟩ = some (Rw.val r)) := ⟨HPG.out _ hE15', HPL.out _ hE15'⟩
          have HE15 := Lib.hid hE15'
          clear hD hown15 hE15 hE15' hds hsS
          go_wp2_with fail
          refine hK.out _ _ HH15.out (fun hHeld => ?_)
          clear hK K
          try simp only [Act.put, List.setIfInBounds_toArray, List.set_cons_zero, List.set_cons_succ]
          refine sched_eff rfl (fun K hK => ?_)
          go_simp
          refine HMG.out.mono ?_
          rintro e w16 ⟨A16, c16, rfl, hown16, hE16⟩
          have hE16' : Ext w14 w16 := Ext.trans HE15.out hE16
          have HH16 : Hid (w16.cell? ⟨g1, q, none⟩ = some (Gr.val s) ∧ w16.cell? ⟨gl, q, none⟩ = some (Rw.val r)) := ⟨HPG.out _ hE16', HPL.out _ hE16'⟩
          have hown16' := own_base hown16 HE15.out.size
          have pf := (HRZ14.out.tb.ext hE16').frz q
          have pc := (HRZ14.out.tb.ext hE16').cell hsG
          have HPUT := Lib.hid (HRZ14.out.put hc3 (Nat.le_refl _) hgm hE16' hqG hown16')
          clear hown16 hE16 hE16' hown16' HMG HH15 HE15
          go_wp2_with fail
          refine hK.out _ _ HH16.out (fun hHeld => ?_)
          clear hK K
          try simp only [Act.put, List.setIfInBounds_toArray, List.set_cons_zero, List.set_cons_succ]
          iterate 1 ((refine sched_read (v := ?_) rfl (Or.inl ⟨by rfl, ?_⟩) hHeld ?_; rotate_left 1; · (intro w' hSw; obtain ⟨t0, t1⟩ := hSw; go_simp; (first | done | with_reducible rfl))); (try simp only [Act.put, List.setIfInBounds_toArray, List.set_cons_zero, List.set_cons_succ]))
          refine sched_tail rfl (by decide) (fun K hK => ?_)
          unfold Gr.val at pc
          go_simp
          refine hK.out _ _ ?_
          clear hK K
          refine sched_done ?_
          have HIN : Hid (∀ d, inG Gs d = true → inG (Gs.set q ⟨A16, c16, stockV (s.l ++ D)⟩) d = true) := fun d hd => by
            have := (inG_set (G := Gs) hqG (A := A16) (c := c16) (M := D) d).2 (.inl hd)
            rw [HS.out] at this
            exact this
          have HMok : Hid ((∀ r ∈ Gs.set q ⟨A16, c16, stockV (s.l ++ D)⟩, r.l.length ≤ 1000 ∧ ∀ d ∈ r.l, d.ok) ∧ (Gs.set q ⟨A16, c16, stockV (s.l ++ D)⟩).length = Ls.length) := by
            refine ⟨fun r hr => ?_, by rw [List.length_set]; exact HGn.out⟩
            rcases List.mem_or_eq_of_mem_set hr with h | h
            · exact ⟨by have := (HSo.out.g r h).1; omega, (HSo.out.g r h).2⟩
            · subst h
              dsimp only
              have h2 := stockV_len (s.l ++ D)
              rw [List.length_append] at h2
              refine ⟨by omega, fun d hd => ?_⟩
              rw [stock_mem, List.mem_append] at hd
              rcases hd with hd | hd
              · exact (HSo.out.g s (List.mem_of_getElem? hsG)).2 d hd
              · exact HDok.out d hd
          obtain ⟨M, hM⟩ : ∃ M, Gs.set q ⟨A16, c16, stockV (s.l ++ D)⟩ = M := ⟨_, rfl⟩
          rw [hM] at HPUT HIN HMok
          clear hM pc pf HH16 HPG HPL HDok HRE HROK HS hs600 hr24 HRZ14
          have HRwa : Hid (RzAt c (bs.take 250) w3 base gl R gx cx gy cy Ls.length X Y w3.heap.size w12.heap.size g1 Gs g2 Kw gm M _) := HPUT
          have HEwa := Lib.hid (HPUT.out.ry.ln.d.ext hE3' hc0')
          obtain ⟨_, _, _, hxc, hxm⟩ : ∃ A c, Value.slice (some ⟨gx, 0, none⟩) Ls.length cx = .slice A Ls.length c ∧ Ls.length ≤ cx ∧ cx ≤ maxLen := by
            obtain ⟨A, c, e, _, h5, h6⟩ := own_slice HPUT.out.ry.x
            injection e with e1 e2 e3
            subst e3
            exact ⟨_, _, rfl, h5, h6⟩
          obtain ⟨_, _, _, hyc, hym⟩ : ∃ A c, Value.slice (some ⟨gy, 0, none⟩) Ls.length cy = .slice A Ls.length c ∧ Ls.length ≤ cy ∧ cy ≤ maxLen := by
            obtain ⟨A, c, e, _, h5, h6⟩ := own_slice HPUT.out.ry.ln.x
            injection e with e1 e2 e3
            subst e3
            exact ⟨_, _, rfl, h5, h6⟩
          have HIX : Hid (∀ W, RzAt c (bs.take 250) w3 base gl R gx cx gy cy Ls.length X Y w3.heap.size w12.heap.size g1 Gs g2 Kw gm M W → IntSeg W (some ⟨gx, 0, none⟩) X ∧ IntSeg W (some ⟨gy, 0, none⟩) Y) := fun W h => by
            refine ⟨?_, ?_⟩
            · show Seg _ _ _ _ _
              rw [HXl.out]
              exact Seg.of_own h.ry.x
            · show Seg _ _ _ _ _
              rw [HYl.out]
              exact Seg.of_own h.ry.ln.x
          have HN0 : Hid (∀ mt, (searchL (evsL R) mt).length = Ls.length) := fun mt => by rw [searchL_len, evsL_len]; exact HRl.out
          clear HPUT
          have hp := stable_code (some ⟨gl, 0, none⟩) Ls.length R (some ⟨gx, 0, none⟩) cx X _ HRwa.out.ry.ln.l.seg hR4 (fun r hr => by have := HR24.out r hr; omega) (HIX.out _ HRwa.out).1 (by rw [HXl.out]; exact hxc) hxm
          rw [HRl.out, HXl.out] at hp
          have HP := Lib.hid hp
          clear hp
          go_wp2_with fail
          refine HP.out.mono ?_
          rintro e wb ⟨Ba, da, he, hBa, -, -, hEwb⟩
          rw [HN0.out] at he
          subst he
          have HRwb := Lib.hid (HRwa.out.ext hEwb)
          have HEwb := Lib.hid (Below.trans HEwa.out (hEwb.mono HEwa.out.size))
          clear HP HRwa HEwa
          clear hEwb
          have hp := stable_code (some ⟨gl, 0, none⟩) Ls.length R (some ⟨gy, 0, none⟩) cy Y _ HRwb.out.ry.ln.l.seg hR4 (fun r hr => by have := HR24.out r hr; omega) (HIX.out _ HRwb.out).2 (by rw [HYl.out]; exact hyc) hym
          rw [HRl.out, HYl.out] at hp
          have HP := Lib.hid hp
          clear hp
          go_wp2_with fail
          refine HP.out.mono ?_
          rintro e wc ⟨Bb, db, he, hBb, -, -, hEwc⟩
          rw [HN0.out] at he
          subst he
          have HRwc := Lib.hid (HRwb.out.ext hEwc)
          have HEwc := Lib.hid (Below.trans HEwb.out (hEwc.mono HEwb.out.size))
          clear HP HRwb HEwb
          have hBa := hBa.ext hEwc
          clear hEwc
          have hp := replicated_code (some ⟨gl, 0, none⟩) Ls.length R none 0 [] (some ⟨g1, 0, none⟩) Ls.length Gs (some ⟨g2, 0, none⟩) Ls.length Kw 1 _ HRwc.out.ry.ln.l.seg hR4 (fun r hr => by have := HR24.out r hr; omega) HRK.out Seg.nil (Nat.le_refl _) (by unfold maxLen; omega) HRwc.out.lg.s (by rw [HGn.out]; omega) (fun r hr => by have := (HSo.out.g r hr).1; omega) (fun r hr => (HSo.out.g r hr).2) HRwc.out.kn.s (by rw [HKn.out]; omega)
          rw [HRl.out, HGn.out, HKn.out] at hp
          have HP := Lib.hid hp
          clear hp
          go_wp2_with fail
          refine HP.out.mono ?_
          rintro e wd ⟨Bc, dc, he, hBc, -, -, hEwd⟩
          rw [HN0.out] at he
          subst he
          have HRwd := Lib.hid (HRwc.out.ext hEwd)
          have HEwd := Lib.hid (Below.trans HEwc.out (hEwd.mono HEwc.out.size))
          clear HP HRwc HEwc
          have hBa := hBa.ext hEwd
          have hBb := hBb.ext hEwd
          clear hEwd
          have hp := replicated_code (some ⟨gl, 0, none⟩) Ls.length R none 0 [] (some ⟨gm, 0, none⟩) cm M (some ⟨g2, 0, none⟩) Ls.length Kw 1 _ HRwd.out.ry.ln.l.seg hR4 (fun r hr => by have := HR24.out r hr; omega) HRK.out Seg.nil (Nat.le_refl _) (by unfold maxLen; omega) HRwd.out.tb.seg (by rw [HMok.out.2]; omega) (fun r hr => (HMok.out.1 r hr).1) (fun r hr => (HMok.out.1 r hr).2) HRwd.out.kn.s (by rw [HKn.out]; omega)
          rw [HRl.out, HMok.out.2, HKn.out] at hp
          have HP := Lib.hid hp
          clear hp
          go_wp2_with fail
          refine HP.out.mono ?_
          rintro e we ⟨Bd, dd, he, hBd, -, -, hEwe⟩
          rw [HN0.out] at he
          subst he
          have HRwe := Lib.hid (HRwd.out.ext hEwe)
          have HEwe := Lib.hid (Below.trans HEwd.out (hEwe.mono HEwd.out.size))
          clear HP HRwd HEwd
          have hBa := hBa.ext hEwe
          have hBb := hBb.ext hEwe
          have hBc := hBc.ext hEwe
          clear hEwe
          have hp := replicated_code (some ⟨gl, 0, none⟩) Ls.length R none 0 [] (some ⟨g1, 0, none⟩) Ls.length Gs (some ⟨g2, 0, none⟩) Ls.length Kw 2 _ HRwe.out.ry.ln.l.seg hR4 (fun r hr => by have := HR24.out r hr; omega) HRK.out Seg.nil (Nat.le_refl _) (by unfold maxLen; omega) HRwe.out.lg.s (by rw [HGn.out]; omega) (fun r hr => by have := (HSo.out.g r hr).1; omega) (fun r hr => (HSo.out.g r hr).2) HRwe.out.kn.s (by rw [HKn.out]; omega)
          rw [HRl.out, HGn.out, HKn.out] at hp
          have HP := Lib.hid hp
          clear hp
          go_wp2_with fail
          refine HP.out.mono ?_
          rintro e wf ⟨Be, de, he, hBe, -, -, hEwf⟩
          rw [HN0.out] at he
          subst he
          have HRwf := Lib.hid (HRwe.out.ext hEwf)
          have HEwf := Lib.hid (Below.trans HEwe.out (hEwf.mono HEwe.out.size))
          clear HP HRwe HEwe
          have hBa := hBa.ext hEwf
          have hBb := hBb.ext hEwf
          have hBc := hBc.ext hEwf
          have hBd := hBd.ext hEwf
          clear hEwf
          have M1 : Hid (∀ r, r < Ls.length → elX (searchL (evsL R) (mtS X)) r ≤ elX (searchL (evsL R) (mtS Y)) r) := fun r hr => stable_mono HXY.out (by rw [evsL_len, HRl.out]; exact hr)
          have M2 : Hid (∀ r, r < Ls.length → elX (searchL (evsL R) (mtR (limL (evsL R) [] Gs Kw 1))) r ≤ elX (searchL (evsL R) (mtR (limL (evsL R) [] M Kw 1))) r) := fun r hr => rep_mono HIN.out (by omega) (by rw [evsL_len, HRl.out]; exact hr)
          have M3 : Hid (∀ r, r < Ls.length → elX (searchL (evsL R) (mtR (limL (evsL R) [] Gs Kw 2))) r ≤ elX (searchL (evsL R) (mtR (limL (evsL R) [] Gs Kw 1))) r) := fun r hr => rep_mono (fun d hd => hd) (by omega) (by rw [evsL_len, HRl.out]; exact hr)
          obtain ⟨Za, hZa⟩ : ∃ Z, searchL (evsL R) (mtS X) = Z := ⟨_, rfl⟩
          obtain ⟨Zb, hZb⟩ : ∃ Z, searchL (evsL R) (mtS Y) = Z := ⟨_, rfl⟩
          obtain ⟨Zc, hZc⟩ : ∃ Z, searchL (evsL R) (mtR (limL (evsL R) [] Gs Kw 1)) = Z := ⟨_, rfl⟩
          obtain ⟨Zd, hZd⟩ : ∃ Z, searchL (evsL R) (mtR (limL (evsL R) [] M Kw 1)) = Z := ⟨_, rfl⟩
          obtain ⟨Ze, hZe⟩ : ∃ Z, searchL (evsL R) (mtR (limL (evsL R) [] Gs Kw 2)) = Z := ⟨_, rfl⟩
          have HNa : Hid (Za.length = Ls.length) := by rw [← hZa]; exact HN0.out _
          have HNb : Hid (Zb.length = Ls.length) := by rw [← hZb]; exact HN0.out _
          have HNc : Hid (Zc.length = Ls.length) := by rw [← hZc]; exact HN0.out _
          have HNd : Hid (Zd.length = Ls.length) := by rw [← hZd]; exact HN0.out _
          have HNe : Hid (Ze.length = Ls.length) := by rw [← hZe]; exact HN0.out _
          rw [hZa, hZb] at M1
          rw [hZc, hZd] at M2
          rw [hZe, hZc] at M3
          rw [hZa] at hBa
          rw [hZb] at hBb
          rw [hZc] at hBc
          rw [hZd] at hBd
          rw [hZe] at hBe
          clear hZa hZb hZc hZd hZe HN0 HXY HIN HMok HSo hxc hxm hyc hym HIX HRwf
          obtain ⟨b1, o1, h1, -⟩ := Iv.at_ hBa (show 0 < Za.length by rw [HNa.out]; omega)
          obtain ⟨b2, o2, h2, -⟩ := Iv.at_ hBb (show 0 < Zb.length by rw [HNb.out]; omega)
          obtain ⟨b3, o3, h3, -⟩ := Iv.at_ hBc (show 0 < Zc.length by rw [HNc.out]; omega)
          obtain ⟨b4, o4, h4, -⟩ := Iv.at_ hBd (show 0 < Zd.length by rw [HNd.out]; omega)
          obtain ⟨b5, o5, h5, -⟩ := Iv.at_ hBe (show 0 < Ze.length by rw [HNe.out]; omega)
          subst h1 h2 h3 h4 h5
          have HBa := Lib.hid hBa
          have HBb := Lib.hid hBb
          have HBc := Lib.hid hBc
          have HBd := Lib.hid hBd
          have HBe := Lib.hid hBe
          clear hBa hBb hBc hBd hBe
          go_wp2_with fail
          go_loopg [23] Ls.length (fun g iv wt => RsE wf Ls.length g iv wt)
          case atStart => exact ⟨0, Nat.zero_le _, rfl, rfl, Ext.refl _⟩
          case round =>
            rename World => wt
            obtain ⟨t, ht, rfl, rfl, hEt⟩ := hrel
            by_cases htl : t < Ls.length
            · have p1 := Iv.cellX (HBa.out.ext hEt) (show t < Za.length by rw [HNa.out]; exact htl)
              have p2 := Iv.cellX (HBb.out.ext hEt) (show t < Zb.length by rw [HNb.out]; exact htl)
              have p3 := Iv.cellX (HBc.out.ext hEt) (show t < Zc.length by rw [HNc.out]; exact htl)
              have p4 := Iv.cellX (HBd.out.ext hEt) (show t < Zd.length by rw [HNd.out]; exact htl)
              have p5 := Iv.cellX (HBe.out.ext hEt) (show t < Ze.length by rw [HNe.out]; exact htl)
              have ht0 : (0 : Int) ≤ (t : Int) := by omega
              have ht1 : (t : Int) < (Ls.length : Int) := by omega
              have hne0 : ((Ls.length : Int) != (Ls.length : Int)) = false := by simp
              have d1 : decide (elX Zb t < elX Za t) = false := decide_eq_false (by have := M1.out t htl; omega)
              have d2 : decide (elX Zd t < elX Zc t) = false := decide_eq_false (by have := M2.out t htl; omega)
              have d3 : decide (elX Zc t < elX Ze t) = false := decide_eq_false (by have := M3.out t htl; omega)
              have HEt := Lib.hid hEt
              clear hEt
              go_wp2_with fail
              go_quiet (fail)
              go_wp2_with fail
              go_roundg (Ls.length - (t + 1))
              case measure => omega
              case rel => exact ⟨t + 1, by omega, by go_num, rfl, HEt.out.drewN _⟩
            · obtain rfl : t = Ls.length := by omega
              go_wp2_with fail
              go_ret
              exact ⟨rfl, Below.trans HEwf.out (hEt.mono HEwf.out.size)⟩
end Go.Proofs.Ytcljdkjlfciacaa
