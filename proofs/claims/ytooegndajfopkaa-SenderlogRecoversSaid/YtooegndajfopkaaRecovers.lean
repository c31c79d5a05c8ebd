/- The law of recovering, walked. No statement of the seat is proved here. -/
import Derived.Test.YtooegndajfopkaaRebuilds
import Derived.Test.YtooegndajfopkaaRecPlain
namespace Go.Proofs.Ytooegndajfopkaa
open Go.RowKit Go.Sort
set_option linter.unusedVariables false
set_option maxRecDepth 100000

theorem TwAt.rc {c : Nat} {bs : List Int} {k : Nat} {w W0 : World} {g n : Nat} {Gs : List (Gr Cp)} {W W' : World} (h : TwAt c bs k w W0 g n Gs W) (hw0 : w.heap.size ≤ W0.heap.size) (hc : c < w.heap.size) {v : Value} {m : Nat} {xs : List Value} (ho : W.ownsRow W0.heap.size 54 3 v m xs) (hg : W.grownBy W' v.ownBlock) : TwAt c bs k w W0 g n Gs W' :=
  ⟨h.d.grown hg (fun r e => by have := (ho.lt r e).1; omega) hc, grown_new2 h.gr hg (fun r e => (ho.lt r e).1), h.t.typed hg (fun g' e => by
    obtain ⟨cs, hB⟩ := own_blk ho e
    exact ⟨_, cs, hB, by decide, by decide⟩), h.nn, h.hb⟩
theorem TwAt.rcAt {c : Nat} {bs : List Int} {k : Nat} {w W0 : World} {g n : Nat} {Gs : List (Gr Cp)} {W W' : World} (h : TwAt c bs k w W0 g n Gs W) (hw0 : w.heap.size ≤ W0.heap.size) (hc : c < w.heap.size) {v : Value} {m g' : Nat} {xs : List Value} (ho : W.ownsRow W0.heap.size 54 3 v m xs) (hv : v.ownBlock = some g') (hg : W.grownBy W' (some g')) : TwAt c bs k w W0 g n Gs W' := h.rc hw0 hc ho (by rw [hv]; exact hg)
/-- the order stays where the table is written -/
theorem own_tab {c : Nat} {bs : List Int} {k : Nat} {w W0 : World} {g n : Nat} {Gs : List (Gr Cp)} {W W9 : World} (h : TwAt c bs k w W0 g n Gs W) {v : Value} {m p : Nat} {xs : List Value} (ho : W.ownsRow W0.heap.size 54 3 v m xs) {s : Gr Cp} (hs : Gs[p]? = some s) (hg : W.grownBy W9 (Gr.val s).ownBlock) (u : Value) :
    (W9.setCell ⟨g, p, none⟩ u).ownsRow W0.heap.size 54 3 v m xs :=
  (ho.kept hg (own_ne ho (h.t.r p s hs) (by decide))).kept (grown_set1 W9 g p u) (.inr fun e => own_ne_blk ho h.t.b (by decide) e.symm)
theorem own_tabE {c : Nat} {bs : List Int} {k : Nat} {w W0 : World} {g n : Nat} {Gs : List (Gr Cp)} {W W9 : World} (h : TwAt c bs k w W0 g n Gs W) {v : Value} {m p : Nat} {xs : List Value} (ho : W.ownsRow W0.heap.size 54 3 v m xs) (hE : Ext W W9) (u : Value) :
    (W9.setCell ⟨g, p, none⟩ u).ownsRow W0.heap.size 54 3 v m xs :=
  (own_extD ho hE).kept (grown_set1 W9 g p u) (.inr fun e => own_ne_blk ho h.t.b (by decide) e.symm)
/-- a row is another one, of the call's own -/
theorem GOwn.put {α : Type} {f : α → List Value} {sz : Nat} {t tR : TypeId} {W W9 : World} {base gl : Nat} {R : List (Gr α)} (hty : tR ≠ t) (h : GOwn f sz t tR W base gl R) {q : Nat} {s : Gr α} (hs : R[q]? = some s) {A : Option Addr} {c9 : Nat} {l : List α} (hE : Ext W W9) (hbase : base ≤ W.heap.size) (hown : W9.ownsRow W.heap.size t sz (.slice A l.length c9) l.length (l.flatMap f)) :
    GOwn f sz t tR (W9.setCell ⟨gl, q, none⟩ (.slice A l.length c9)) base gl (R.set q ⟨A, c9, l⟩) := by
  have hq : q < R.length := (List.getElem?_eq_some_iff.1 hs).1
  have hb9 := h.b.ext hE
  have hg1 := grown_set1 W9 gl q (.slice A l.length c9)
  have hget : ∀ (p : Nat) (r0 : Gr α), (R.set q ⟨A, c9, l⟩)[p]? = some r0 → (p = q ∧ r0 = ⟨A, c9, l⟩) ∨ (p ≠ q ∧ R[p]? = some r0) := fun p r0 ht => by
    rw [List.getElem?_set] at ht
    split at ht
    · rename_i e
      injection ht with ht
      exact .inl ⟨e.symm, ht.symm⟩
    · rename_i e
      exact .inr ⟨fun e' => e e'.symm, ht⟩
  have hfar : ∀ (p : Nat) (r0 : Gr α) (g : Nat), R[p]? = some r0 → (Gr.val r0).ownBlock = some g → g < W.heap.size := fun p r0 g ht e => ((h.r p r0 ht).lt g e).2
  have hnew : ∀ g, (Value.slice A l.length c9).ownBlock = some g → W.heap.size ≤ g := fun g e => (hown.lt g e).1
  refine ⟨?_, fun p r0 ht => ?_, fun p p' r0 r1 gg hpp ht ht' hgg => ?_⟩
  · have := Blk.setAt hb9 (f := Gr.cells) (s := 1) (by omega) Gr.len hq ⟨A, c9, l⟩
    simpa [World.setCells, Gr.cells] using this
  · rcases hget p r0 ht with ⟨rfl, rfl⟩ | ⟨hp, ht⟩
    · refine (hown.mono hbase).kept hg1 ?_
      rcases own_not hown hb9 hty with h | h
      · exact .inl h
      · exact .inr h
    · refine (own_ext (h.r p r0 ht) hE).kept hg1 ?_
      rcases own_not (own_ext (h.r p r0 ht) hE) hb9 hty with h | h
      · exact .inl h
      · exact .inr h
  · rcases hget p r0 ht with ⟨rfl, rfl⟩ | ⟨hp, ht2⟩
    · rcases hget p' r1 ht' with ⟨rfl, rfl⟩ | ⟨hp', ht2'⟩
      · exact absurd rfl hpp
      · intro e
        have h1 := hnew gg hgg
        have h2 := hfar p' r1 gg ht2' e
        omega
    · rcases hget p' r1 ht' with ⟨rfl, rfl⟩ | ⟨hp', ht2'⟩
      · intro e
        have h1 := hnew gg e
        have h2 := hfar p r0 gg ht2 hgg
        omega
      · exact h.d p p' r0 r1 gg hpp ht2 ht2' hgg
theorem TwAt.put {c : Nat} {bs : List Int} {k : Nat} {w W0 : World} {g n : Nat} {Gs : List (Gr Cp)} {W W9 : World} (h : TwAt c bs k w W0 g n Gs W) (hw0 : w.heap.size ≤ W0.heap.size) (hc : c < w.heap.size) {q : Nat} {s : Gr Cp} (hs : Gs[q]? = some s) {A : Option Addr} {c9 : Nat} {l : List Cp} (hE : Ext W W9) (hown : W9.ownsRow W.heap.size 42 4 (.slice A l.length c9) l.length (l.flatMap Cp.cells)) :
    W9.cell? ⟨g, q, none⟩ = some (Gr.val s) ∧ W9.frozen? ⟨g, q, none⟩ = false ∧ TwAt c bs k w W0 g n (Gs.set q ⟨A, c9, l⟩) (W9.setCell ⟨g, q, none⟩ (.slice A l.length c9)) := by
  have h9 := h.ext hE
  have hs1 := grown_set1 W9 g q (.slice A l.length c9)
  refine ⟨h9.t.cell hs, h9.t.frz q, h9.d.grown hs1 (fun r e => by injection e; have := h.hb; omega) hc, grown_new2 h9.gr hs1 (fun r e => by injection e; have := h.hb; omega), h.t.put (by decide) hs hE (by have := h.gr.size; omega) hown, by rw [List.length_set]; exact h.nn, h.hb⟩
theorem map_set {α β : Type} (f : α → β) (l : List α) (i : Nat) (x : α) : (l.set i x).map f = (l.map f).set i (f x) := by
  rw [List.map_set]
/-- a further message, at any place of the order -/
theorem ins_perm (O : List Rc) (a : Nat) (x : Rc) : (O.take a ++ x :: O.drop a).Perm (x :: O) := by
  have h : (O.take a ++ x :: O.drop a).Perm (x :: (O.take a ++ O.drop a)) := List.perm_middle
  rwa [List.take_append_drop] at h
theorem rec_mem {l : List Cp} {c y : Cp} : y ∈ recFrom l c → y ∈ l ∨ y = c := by
  induction l with
  | nil => intro h; rw [recFrom, List.mem_singleton] at h; exact .inr h
  | cons x l ih =>
    intro h
    rw [recFrom] at h
    split at h
    · rcases List.mem_cons.1 h with h | h
      · exact .inr h
      · exact .inl (List.mem_cons_of_mem _ h)
    · rcases List.mem_cons.1 h with h | h
      · exact .inl (by rw [h]; exact List.mem_cons_self)
      · rcases ih h with h | h
        · exact .inl (List.mem_cons_of_mem _ h)
        · exact .inr h
theorem GOwn.rowSeg {W : World} {base g : Nat} {Gs : List (Gr Cp)} (h : GC W base g Gs) {p : Nat} {A : Option Addr} {c : Nat} {l : List Cp} (hs : Gs[p]? = some ⟨A, c, l⟩) : CpSeg W A l := by
  obtain ⟨A', c', e, h1, _, _⟩ := own_slice (h.r p _ hs)
  injection e with e1 _ _
  subst e1
  exact h1
theorem cell_ext {w w' : World} (hE : Ext w w') {b o : Nat} {v : Value} (h : w.cell? ⟨b, o, none⟩ = some v) : w'.cell? ⟨b, o, none⟩ = some v :=
  (hE.cell (p := ⟨b, o, none⟩) (World.block_lt_of_cell? w ⟨b, o, none⟩ h)).trans h
theorem RcSeg.ext' {w w' : World} {A : Option Addr} {l : List Rc} (h : RcSeg w A l) (hE : Ext w w') : RcSeg w' A l := Seg.ext h hE
abbrev Rc.val' (r : Rc) : Value := .agg #[.int .i64 r.frm, .int .i64 r.ssn, .int .i64 r.val]
theorem eql_rc (w : World) (a b : Rc) : (binOp .eql 54 a.val' b.val').run Try.prog w = .ok (.bool (decide (a = b))) w := by
  obtain ⟨a0, a1, a2⟩ := a
  obtain ⟨b0, b1, b2⟩ := b
  unfold Rc.val'
  simp only [binOp]
  by_cases h0 : a0 = b0
  rotate_left
  · have g0 : (a0 == b0) = false := by simp [h0]
    simp [Op.equal, Op.maxDepth, go_sem, g0, h0]
  subst h0
  by_cases h1 : a1 = b1
  rotate_left
  · have g1 : (a1 == b1) = false := by simp [h1]
    simp [Op.equal, Op.maxDepth, go_sem, g1, h1]
  subst h1
  by_cases h2 : a2 = b2
  rotate_left
  · have g2 : (a2 == b2) = false := by simp [h2]
    simp [Op.equal, Op.maxDepth, go_sem, g2, h2]
  subst h2
  simp [Op.equal, Op.maxDepth, go_sem]
theorem Gr.row {Gs : List (Gr Cp)} {p : Nat} {s : Gr Cp} (h : Gs[p]? = some s) : (Gs.map Gr.l)[p]? = some s.l := by rw [List.getElem?_map, h]; rfl
theorem run_uptoR (w : World) (A : Option Addr) (n cap l : Nat) (li : Int) (hli : li = l) (hl : l ≤ cap) : (Instr.slice 47 (.slice A n cap) none (some (.int .i64 li)) none).run Try.prog w = .ok (.slice (if cap = 0 then A else A.map (·.add (0 * 3))) l cap) w := by
  subst hli
  obtain ⟨i0, hi, hz0, hz1, hz2⟩ := info_parts infoRc
  have h1 : (0 : Int) ≤ (l : Int) := by omega
  have h2 : (l : Int) ≤ (cap : Int) := by omega
  by_cases hc : cap = 0
  · simp [Instr.slice, Instr.sliceBounds, run_underlying Try.underlying47, go_sem, sizeOf, typeInfo, hi, h1, hc]
    omega
  · simp [Instr.slice, Instr.sliceBounds, run_underlying Try.underlying47, go_sem, sizeOf, typeInfo, hi, h1, h2, hc]
theorem RcSeg.pre {W : World} {A : Option Addr} {l : List Rc} (h : RcSeg W A l) {k : Nat} (hk : k ≤ l.length) : RcSeg W A (l.take k) := by
  refine ⟨flat_len Rc.cells 3 Rc.len _, fun hn => ?_⟩
  obtain ⟨b, o, hA, hb, hc⟩ := h.2 (by rw [List.length_take] at hn; omega)
  refine ⟨b, o, hA, hb, fun j u hu => hc j u ?_⟩
  rw [take_flat l k hk] at hu
  have hj := (List.getElem?_eq_some_iff.1 hu).1
  rwa [List.getElem?_take_of_lt (by rw [List.length_take] at hj; omega)] at hu
theorem add0 (A : Option Addr) (cap : Nat) : (if cap = 0 then A else A.map (·.add (0 * 3))) = A := by
  split
  · rfl
  · cases A with
    | none => rfl
    | some a => simp [Addr.add]

set_option maxHeartbeats 12800000 in
theorem recovers_walk (a0 : Option Addr) (cap0 : Nat) (bs : List Int) (x1 : Int) (w : World)
    (h0 : Seg w 1 a0 bs.length (bs.map (Value.int .u8)) ∧ bs.length ≤ cap0 ∧ cap0 ≤ maxLen ∧ ∀ b ∈ bs, 0 ≤ b ∧ b < 256) (hx1 : (Lit.int .u8 x1).wf = true) :
    Calls Try.prog 9 #[.slice a0 bs.length cap0, .int .u8 x1] w fun e w' => e = .returned (.bool true) ∧ Below w.heap.size w w' := by
  obtain ⟨hb, hb1, hb2, hb3⟩ := h0
  obtain ⟨hx0, hx2⟩ := u8_bd hx1
  have HB3 := Lib.hid hb3
  have HB := Lib.hid hb
  clear hb3 hb hx1
  go_enter Try.func9, Try.ntmps9
  go_wp2_with fail
  refine (awake_any _).mono ?_
  rintro e wA ⟨rfl, hEA⟩
  have hnew := new_any a0 cap0 bs 120 wA (HB.out.ext hEA) hb1 hb2 (by omega) HB3.out
  obtain ⟨bt, hbt⟩ : ∃ bt, bt = bs.take 120 := ⟨_, rfl⟩
  rw [← hbt] at hnew
  have HEA : Aside (Ext w wA) := hEA
  clear hbt HB HB3 hEA
  go_wp2_with fail
  refine hnew.mono ?_
  rintro e W0' ⟨rfl, hC, hE⟩
  obtain ⟨c, hc⟩ : ∃ c, wA.heap.size = c := ⟨_, rfl⟩
  rw [hc] at hC
  have hcl0 : c < W0'.heap.size := hC.lt
  have HE0 : Aside (Ext w W0') := HEA.out.trans hE
  have HCW := Lib.hid (show w.heap.size ≤ c by have := HEA.out.size; omega)
  have HC := Lib.hid hC
  rw [hc]
  clear hc hnew hE hC HEA
  go_wp2_with fail
  refine (next_any' c bt 0 W0' HC.out 3 (by omega) (by omega)).mono ?_
  rintro e W0 ⟨r0, rfl, ⟨hr00, hr01⟩, hD1⟩
  have hcl : c < W0'.heap.size := hcl0
  have hww : W0'.heap.size ≤ W0.heap.size := hD1.1.size
  have hcW : c < W0.heap.size := by omega
  obtain ⟨n, hn⟩ : ∃ n : Nat, 2 + r0 = n := ⟨(2 + r0).toNat, by omega⟩
  have hn1 : 1 ≤ n := by omega
  have hn4 : n ≤ 4 := by omega
  have hmk := mk_cprows n (by omega) W0
  have HT0 : Aside (TwAt c bt 0 W0' W0 W0.heap.size n (List.replicate n zG) (W0.alloc (.cells ((List.replicate n zG).flatMap Gr.cells).toArray 40))) :=
    ⟨hD1.alloc _, grownBy_ext ((Ext.refl W0).allocs _), GOwn.start (Blk.new W0 _ _), by simp, Nat.le_refl _⟩
  clear hr00 hr01 hD1
  have hn' : (n : Int) ≤ 4 := by omega
  have hn1' : (1 : Int) ≤ n := by omega
  go_upto_region 7 with fail
  obtain ⟨W1, hW1⟩ : ∃ W1, W0.alloc (.cells ((List.replicate n zG).flatMap Gr.cells).toArray 40) = W1 := ⟨_, rfl⟩
  obtain ⟨g, hg⟩ : ∃ g, W0.heap.size = g := ⟨_, rfl⟩
  have HT1 : Aside (TwAt c bt 0 W0' W0 g n (List.replicate n zG) W1) := by
    have h := HT0.out
    rw [hW1] at h
    rw [← hg]
    exact h
  rw [hW1, hg]
  have hgW : g = W0.heap.size := hg.symm
  have HGW := Lib.hid hgW
  clear HT0 hmk hW1 hg hn hgW
  go_wp2_with fail
  refine (next_on HT1.out.d (Ext.refl _) 30 (by omega) (by omega)).mono ?_
  rintro e W2 ⟨r1, rfl, ⟨hr10, hr11⟩, hD2, hg2⟩
  have HT2 : Aside (TwAt c bt 0 W0' W0 g n (List.replicate n zG) W2) := HT1.out.draw hD2 hg2 hcW
  obtain ⟨i0, rfl⟩ : ∃ i : Nat, r1 = i := ⟨r1.toNat, by omega⟩
  have HOK0 : Hid (TwOk (List.replicate n zG) ([] : List Rc).length) := (fun s hs => by
    rw [List.eq_of_mem_replicate hs]
    exact ⟨Nat.le_refl _, fun x hx => by cases hx⟩ : TwOk (List.replicate n zG) 0)
  have HS0 : Hid (Sent ((List.replicate n zG).map Gr.l) []) := by
    show Sent _ _
    rw [List.map_replicate]
    exact Sent.start n
  have HO0 : Aside (OwnRc W2 W0.heap.size (.slice none 0 0) []) := own_nil _ _ _ _ Rc.cells
  clear HT1 hD2 hg2 hr10
  go_upto_block 0 with fail
  go_cut [8] (fun s8 wx => ∃ (O : List Rc) (Gs : List (Gr Cp)), O.length ≤ 29 ∧ Aside (TwAt c bt 0 W0' W0 g n Gs wx) ∧ Aside (OwnRc wx W0.heap.size s8 O) ∧ Hid (TwOk Gs O.length) ∧ Hid (Sent (Gs.map Gr.l) O))
  case first =>
    go_wp2_with fail
    go_loopg [8, 9] 30 (fun kx s8 s9 wr => ∃ (i : Nat) (O : List Rc) (Gs : List (Gr Cp)), s9 = .int .i64 i ∧ i + O.length ≤ 29 ∧ i ≤ kx ∧ Aside (TwAt c bt 0 W0' W0 g n Gs wr) ∧ Aside (OwnRc wr W0.heap.size s8 O) ∧ Hid (TwOk Gs O.length) ∧ Hid (Sent (Gs.map Gr.l) O))
    case atStart => exact ⟨i0, [], _, rfl, by simp only [List.length_nil]; omega, by omega, HT2, HO0, HOK0, HS0⟩
    case round =>
      clear HT2 HOK0 HO0 HS0 hr11
      obtain ⟨i, O, Gs, rfl, hiB, hik, HTr, SO, HOK, HS⟩ := hrel
      by_cases hi : 0 < i
      · have hiz : (0 : Int) < (i : Int) := by omega
        obtain ⟨A8, c8, rfl, _, _, _⟩ := own_slice SO.out
        go_wp2_with fail
        refine (next_on HTr.out.d (Ext.refl _) (n : Int) (by omega) (by omega)).mono ?_
        rintro e wq ⟨r0, rfl, ⟨hp0, hp1⟩, hdq, hgq⟩
        have HT := Lib.hid (HTr.out.draw hdq hgq hcW)
        have SO1 : Aside (OwnRc wq W0.heap.size (.slice A8 O.length c8) O) := own_keptc SO.out hgq hcW
        obtain ⟨p, rfl⟩ : ∃ p : Nat, r0 = p := ⟨r0.toNat, by omega⟩
        have hpn : p < n := by omega
        obtain ⟨⟨sA, sc, sl⟩, hs⟩ : ∃ s, Gs[p]? = some s := ⟨_, List.getElem?_eq_getElem (by rw [HTr.out.nn]; exact hpn)⟩
        have hsl : sl.length ≤ O.length := (HOK.out _ (List.mem_of_getElem? hs)).1
        have hsl2 : sl.length ≤ 29 := by omega
        have hc := HT.out.t.cell hs
        unfold Gr.val at hc
        dsimp only at hc
        clear hdq hgq HTr SO
        go_upto_region 12 with fail
        have HT0 := Lib.hid (HT.out.ext (Below.drew (Ext.refl wq)))
        have SO2 : Aside (OwnRc wq.drew W0.heap.size (.slice A8 O.length c8) O) := SO1.out
        have hc := HT0.out.t.cell hs
        unfold Gr.val at hc
        dsimp only at hc
        obtain ⟨kk, hkk⟩ : ∃ kk : Int, (1 : Int) + (sl.length : Int) = kk := ⟨_, rfl⟩
        rw [hkk]
        have HKK := Lib.hid hkk
        have hkk1 : 1 ≤ kk := by omega
        have hkk2 : kk ≤ 30 := by omega
        clear hkk
        refine wp_region_sched (by kernel_rfl) 13 [(0, true), (1, true), (2, true), (3, true), (4, true), (5, true), (6, true), (7, true), (8, false), (9, true), (10, false), (11, false), (12, true), (13, false)] (fun w' => w'.cell? ⟨g, p, none⟩ = some (.slice sA sl.length sc)) (by kernel_rfl) (fun _ _ dd _ _ h => by cases dd <;> exact h) hc (fun hHeld => ?_)
        clear hc HT SO1
        iterate 8 ((refine sched_read (v := ?_) rfl (Or.inl ⟨by rfl, ?_⟩) hHeld ?_; rotate_left 1; · (intro w' hSw; go_simp; (first | done | with_reducible rfl))); (try simp only [Act.put, List.setIfInBounds_toArray, List.set_cons_zero, List.set_cons_succ]))
        refine sched_eff rfl (fun K hK => ?_)
        go_simp
        refine (next_on HT0.out.d (Ext.refl _) 50 (by omega) (by omega)).mono ?_
        rintro e w4 ⟨r2, rfl, ⟨hr20, hr21⟩, hd4, hg4⟩
        have HT4 := Lib.hid (HT0.out.draw hd4 hg4 hcW)
        have SO4 : Aside (OwnRc w4 W0.heap.size (.slice A8 O.length c8) O) := own_keptc SO2.out hg4 hcW
        have hc := HT4.out.t.cell hs
        unfold Gr.val at hc
        dsimp only at hc
        clear hd4 hg4 HT0 SO2
        go_simp
        refine hK.out _ _ hc (fun hHeld => ?_)
        clear hK K
        try simp only [Act.put, List.setIfInBounds_toArray, List.set_cons_zero, List.set_cons_succ]
        clear hc
        iterate 1 ((refine sched_read (v := ?_) rfl (Or.inl ⟨by rfl, ?_⟩) hHeld ?_; rotate_left 1; · (intro w' hSw; go_simp; (first | done | with_reducible rfl))); (try simp only [Act.put, List.setIfInBounds_toArray, List.set_cons_zero, List.set_cons_succ]))
        have hEa : Ext w4 (w4.alloc (.cells (Cp.cells ⟨9, kk, r2, 0⟩).toArray 42)) := (Ext.refl w4).allocs _
        have HBa : Hid (Blk (w4.alloc (.cells (Cp.cells ⟨9, kk, r2, 0⟩).toArray 42)) w4.heap.size 42 (Cp.cells ⟨9, kk, r2, 0⟩).toArray) := Blk.new w4 _ _
        have HTa := Lib.hid (HT4.out.ext hEa)
        have SOa : Aside (OwnRc (w4.alloc (.cells (Cp.cells ⟨9, kk, r2, 0⟩).toArray 42)) W0.heap.size (.slice A8 O.length c8) O) := own_extD SO4.out hEa
        have hc := HTa.out.t.cell hs
        unfold Gr.val at hc
        dsimp only at hc
        refine sched_eff rfl (fun K hK => ?_)
        go_simp
        refine hK.out _ _ hc (fun hHeld => ?_)
        clear hK K
        try simp only [Act.put, List.setIfInBounds_toArray, List.set_cons_zero, List.set_cons_succ]
        clear hc HT4 SO4
        have hza : W0.heap.size ≤ (w4.alloc (.cells (Cp.cells ⟨9, kk, r2, 0⟩).toArray 42)).heap.size := by have := HTa.out.gr.size; omega
        refine sched_eff rfl (fun K hK => ?_)
        refine step_push_lies Cp.cells 4 32 Cp.len Cp.one (by omega) (by rfl) _ _ _ (by rfl) W0.heap.size 42 Try.underlying40 (by kernel_rfl) (.slice sA sl.length sc) sl ⟨9, kk, r2, 0⟩ w4.heap.size (by rfl) (HTa.out.t.r p _ hs) (by rfl) (Seg.ofBlkK HBa.out rfl) (by unfold maxLen; omega) (by omega) hza ?_
        intro g9 c9 w9 hown9 hg9 hd9
        obtain ⟨x9, y9, hT9⟩ := HTa.out.push hww hcl hs hown9 hg9 hd9
        have hO9 := own_tab HTa.out SOa.out hs hg9 (.slice (some ⟨g9, 0, none⟩) (sl.length + 1) c9)
        refine hK.out _ _ x9 (fun hHeld => ?_)
        clear hK K
        try simp only [Act.put, List.setIfInBounds_toArray, List.set_cons_zero, List.set_cons_succ]
        iterate 1 ((refine sched_read (v := ?_) rfl (Or.inl ⟨by rfl, ?_⟩) hHeld ?_; rotate_left 1; · (intro w' hSw; go_simp; (first | done | with_reducible rfl))); (try simp only [Act.put, List.setIfInBounds_toArray, List.set_cons_zero, List.set_cons_succ]))
        refine sched_tail rfl (by decide) (fun K hK => ?_)
        go_simp
        refine hK.out _ _ ?_
        clear hK K
        refine sched_done ?_
        have HT9 := Lib.hid hT9
        have SO9 : Aside _ := hO9
        clear x9 y9 hT9 hown9 hg9 hd9 HTa HBa hEa hza hO9 SOa
        have HOK2 : Hid (TwOk (Gs.set p ⟨some ⟨g9, 0, none⟩, c9, sl ++ [⟨9, kk, r2, 0⟩]⟩) (O.length + 1)) := HOK.out.push hs ⟨inI 9 (by omega) (by omega), inI kk (by omega) (by omega), inI r2 hr20 (by omega), inI 0 (by omega) (by omega)⟩
        have hs2 : (Gs.set p ⟨some ⟨g9, 0, none⟩, c9, sl ++ [⟨9, kk, r2, 0⟩]⟩)[p]? = some (⟨some ⟨g9, 0, none⟩, c9, sl ++ [⟨9, kk, r2, 0⟩]⟩ : Gr Cp) := by rw [List.getElem?_set_self (List.getElem?_eq_some_iff.1 hs).1]
        have HG2 : Hid ((Gs.set p ⟨some ⟨g9, 0, none⟩, c9, sl ++ [⟨9, kk, r2, 0⟩]⟩).map Gr.l = (Gs.map Gr.l).set p (sl ++ [⟨9, kk, r2, 0⟩])) := map_set _ _ _ _
        have HSP := Lib.hid (fun (O' : List Rc) (hO' : O'.Perm (⟨(p : Int), kk, r2⟩ :: O)) => by
          have e : kk = (sl.length : Int) + 1 := by have := HKK.out; omega
          have h := HS.out.push (Gr.row hs) r2 (O' := O') (by rw [← e]; exact hO')
          rw [← e, ← HG2.out] at h
          exact h)
        clear HOK HS HG2
        generalize Gs.set p ⟨some ⟨g9, 0, none⟩, c9, sl ++ [⟨9, kk, r2, 0⟩]⟩ = Gs2 at *
        generalize w9.setCell ⟨g, p, none⟩ (.slice (some ⟨g9, 0, none⟩) (sl.length + 1) c9) = wB at *

        go_wp2_with fail
        refine (next_on HT9.out.d (Ext.refl _) 3 (by omega) (by omega)).mono ?_
        rintro e wC ⟨r3, rfl, ⟨hr30, hr31⟩, hdC, hgC⟩
        have HTC := Lib.hid (HT9.out.draw hdC hgC hcW)
        have SOC : Aside (OwnRc wC W0.heap.size (.slice A8 O.length c8) O) := own_keptc SO9.out hgC hcW
        clear hdC hgC HT9 SO9
        have hOl : O.length ≤ 28 := by omega
        go_upto_block 2 with fail
        obtain ⟨at0, hat, hat0, hat1⟩ : ∃ a : Nat, max (0 : Int) ((O.length : Int) - r3) = a ∧ a ≤ O.length ∧ True := ⟨(max (0 : Int) ((O.length : Int) - r3)).toNat, by omega, by omega, trivial⟩
        rw [hat]
        clear hat hat1 hr30 hr31
        have hOw : (O.length : Int) ≤ 28 := by omega
        go_cut [12] (fun s12 wx => ∃ a : Nat, s12 = .int .i64 a ∧ a ≤ O.length ∧ wx = wC)
        case first =>
          go_wp2_with fail
          go_loopg [12] O.length (fun kx s12 wx => ∃ a : Nat, s12 = .int .i64 a ∧ a ≤ O.length ∧ O.length - a ≤ kx ∧ wx = wC)
          case atStart => exact ⟨at0, rfl, hat0, by omega, rfl⟩
          case round =>
            obtain ⟨a, rfl, ha, hka, rfl⟩ := hrel
            by_cases hal : a < O.length
            · have dk : decide ((a : Int) < (O.length : Int)) = true := decide_eq_true (by omega)
              have dkM : (a : Int) < (O.length : Int) := by omega
              have ha0 : (0 : Int) ≤ (a : Int) := by omega
              obtain ⟨A8', c8', hv8, hs8⟩ := rc_own SOC.out (Ext.refl _)
              injection hv8 with h8a _ h8c
              subst h8a
              subst h8c
              obtain ⟨ab, aoff, rfl, e0, e1, e2⟩ := Rc.at_ hs8 hal
              clear e1 e2 hs8
              generalize O[a].frm = ff at e0
              by_cases hf : ff = (p : Int)
              · have hq1 : (ff == (p : Int)) = true := by simp [hf]
                have hq2 : decide (ff = (p : Int)) = true := by simp [hf]
                clear hf
                go_wp2_with fail
                go_roundg (O.length - (a + 1))
                case measure => omega
                case rel => exact ⟨a + 1, by go_num, by omega, Nat.le_refl _, rfl⟩
              · have hq1 : (ff == (p : Int)) = false := by simp [hf]
                have hq2 : decide (ff = (p : Int)) = false := by simp [hf]
                clear hf
                go_wp2_with fail
                go_meet
                exact ⟨a, rfl, ha, rfl⟩
            · have dk : decide ((a : Int) < (O.length : Int)) = false := decide_eq_false (by omega)
              have dkM : ¬ (a : Int) < (O.length : Int) := by omega
              go_wp2_with fail
              go_meet
              exact ⟨a, rfl, ha, rfl⟩
        case rest =>
          obtain ⟨a1, rfl, ha1, e0⟩ := hcut
          obtain rfl : wC = wc := e0.symm
          clear hat0
          go_upto_block 4 with fail
          go_cut [12] (fun s12 wx => ∃ a : Nat, s12 = .int .i64 a ∧ a ≤ O.length ∧ wx = wC)
          case first =>
            go_wp2_with fail
            go_loopg [12, 13] O.length (fun kx s12 s13 wx => ∃ a j : Nat, s12 = .int .i64 a ∧ s13 = .int .i64 j ∧ a ≤ O.length ∧ j ≤ O.length ∧ O.length - j ≤ kx ∧ wx = wC)
            case atStart => exact ⟨a1, a1, rfl, rfl, ha1, ha1, by omega, rfl⟩
            case round =>
              obtain ⟨a, j, rfl, rfl, ha, hj, hka, rfl⟩ := hrel
              by_cases hal : j < O.length
              · have dk : decide ((j : Int) < (O.length : Int)) = true := decide_eq_true (by omega)
                have dkM : (j : Int) < (O.length : Int) := by omega
                have ha0 : (0 : Int) ≤ (j : Int) := by omega
                obtain ⟨A8', c8', hv8, hs8⟩ := rc_own SOC.out (Ext.refl _)
                injection hv8 with h8a _ h8c
                subst h8a
                subst h8c
                obtain ⟨ab, aoff, rfl, e0, e1, e2⟩ := Rc.at_ hs8 hal
                clear e1 e2 hs8
                generalize O[j].frm = ff at e0
                by_cases hf : ff = (p : Int)
                · have hq1 : (ff == (p : Int)) = true := by simp [hf]
                  have hq2 : decide (ff = (p : Int)) = true := by simp [hf]
                  clear hf
                  go_wp2_with fail
                  go_roundg (O.length - (j + 1))
                  case measure => omega
                  case rel => exact ⟨j + 1, j + 1, by go_num, by go_num, by omega, by omega, Nat.le_refl _, rfl⟩
                · have hq1 : (ff == (p : Int)) = false := by simp [hf]
                  have hq2 : decide (ff = (p : Int)) = false := by simp [hf]
                  clear hf
                  go_wp2_with fail
                  go_roundg (O.length - (j + 1))
                  case measure => omega
                  case rel => exact ⟨a, j + 1, rfl, by go_num, ha, by omega, Nat.le_refl _, rfl⟩
              · have dk : decide ((j : Int) < (O.length : Int)) = false := decide_eq_false (by omega)
                have dkM : ¬ (j : Int) < (O.length : Int) := by omega
                go_wp2_with fail
                go_meet
                exact ⟨a, rfl, ha, rfl⟩
          case rest =>
            obtain ⟨k, rfl, hk2, e0⟩ := hcut
            obtain rfl : wC = wc := e0.symm
            clear ha1
            have hkI : (k : Int) ≤ (O.length : Int) := by omega
            have hkI1 : (k : Int) < (O.length : Int) + 1 := by omega
            have hkI0 : (0 : Int) ≤ (k : Int) := by omega
            have hwk : IntKind.i64.wrap ((k : Int) + 1) = (k : Int) + 1 := IntWalk.i64_in _ (by omega)
            have hkJ : (0 : Int) ≤ (k : Int) + 1 := by omega
            have hkJ1 : (k : Int) + 1 ≤ (O.length : Int) + 1 := by omega
            have hzC : W0.heap.size ≤ wC.heap.size := HTC.out.gr.size
            go_wp2_with (at_builtin; refine wpList_pushZ _ rfl _ _ rfl W0.heap.size _ O rfl SOC.out rfl (by omega) hzC ?_; intro g6 cap6 w6 hown6 hc6 hc6m hg6 hblk6)
            have hT6 := HTC.out.rc hww hcl SOC.out hg6
            obtain ⟨X, hX⟩ : ∃ X, O ++ [zRc] = X := ⟨_, rfl⟩
            have hXl : X.length = O.length + 1 := by rw [← hX, List.length_append]; rfl
            rw [hX] at hown6
            have HXE := Lib.hid hX
            have HXL := Lib.hid hXl
            clear hX hg6 hblk6 SOC HTC hXl hzC
            go_upto_region 23 with fail
            have SO7 : Aside (w6.drew.ownsRow W0.heap.size 54 3 (.slice (some ⟨g6, 0, none⟩) (O.length + 1) cap6) (O.length + 1) (X.flatMap Rc.cells)) := hown6
            have ST7 : Aside (TwAt c bt 0 W0' W0 g n Gs2 w6.drew) := hT6.ext (Below.drew (Ext.refl w6))
            have HRow7 : Aside (Row w6.drew g6 X) := (row_of_own hown6).1
            have hgw6 := (row_of_own hown6).2
            clear hown6 hT6
            go_cut [12] (fun s12 wx => s12 = .int .i64 (k : Int) ∧ ∃ Y : List Rc, Hid (Y.length = O.length + 1) ∧ Hid (Y.set k ⟨(p : Int), kk, r2⟩ = O.take k ++ ⟨(p : Int), kk, r2⟩ :: O.drop k) ∧ Aside (wx.ownsRow W0.heap.size 54 3 (.slice (some ⟨g6, 0, none⟩) (O.length + 1) cap6) (O.length + 1) (Y.flatMap Rc.cells)) ∧ Aside (TwAt c bt 0 W0' W0 g n Gs2 wx))
            case first =>
              by_cases hkn : k = O.length
              · have HK : Hid (X.set k ⟨(p : Int), kk, r2⟩ = O.take k ++ ⟨(p : Int), kk, r2⟩ :: O.drop k) := by
                  show X.set k _ = _
                  rw [← HXE.out, hkn, List.take_length, List.drop_length, List.set_append_right _ _ (Nat.le_refl _), Nat.sub_self]
                  rfl
                have hsl1 := fun w => run_from w g6 (O.length + 1) cap6 (k + 1) ((k : Int) + 1) (by omega) (by omega)
                have hsl2 := fun w => run_from w g6 (O.length + 1) cap6 k (k : Int) rfl (by omega)
                rw [show O.length + 1 - (k + 1) = 0 by omega] at hsl1
                generalize (if cap6 = k + 1 then (⟨g6, 0, none⟩ : Addr) else ⟨g6, (k + 1) * 3, none⟩) = D1 at hsl1
                generalize (if cap6 = k then (⟨g6, 0, none⟩ : Addr) else ⟨g6, k * 3, none⟩) = S1 at hsl2
                have hcp := fun w d s dc sl sc => run_copy_none w 3 d s dc sl sc
                clear hkn
                go_still_tail 7, (by kernel_rfl)
                change wpList _ _ _ _ _ w6.drew
                generalize w6.drew = w7 at *
                go_wp2_with fail
                go_meet
                exact ⟨rfl, X, HXL, HK, SO7, ST7⟩
              · have hkn' : k < O.length := by omega
                have HK : Hid ((X.take (k + 1) ++ (X.drop k).take (O.length - k)).set k ⟨(p : Int), kk, r2⟩ = O.take k ++ ⟨(p : Int), kk, r2⟩ :: O.drop k) := by
                  show (X.take (k + 1) ++ (X.drop k).take (O.length - k)).set k _ = _
                  have e1 : (O ++ [zRc]).take (k + 1) = O.take (k + 1) := List.take_append_of_le_length (by omega)
                  have e2 : ((O ++ [zRc]).drop k).take (O.length - k) = O.drop k := by rw [List.drop_append_of_le_length (by omega), List.take_append_of_le_length (by rw [List.length_drop]; omega), List.take_of_length_le (by rw [List.length_drop]; omega)]
                  rw [← HXE.out, e1, e2]
                  exact ins_list _ hkn'
                have hsl1 := fun w => run_from w g6 (O.length + 1) cap6 (k + 1) ((k : Int) + 1) (by omega) (by omega)
                have hsl2 := fun w => run_from w g6 (O.length + 1) cap6 k (k : Int) rfl (by omega)
                rw [show O.length + 1 - (k + 1) = O.length - k by omega, if_neg (show ¬ cap6 = k + 1 by omega)] at hsl1
                rw [if_neg (show ¬ cap6 = k by omega)] at hsl2
                have hcp := run_copy_rc w6.drew 3 g6 k O.length (cap6 - (k + 1)) (cap6 - k) X HRow7.out HXL.out hkn'
                have hXl := HXL.out
                have hYl : ((X.drop k).take (O.length - k)).length = O.length - k := by rw [List.length_take, List.length_drop]; omega
                have hO8 : (w6.drew.setCells g6 ((k + 1) * 3) (((X.drop k).take (O.length - k)).flatMap Rc.cells)).ownsRow W0.heap.size 54 3 (.slice (some ⟨g6, 0, none⟩) (O.length + 1) cap6) (O.length + 1) ((X.take (k + 1) ++ (X.drop k).take (O.length - k)).flatMap Rc.cells) := by
                  have := own_sets SO7.out (o := (k + 1) * 3) (vs := ((X.drop k).take (O.length - k)).flatMap Rc.cells) (by rw [flat_len Rc.cells 3 Rc.len, flat_len Rc.cells 3 Rc.len, hYl]; omega)
                  rw [setAll_flats X ((X.drop k).take (O.length - k)) (k + 1) (by rw [hYl]; omega), hYl, show X.drop (k + 1 + (O.length - k)) = [] from List.drop_eq_nil_of_le (by omega), List.append_nil] at this
                  exact this
                have hT8 := ST7.out.rcAt hww hcl SO7.out rfl (grownRow_sets w6.drew g6 ((k + 1) * 3) (((X.drop k).take (O.length - k)).flatMap Rc.cells))
                obtain ⟨Y, hY⟩ : ∃ Y, X.take (k + 1) ++ (X.drop k).take (O.length - k) = Y := ⟨_, rfl⟩
                have HYY : Hid (Y.length = O.length + 1) := by show _ = _; rw [← hY, List.length_append, hYl, List.length_take]; omega
                rw [hY] at HK hO8
                clear hkn hY hYl hXl
                go_still_tail 7, (by kernel_rfl)
                change wpList _ _ _ _ _ w6.drew
                obtain ⟨w8, hw8⟩ : ∃ w8, w6.drew.setCells g6 ((k + 1) * 3) (((X.drop k).take (O.length - k)).flatMap Rc.cells) = w8 := ⟨_, rfl⟩
                rw [hw8] at hcp hO8 hT8
                clear hw8
                have SO8 : Aside _ := hO8
                have ST8 : Aside _ := hT8
                clear hO8 hT8 SO7 ST7 HRow7
                generalize w6.drew = w7 at *
                go_wp2_with fail
                go_meet
                exact ⟨rfl, Y, HYY, HK, SO8, ST8⟩
            case rest =>
              clear SO7 ST7 HRow7
              obtain ⟨rfl, Y, HYL, HYS, SO8, ST8⟩ := hcut
              have hyl := HYL.out
              have hkY : k < Y.length := by omega
              have hR9 := (row_of_own SO8.out).1
              have hO9' : wc.ownsRow W0.heap.size 54 3 (.slice (some ⟨g6, 0, none⟩) (O.length + 1) cap6) Y.length (Y.flatMap Rc.cells) := by rw [hyl]; exact SO8.out
              have HT9 : Hid (TwAt c bt 0 W0' W0 g n Gs2 (putR wc g6 (k * 3) ⟨(p : Int), kk, r2⟩)) := ST8.out.rcAt hww hcl hO9' rfl (grownRow_sets wc g6 (k * 3) (Rc.cells ⟨(p : Int), kk, r2⟩))
              have HO9 : Hid ((putR wc g6 (k * 3) ⟨(p : Int), kk, r2⟩).ownsRow W0.heap.size 54 3 (.slice (some ⟨g6, 0, none⟩) (O.length + 1) cap6) (O.length + 1) ((Y.set k ⟨(p : Int), kk, r2⟩).flatMap Rc.cells)) := by
                have := own_sets SO8.out (o := k * 3) (vs := Rc.cells ⟨(p : Int), kk, r2⟩) (by rw [flat_len Rc.cells 3 Rc.len, Rc.len]; omega)
                rw [setAll_flat Rc.cells 3 (by omega) Rc.len Y k _ hkY] at this
                exact this
              obtain ⟨c0, c1, c2⟩ := Row.atR hR9 hkY
              obtain ⟨f0, f1, f2⟩ := Row.frzR hR9 hkY
              generalize Y[k] = zz at c0 c1 c2
              unfold putR at HO9 HT9
              have hc := ST8.out.t.cell hs2
              unfold Gr.val at hc
              dsimp only at hc
              rw [show (sl ++ [(⟨9, kk, r2, 0⟩ : Cp)]).length = sl.length + 1 by simp] at hc
              have hrow := ST8.out.t.r p _ hs2
              obtain ⟨gq, cq, hvq, _, _, ⟨_, _, hv2, _⟩, _⟩ := own_cp (n := 0) hrow (j := sl.length) (by simp)
              injection hvq with hvq _ _
              injection hvq with hvq
              injection hvq with hvq
              subst hvq
              rw [List.getElem_append_right (Nat.le_refl _)] at hv2
              simp only [Nat.sub_self, List.getElem_cons_zero] at hv2
              have hkm : kk - 1 = (sl.length : Int) := by have := HKK.out; omega
              have hsl0 : (0 : Int) ≤ (sl.length : Int) := by omega
              have hsl1 : (sl.length : Int) < (sl.length : Int) + 1 := by omega
              have HLn : Hid ((O.take k ++ (⟨(p : Int), kk, r2⟩ : Rc) :: O.drop k).length = O.length + 1) := by
                show _ = _
                simp only [List.length_append, List.length_cons, List.length_take, List.length_drop]
                omega
              rw [HYS.out] at HO9
              have hpz : (p : Int) < (n : Int) := by omega
              have hp00 : (0 : Int) ≤ (p : Int) := by omega
              clear hR9 hO9' SO8 ST8 hyl hkY hrow
              go_wp2_with fail
              go_roundg (i - 1)
              case measure => omega
              case rel =>
                exact ⟨i - 1, O.take k ++ ⟨(p : Int), kk, r2⟩ :: O.drop k, Gs2, by rw [show ((i : Int) - 1) = ((i - 1 : Nat) : Int) by omega], by rw [HLn.out]; omega, Nat.le_refl _, HT9.out, by
                  show OwnRc _ _ _ _
                  unfold OwnRc
                  rw [HLn.out]
                  exact HO9.out, by
                  show TwOk _ _
                  rw [HLn.out]
                  exact HOK2.out, HSP.out _ (ins_perm O k _)⟩

      · have hiz : ¬ (0 : Int) < (i : Int) := by omega
        go_wp2_with fail
        go_meet
        exact ⟨O, Gs, by omega, HTr, SO, HOK, HS⟩
  case rest =>
    clear HT2 HOK0 HO0 HS0 hr11
    obtain ⟨O, Gs, hOl, HT, SO, HOK, HS⟩ := hcut
    obtain ⟨A8, c8, rfl, _, _, _⟩ := own_slice SO.out
    have hOw : (O.length : Int) ≤ 29 := by omega
    have hOz : ¬ (O.length : Int) + 1 = 0 := by omega
    go_upto_block 6 with fail
    obtain ⟨sr, hsr, hsr1⟩ : ∃ sr : Nat, x1 % ((O.length : Int) + 1) = sr ∧ sr ≤ O.length := by
      have h1 := Int.emod_nonneg x1 (show (O.length : Int) + 1 ≠ 0 by omega)
      have h2 := Int.emod_lt_of_pos x1 (show (0 : Int) < (O.length : Int) + 1 by omega)
      exact ⟨(x1 % ((O.length : Int) + 1)).toNat, by omega, by omega⟩
    rw [hsr]
    clear hsr hx0 hx2
    obtain ⟨T, hT⟩ : ∃ T, Gs.map Gr.l = T := ⟨_, rfl⟩
    have HS1 : Hid (Sent T O) := by show Sent T O; rw [← hT]; exact HS.out
    have HR1 : Hid (Rcd T (Gs.map Gr.l) O 0) := by show Rcd T _ O 0; rw [hT]; exact Rcd.start HS1.out
    clear hT HS
    go_cut [15] (fun s15 wx => ∃ Gs : List (Gr Cp), Aside (TwAt c bt 0 W0' W0 g n Gs wx) ∧ Aside (OwnRc wx W0.heap.size (.slice A8 O.length c8) O) ∧ Hid (TwOk Gs O.length) ∧ Hid (Rcd T (Gs.map Gr.l) O sr))
    case first =>
      go_wp2_with fail
      go_loopg [15] sr (fun kx s15 wr => ∃ (r : Nat) (Gs : List (Gr Cp)), s15 = .int .i64 r ∧ r ≤ sr ∧ sr - r ≤ kx ∧ Aside (TwAt c bt 0 W0' W0 g n Gs wr) ∧ Aside (OwnRc wr W0.heap.size (.slice A8 O.length c8) O) ∧ Hid (TwOk Gs O.length) ∧ Hid (Rcd T (Gs.map Gr.l) O r))
      case atStart => exact ⟨0, Gs, rfl, Nat.zero_le _, by omega, HT, SO, HOK, HR1⟩
      case round =>
        clear HT SO HOK HR1
        obtain ⟨r, Gs, rfl, hr, hkx, HT, SO, HOK, HR⟩ := hrel
        by_cases hlt : r < sr
        · have hltz : (r : Int) < (sr : Int) := by omega
          have hr0 : (0 : Int) ≤ (r : Int) := by omega
          have hrO : r < O.length := by omega
          have hrOz : (r : Int) < (O.length : Int) := by omega
          obtain ⟨p, cs', hp', hfrm, hlen, hR2⟩ := HR.out.next HS1.out hrO
          have hxm : O[r] ∈ O := List.getElem_mem hrO
          obtain ⟨s, hs, hse⟩ : ∃ s, Gs[p]? = some s ∧ s.l = cs' := by
            rw [List.getElem?_map] at hp'
            cases hg : Gs[p]? with
            | none => rw [hg] at hp'; cases hp'
            | some s => rw [hg] at hp'; injection hp' with hp'; exact ⟨s, rfl, hp'⟩
          obtain ⟨sA, sc, sl⟩ := s
          simp only at hse
          subst hse
          have hpn : p < n := by have := (List.getElem?_eq_some_iff.1 hs).1; rw [HT.out.nn] at this; exact this
          have hslB := HOK.out _ (List.mem_of_getElem? hs)
          have hsl : sl.length ≤ O.length := hslB.1
          obtain ⟨A8', c8', hv8, hs8⟩ := rc_own SO.out (Ext.refl _)
          injection hv8 with h8a _ h8c
          subst h8a
          subst h8c
          obtain ⟨ab, aoff, rfl, e0, e1, e2⟩ := Rc.at_ hs8 hrO
          have hat := HS1.out.at_ hxm
          obtain ⟨p2, cs2, i2, c2, h21, h22, h23, h24⟩ := hat
          have hi2 : i2 < O.length := Nat.lt_of_lt_of_le (List.getElem?_eq_some_iff.1 h22).1 (HS1.out.len h21)
          have hss : O[r].ssn = (i2 : Int) + 1 := by rw [h23]
          have hvok : InI64 O[r].val := by
            obtain ⟨cs3, k1, k2, k3⟩ := HR.out.row p2 cs2 h21
            obtain ⟨r3, k4, _⟩ := k3 i2 c2 h22
            rw [List.getElem?_map] at k1
            cases hg : Gs[p2]? with
            | none => rw [hg] at k1; cases k1
            | some s3 =>
              rw [hg] at k1
              injection k1 with k1
              have k5 := (HOK.out s3 (List.mem_of_getElem? hg)).2 _ (by rw [k1]; exact List.mem_of_getElem? k4)
              rw [h23]
              exact k5.2.2.1
          have HVOK := Lib.hid hvok
          rw [hfrm] at e0
          obtain ⟨xs, hxs⟩ : ∃ xs, O[r].ssn = xs := ⟨_, rfl⟩
          obtain ⟨xv, hxv⟩ : ∃ xv, O[r].val = xv := ⟨_, rfl⟩
          have HLEN : Hid ((recFrom sl ⟨9, xs, xv, (r : Int) + 1⟩).length = sl.length) := by show _ = _; rw [← hxs, ← hxv]; exact hlen
          have HR2 : Hid (Rcd T ((Gs.map Gr.l).set p (recFrom sl ⟨9, xs, xv, (r : Int) + 1⟩)) O (r + 1)) := by show Rcd _ _ _ _; rw [← hxs, ← hxv]; exact hR2
          have hXOK : Cp.ok ⟨9, xs, xv, (r : Int) + 1⟩ := ⟨inI 9 (by omega) (by omega), by rw [← hxs, hss]; exact inI ((i2 : Int) + 1) (by omega) (by omega), by rw [← hxv]; exact HVOK.out, inI ((r : Int) + 1) (by omega) (by omega)⟩
          have HOK2 : Hid (∀ (A : Option Addr) (c9 : Nat), TwOk (Gs.set p ⟨A, c9, recFrom sl ⟨9, xs, xv, (r : Int) + 1⟩⟩) O.length) := (fun A c9 t ht => by
            rcases List.mem_or_eq_of_mem_set ht with h | h
            · exact HOK.out t h
            · subst h
              refine ⟨by rw [HLEN.out]; exact hsl, fun y hy => ?_⟩
              rcases rec_mem hy with h | h
              · exact hslB.2 y h
              · rw [h]; exact hXOK)
          rw [hxs] at e1
          rw [hxv] at e2
          clear hXOK HVOK hvok hss h21 h22 h23 h24 hi2 hxm hlen hR2 hp' hfrm hxs hxv hslB hs8
          go_upto_region 30 with fail
          have hEa : Ext wr (wr.alloc (.cells #[.int .i64 (p : Int), .int .i64 xs, .int .i64 xv] 54)) := (Ext.refl wr).allocs _
          obtain ⟨W3, hW3⟩ : ∃ W3, wr.alloc (.cells #[.int .i64 (p : Int), .int .i64 xs, .int .i64 xv] 54) = W3 := ⟨_, rfl⟩
          have hB3 : Blk (wr.alloc (.cells #[.int .i64 (p : Int), .int .i64 xs, .int .i64 xv] 54)) wr.heap.size 54 #[.int .i64 (p : Int), .int .i64 xs, .int .i64 xv] := Blk.new wr _ _
          rw [hW3] at hEa hB3 ⊢
          obtain ⟨gB, hgB⟩ : ∃ gB, wr.heap.size = gB := ⟨_, rfl⟩
          rw [hgB] at hB3 ⊢
          have HT3 := Lib.hid (HT.out.ext (Below.drew hEa))
          have SO3 := Lib.hid (own_extD SO.out (Below.drew hEa))
          have hcc : W3.drew.cell? ⟨gB, 0, none⟩ = some (.int .i64 (p : Int)) ∧ W3.drew.cell? ⟨gB, 1, none⟩ = some (.int .i64 xs) ∧ W3.drew.cell? ⟨gB, 2, none⟩ = some (.int .i64 xv) ∧ W3.drew.cell? ⟨g, p, none⟩ = some (.slice sA sl.length sc) := by
            have h4 := HT3.out.t.cell hs
            unfold Gr.val at h4
            dsimp only at h4
            have hB4 : Blk W3.drew gB 54 #[.int .i64 (p : Int), .int .i64 xs, .int .i64 xv] := hB3
            exact ⟨by rw [hB4.cell]; rfl, by rw [hB4.cell]; rfl, by rw [hB4.cell]; rfl, h4⟩
          have hpz : (p : Int) < (n : Int) := by omega
          have hp00 : (0 : Int) ≤ (p : Int) := by omega
          have hwr : IntKind.i64.wrap ((r : Int) + 1) = (r : Int) + 1 := IntWalk.i64_in _ (by omega)
          clear e0 e1 e2 hW3 hgB hB3 hEa HT SO
          refine wp_region_sched (by kernel_rfl) 17 [(0, true), (1, true), (2, true), (3, true), (4, true), (5, true), (6, true), (7, true), (8, true), (9, true), (10, true), (11, true), (12, true), (13, true), (14, true), (15, false), (16, true), (17, false)] (fun w' => w'.cell? ⟨gB, 0, none⟩ = some (.int .i64 (p : Int)) ∧ w'.cell? ⟨gB, 1, none⟩ = some (.int .i64 xs) ∧ w'.cell? ⟨gB, 2, none⟩ = some (.int .i64 xv) ∧ w'.cell? ⟨g, p, none⟩ = some (.slice sA sl.length sc)) (by kernel_rfl) (fun _ _ dd _ _ h => by cases dd <;> exact h) hcc (fun hHeld => ?_)
          iterate 15 ((refine sched_read (v := ?_) rfl (Or.inl ⟨by rfl, ?_⟩) hHeld ?_; rotate_left 1; · (intro w' hSw; obtain ⟨t0, t1, t2, t3⟩ := hSw; go_simp; (first | done | with_reducible rfl))); (try simp only [Act.put, List.setIfInBounds_toArray, List.set_cons_zero, List.set_cons_succ]))
          refine sched_eff rfl (fun K hK => ?_)
          have hrec : Calls Try.prog 24 #[.slice sA sl.length sc, .agg #[.int .i64 9, .int .i64 xs, .int .i64 xv, .int .i64 ((r : Int) + 1)]] W3.drew _ := record_sl sA sc sl ⟨9, xs, xv, (r : Int) + 1⟩ W3.drew (GOwn.rowSeg HT3.out.t hs) (by omega)
          go_simp
          refine hrec.mono ?_
          rintro e w4 ⟨v4, rfl, hown4, hE4⟩
          obtain ⟨A4, c4, rfl, _, _, _⟩ := own_slice hown4
          obtain ⟨x9, y9, hT9⟩ := HT3.out.put hww hcl hs hE4 hown4
          have hO9 := own_tabE (p := p) HT3.out SO3.out hE4 (.slice A4 (recFrom sl ⟨9, xs, xv, (r : Int) + 1⟩).length c4)
          have hcc2 : w4.cell? ⟨gB, 0, none⟩ = some (.int .i64 (p : Int)) ∧ w4.cell? ⟨gB, 1, none⟩ = some (.int .i64 xs) ∧ w4.cell? ⟨gB, 2, none⟩ = some (.int .i64 xv) ∧ w4.cell? ⟨g, p, none⟩ = some (.slice sA sl.length sc) := ⟨cell_ext hE4 hcc.1, cell_ext hE4 hcc.2.1, cell_ext hE4 hcc.2.2.1, x9⟩
          clear hrec
          go_simp
          refine hK.out _ _ hcc2 (fun hHeld => ?_)
          clear hK K
          try simp only [Act.put, List.setIfInBounds_toArray, List.set_cons_zero, List.set_cons_succ]
          iterate 1 ((refine sched_read (v := ?_) rfl (Or.inl ⟨by rfl, ?_⟩) hHeld ?_; rotate_left 1; · (intro w' hSw; obtain ⟨t0, t1, t2, t3⟩ := hSw; go_simp; (first | done | with_reducible rfl))); (try simp only [Act.put, List.setIfInBounds_toArray, List.set_cons_zero, List.set_cons_succ]))
          refine sched_tail rfl (by decide) (fun K hK => ?_)
          go_simp
          refine hK.out _ _ ?_
          clear hK K
          refine sched_done ?_
          have HT9 := Lib.hid hT9
          have SO9 := Lib.hid hO9
          have HG2 : Hid (Rcd T ((Gs.set p ⟨A4, c4, recFrom sl ⟨9, xs, xv, (r : Int) + 1⟩⟩).map Gr.l) O (r + 1)) := by show Rcd _ _ _ _; rw [map_set]; exact HR2.out
          clear x9 y9 hT9 hO9 hown4 hE4 hcc hcc2 HT3 SO3 HR HOK HR2
          go_wp2_with fail
          go_roundg (sr - (r + 1))
          case measure => omega
          case rel => exact ⟨r + 1, _, by go_num, by omega, Nat.le_refl _, HT9.out, SO9.out, HOK2.out _ _, HG2⟩
        · obtain rfl : r = sr := by omega
          have hltz : ¬ (r : Int) < (r : Int) := by omega
          go_wp2_with fail
          go_meet
          exact ⟨Gs, HT, SO, HOK, HR⟩
    case rest =>
      clear HT SO HOK HR1
      obtain ⟨Gs, HT, SO, HOK, HR⟩ := hcut
      have htab := tab_ok HT.out.t HOK.out (by rw [HT.out.nn]; exact hn4) (by omega)
      have hrb := rebuild_sl (some ⟨g, 0, none⟩) n (trs Gs) 9 wc htab.1 htab.2.1 htab.2.2.1 (htab.2.2.2.2 9) htab.2.2.2.1
      rw [show (trs Gs).length = n by rw [trs_len]; exact HT.out.nn] at hrb
      have e7 : (trs Gs).map TR.cs = Gs.map Gr.l := by unfold trs; rw [List.map_map]; rfl
      rw [e7] at hrb
      have HEw : Aside (Ext w wc) := HE0.out.grownRow HCW.out HT.out.d.1
      have HREC := Lib.hid (fun l N (h : Reb (tabE 9 (Gs.map Gr.l) 0) l N) => recovered HS1.out HR.out hsr1 h)
      have HND := Lib.hid HS1.out.nodup
      clear htab e7 HT HOK HR HS1
      go_wp2_with fail
      refine hrb.mono ?_
      rintro e w5 ⟨v5, l, N, rfl, hown5, hreb, hl4, hN5, hE5⟩
      obtain ⟨rfl, htk, hperm⟩ := HREC.out l N hreb
      obtain ⟨A5, c5, rfl, hs5, hc5, hc5m⟩ := own_slice hown5
      obtain ⟨A8', c8', hv8, hs8, hc8, hc8m⟩ := own_slice (own_extD SO.out hE5)
      injection hv8 with h8a _ h8c
      subst h8a
      subst h8c
      have HEw5 : Aside (Ext w w5) := HEw.out.trans hE5
      have hll : l.length = O.length := hperm.length_eq
      rw [hll]
      rw [hll] at hc5 hN5
      have HS5 : Aside (RcSeg w5 A5 l) := hs5
      have HS8 : Aside (RcSeg w5 A8 O) := hs8
      have hsl1 := fun w => run_uptoR w A5 O.length c5 N (N : Int) rfl (by omega)
      have hsl2 := fun w => run_uptoR w A8 O.length c8 N (N : Int) rfl (by omega)
      simp only [add0] at hsl1 hsl2
      have hsame : ∀ W, Ext w5 W → Calls Try.prog 29 #[.slice A5 N c5, .slice A8 N c8] W fun e w' => e = .returned (.bool true) ∧ ∃ q, w' = W.drewN q := fun W hW => by
        have h1 := (RcSeg.pre HS5.out (k := N) (by omega)).ext hW
        have h2 := (RcSeg.pre HS8.out (k := N) (by omega)).ext hW
        rw [htk] at h1
        have h3 := sameRc_any A5 A8 c5 c8 (O.take N) W h1 h2 (by rw [List.length_take]; omega)
        rw [show (O.take N).length = N by rw [List.length_take]; omega] at h3
        exact h3
      have HSAME := Lib.hid hsame
      have HP := Lib.hid hperm
      have HLL := Lib.hid hll
      have hq1 : ((N : Int) != (N : Int)) = false := by simp
      have hq2 : ((O.length : Int) != (O.length : Int)) = false := by simp
      clear hrb hown5 hreb hs5 hs8 htk hperm hll HREC SO hsame HEw
      go_upto_region 32 with fail
      have hcl1 := HSAME.out w5.drew (Below.drew (Ext.refl w5))
      refine wp_region_sched (by kernel_rfl) 17 [(0, true), (1, true), (2, true), (3, true), (4, true), (5, true), (6, true), (7, true), (8, true), (9, true), (10, true), (11, true), (12, true), (13, true), (14, true), (15, true), (16, true), (17, false), (18, false), (19, false)] (fun _ => True) (by kernel_rfl) (fun _ _ dd _ _ h => by cases dd <;> exact h) trivial (fun hHeld => ?_)
      iterate 17 ((refine sched_read (v := ?_) rfl (Or.inl ⟨by rfl, ?_⟩) hHeld ?_; rotate_left 1; · (intro w' hSw; go_simp; (first | done | with_reducible rfl))); (try simp only [Act.put, List.setIfInBounds_toArray, List.set_cons_zero, List.set_cons_succ]))
      refine sched_tail rfl (by decide) (fun K hK => ?_)
      go_simp
      refine hcl1.mono ?_
      rintro e w6 ⟨rfl, q6, rfl⟩
      go_simp
      refine hK.out _ _ ?_
      clear hK K
      iterate 2 ((refine sched_tail rfl (by decide) (fun K hK => ?_)); go_simp; (refine hK.out _ _ ?_); (clear hK K))
      refine sched_done ?_
      have hE6 : Ext w5 (w5.drewN (1 + q6)) := Ext.drewN (Ext.refl w5) _
      obtain ⟨w6, hw6⟩ : ∃ w6, w5.drewN (1 + q6) = w6 := ⟨_, rfl⟩
      rw [hw6] at hE6 ⊢
      have HE6 : Aside (Ext w5 w6) := hE6
      clear hw6 hE6 hcl1 HSAME hq1 hq2 hsl1 hsl2
      go_wp2_with fail
      go_loopg [19] O.length (fun kx s19 wr => ∃ i : Nat, s19 = .int .i64 i ∧ i ≤ O.length ∧ O.length - i ≤ kx ∧ Aside (Ext w5 wr))
      case atStart => exact ⟨0, rfl, Nat.zero_le _, by omega, HE6⟩
      case round =>
        clear HE6
        obtain ⟨i, rfl, hi, hkx, HE6⟩ := hrel
        by_cases hlt : i < O.length
        · have hltz : (i : Int) < (O.length : Int) := by omega
          have hi0 : (0 : Int) ≤ (i : Int) := by omega
          have HC1 : Hid (l.count O[i] = 1) := count_one HP.out HND.out hlt
          obtain ⟨A8', off8, rfl, z0, z1, z2⟩ := Rc.at_ HS8.out hlt
          obtain ⟨x, hx⟩ : ∃ x, O[i] = x := ⟨_, rfl⟩
          have HC : Hid (l.count x = 1) := by show _ = _; rw [← hx]; exact HC1.out
          rw [hx] at z0 z1 z2
          have hy : ∀ W, Ext w5 W → W.cell? ⟨A8', off8 + i * 3, none⟩ = some (.int .i64 x.frm) ∧ W.cell? ⟨A8', off8 + i * 3 + 1, none⟩ = some (.int .i64 x.ssn) ∧ W.cell? ⟨A8', off8 + i * 3 + 2, none⟩ = some (.int .i64 x.val) := fun W hW => ⟨cell_ext hW z0, cell_ext hW z1, cell_ext hW z2⟩
          have HY := Lib.hid hy
          clear HC1 hx z0 z1 z2 hy
          go_upto_block 10 with fail
          go_cut [20] (fun s20 wx => s20 = .int .i64 1 ∧ Aside (Ext w5 wx))
          case first =>
            go_wp2_with fail
            go_loopg [20, 21] O.length (fun kx s20 s21 wr => ∃ j t : Nat, s21 = .int .i64 j ∧ s20 = .int .i64 t ∧ t ≤ j ∧ j ≤ O.length ∧ O.length - j ≤ kx ∧ Hid (t = (l.take j).count x) ∧ Aside (Ext w5 wr))
            case atStart => exact ⟨0, 0, rfl, rfl, Nat.le_refl _, Nat.zero_le _, by omega, by show _ = _; simp, HE6⟩
            case round =>
              clear HE6
              obtain ⟨j, t, rfl, rfl, htj, hj, hkx2, HT, HE6⟩ := hrel
              have hl := HLL.out
              by_cases hlt2 : j < O.length
              · have hlt2z : (j : Int) < (O.length : Int) := by omega
                have hj0 : (0 : Int) ≤ (j : Int) := by omega
                have hjl : j < l.length := by omega
                obtain ⟨y0, y1, y2⟩ := HY.out wr HE6.out
                obtain ⟨b5, off5, hA5, u0, u1, u2⟩ := Rc.at_ (RcSeg.ext' HS5.out HE6.out) hjl
                obtain ⟨y, hy⟩ : ∃ y, l[j] = y := ⟨_, rfl⟩
                rw [hy] at u0 u1 u2
                have HN : Hid ((l.take (j + 1)).count x = (l.take j).count x + if y = x then 1 else 0) := by
                  show _ = _
                  rw [List.take_succ_eq_append_getElem hjl, List.count_append, hy, List.count_singleton]
                  by_cases e : y = x
                  · simp [e]
                  · simp [e]
                have heq := fun w => eql_rc w y x
                subst hA5
                clear hy hjl hl
                by_cases e : y = x
                · rw [show decide (y = x) = true from decide_eq_true e] at heq
                  have HN2 : Hid (t + 1 = (l.take (j + 1)).count x) := by show _ = _; rw [HN.out, if_pos e, HT.out]
                  clear e HN HT
                  go_wp2_with fail
                  go_quiet (fail)
                  go_wp2_with fail
                  go_roundg (O.length - (j + 1))
                  case measure => omega
                  case rel => exact ⟨j + 1, t + 1, by go_num, by go_num, by omega, by omega, Nat.le_refl _, HN2, HE6.out.drewN _⟩
                · rw [show decide (y = x) = false from decide_eq_false e] at heq
                  have HN2 : Hid (t = (l.take (j + 1)).count x) := by show _ = _; rw [HN.out, if_neg e, HT.out]; rfl
                  clear e HN HT
                  go_wp2_with fail
                  go_quiet (fail)
                  go_wp2_with fail
                  go_roundg (O.length - (j + 1))
                  case measure => omega
                  case rel => exact ⟨j + 1, t, by go_num, rfl, by omega, by omega, Nat.le_refl _, HN2, HE6.out.drewN _⟩
              · have hlt2z : ¬ (j : Int) < (O.length : Int) := by omega
                have ht1 : t = 1 := by
                  have h1 := HT.out
                  rw [List.take_of_length_le (by omega), HC.out] at h1
                  exact h1
                subst ht1
                clear hl HT
                go_wp2_with fail
                go_meet
                exact ⟨rfl, HE6⟩
          case rest =>
            clear HE6
            obtain ⟨rfl, HE6⟩ := hcut
            go_wp2_with fail
            go_roundg (O.length - (i + 1))
            case measure => omega
            case rel => exact ⟨i + 1, by go_num, by omega, Nat.le_refl _, HE6⟩
        · have hltz : ¬ (i : Int) < (O.length : Int) := by omega
          go_wp2_with fail
          go_ret
          exact ⟨rfl, HEw5.out.trans HE6.out⟩
end Go.Proofs.Ytooegndajfopkaa
