/- tables of the law. No statement of the seat is proved here. -/
import Derived.Test.YtooegndajfopkaaTabOwn
import Derived.Test.YtooegndajfopkaaRRebuild
namespace Go.Proofs.Ytooegndajfopkaa
open Go.RowKit
set_option linter.unusedVariables false
set_option maxRecDepth 100000

theorem infoCps : (Try.prog.info? 40).map (fun i => (i.zero, i.size, i.bytes)) = some (some (.slice none 0 0), 1, 24) := by kernel_rfl
abbrev zG : Gr Cp := ⟨none, 0, []⟩
theorem mk_cprows (n : Nat) (hn : n ≤ 1000) (w : World) : (Instr.makeSlice 46 (.int .i64 (n : Int)) (.int .i64 (n : Int))).run Try.prog w =
    .ok (.slice (some ⟨w.heap.size, 0, none⟩) n n) (w.alloc (.cells ((List.replicate n zG).flatMap Gr.cells).toArray 40)) := by
  obtain ⟨i0, hi, hz0, hz1, hz2⟩ := info_parts infoCps
  rw [run_make w 46 40 i0 _ Try.underlying46 hi hz0 .i64 .i64 _ _ (by omega) (Int.le_refl _) (by rw [hz2]; omega) (by omega)]
  rw [hz1, show ((n : Int)).toNat = n by omega, made_flat Gr.cells 1 (by omega) Gr.len zG (Value.slice none 0 0).cells rfl]
abbrev GC (W : World) (base g : Nat) (Gs : List (Gr Cp)) : Prop := GOwn Cp.cells 4 42 40 W base g Gs
/-- the table so far -/
structure TwAt (c : Nat) (bs : List Int) (k : Nat) (w W0 : World) (g n : Nat) (Gs : List (Gr Cp)) (W : World) : Prop where
  d : Drew c bs k w W
  gr : W0.grownBy W (some c)
  t : GC W W0.heap.size g Gs
  nn : Gs.length = n
  hb : W0.heap.size ≤ g
section
variable {c : Nat} {bs : List Int} {k : Nat} {w W0 : World} {g n : Nat} {Gs : List (Gr Cp)} {W W' : World}
theorem TwAt.ext (h : TwAt c bs k w W0 g n Gs W) (hE : Ext W W') : TwAt c bs k w W0 g n Gs W' := ⟨h.d.post hE, grownBy_trans h.gr (grownBy_ext hE), h.t.ext hE, h.nn, h.hb⟩
theorem TwAt.draw (h : TwAt c bs k w W0 g n Gs W) (hD : Drew c bs k w W') (hg : W.grownBy W' (some c)) (hc : c < W0.heap.size) : TwAt c bs k w W0 g n Gs W' :=
  ⟨hD, grownBy_trans h.gr hg, h.t.low hg (by have := h.hb; omega) hc, h.nn, h.hb⟩
theorem TwAt.push (h : TwAt c bs k w W0 g n Gs W) (hw0 : w.heap.size ≤ W0.heap.size) (hc : c < w.heap.size) {q : Nat} {s : Gr Cp} (hs : Gs[q]? = some s) {g9 c9 : Nat} {x : Cp} {W9 : World}
    (hown : W9.ownsRow W0.heap.size 42 4 (.slice (some ⟨g9, 0, none⟩) (s.l.length + 1) c9) (s.l ++ [x]).length ((s.l ++ [x]).flatMap Cp.cells)) (hg : W.grownBy W9 (Gr.val s).ownBlock) (hd : (Gr.val s).ownBlock = some g9 ∨ g9 = W.heap.size) :
    W9.cell? ⟨g, q, none⟩ = some (Gr.val s) ∧ W9.frozen? ⟨g, q, none⟩ = false ∧ TwAt c bs k w W0 g n (Gs.set q ⟨some ⟨g9, 0, none⟩, c9, s.l ++ [x]⟩) (W9.setCell ⟨g, q, none⟩ (.slice (some ⟨g9, 0, none⟩) (s.l.length + 1) c9)) := by
  have hrow := h.t.r q s hs
  have hb9 : Blk W9 g 40 (Gs.flatMap Gr.cells).toArray := (hg.block g h.t.b.lt (fun e => by
    obtain ⟨cs, hB⟩ := own_blk hrow e.symm
    exact absurd (blk_type hB h.t.b) (by decide))).trans h.t.b
  have hs1 := grown_set1 W9 g q (.slice (some ⟨g9, 0, none⟩) (s.l.length + 1) c9)
  have hr1 : ∀ r, (Gr.val s).ownBlock = some r → W0.heap.size ≤ r := fun r e => (hrow.lt r e).1
  refine ⟨?_, hb9.frozen q, ?_, ?_, h.t.push (by decide) hs hown hg hd, by rw [List.length_set]; exact h.nn, h.hb⟩
  · have := Blk.tabAt hb9 Gr.len hs (j := 0) (by omega) (u := Gr.val s) rfl
    simpa using this
  · exact (h.d.grown hg (fun r e => by have := hr1 r e; omega) hc).grown hs1 (fun r e => by injection e; have := h.hb; omega) hc
  · exact grown_new2 (grown_new2 h.gr hg hr1) hs1 (fun r e => by injection e; have := h.hb; omega)
end
/-- bounds of the table -/
def TwOk (Gs : List (Gr Cp)) (B : Nat) : Prop := ∀ s ∈ Gs, s.l.length ≤ B ∧ ∀ x ∈ s.l, x.ok
theorem TwOk.push {Gs : List (Gr Cp)} {B : Nat} (h : TwOk Gs B) {q : Nat} {s : Gr Cp} (hs : Gs[q]? = some s) {A : Option Addr} {c : Nat} {x : Cp} (hx : x.ok) : TwOk (Gs.set q ⟨A, c, s.l ++ [x]⟩) (B + 1) :=
  fun t ht => by
    rcases List.mem_or_eq_of_mem_set ht with h' | h'
    · exact ⟨by have := (h t h').1; omega, (h t h').2⟩
    · subst h'
      have h1 := h s (List.mem_of_getElem? hs)
      refine ⟨by simp only [List.length_append, List.length_singleton]; omega, fun d hd => ?_⟩
      rcases List.mem_append.1 hd with hd | hd
      · exact h1.2 d hd
      · rw [List.mem_singleton] at hd; subst hd; exact hx
/-- rows as the walks of Rebuild read them -/
def trs (Gs : List (Gr Cp)) : List TR := Gs.map (fun s => ⟨s.A, s.c, s.l⟩)
theorem trs_len (Gs : List (Gr Cp)) : (trs Gs).length = Gs.length := by simp [trs]
theorem trs_seg {W : World} {base g : Nat} {Gs : List (Gr Cp)} (h : GC W base g Gs) : TabSeg W (some ⟨g, 0, none⟩) (trs Gs) := by
  have hs := h.seg
  refine ⟨?_, fun r hr => ?_⟩
  · rw [trs_len]
    have e : (trs Gs).flatMap TR.cells = Gs.flatMap Gr.cells := by unfold trs; rw [List.flatMap_map]; rfl
    rw [e]
    exact hs.1
  · obtain ⟨s, hs1, rfl⟩ := List.mem_map.1 hr
    exact hs.2 s hs1
theorem rowE_len (tg : Int) (p : Nat) : ∀ (cs : List Cp) (i : Nat), (rowE tg p cs i).length ≤ cs.length := by
  intro cs
  induction cs with
  | nil => intro i; simp [rowE]
  | cons c cs ih =>
    intro i
    rw [rowE]
    have := ih (i + 1)
    split <;> simp <;> omega
theorem tabE_len (tg : Int) (B : Nat) : ∀ (T : List (List Cp)) (p : Nat), (∀ cs ∈ T, cs.length ≤ B) → (tabE tg T p).length ≤ T.length * B := by
  intro T
  induction T with
  | nil => intro p _; simp [tabE]
  | cons cs T ih =>
    intro p h
    rw [tabE, List.length_append, List.length_cons, Nat.add_mul, Nat.one_mul]
    have h1 := ih (p + 1) (fun c hc => h c (List.mem_cons_of_mem _ hc))
    have h2 := rowE_len tg p cs 0
    have h3 := h cs (List.mem_cons_self)
    omega
def sumL (R : List TR) : Nat := (R.map (fun r => 1 + r.cs.length)).sum
theorem tabE_sum (tg : Int) : ∀ (R : List TR) (p : Nat), (tabE tg (R.map TR.cs) p).length ≤ sumL R := by
  intro R
  induction R with
  | nil => intro p; simp [tabE]
  | cons r R ih =>
    intro p
    rw [List.map_cons, tabE, List.length_append]
    have h1 := ih (p + 1)
    have h2 := rowE_len tg p r.cs 0
    unfold sumL at *
    rw [List.map_cons, List.sum_cons]
    omega
/-- a table in memory that Rebuild takes -/
def TabOk (W : World) (A : Option Addr) (R : List TR) : Prop := TabSeg W A R ∧ (∀ r ∈ R, ∀ x ∈ r.cs, x.ok) ∧ R.length ≤ 200 ∧ (∀ r ∈ R, r.cs.length ≤ 200) ∧ ∀ tg, (tabE tg (R.map TR.cs) 0).length ≤ 200
theorem TabOk.ext {W W' : World} {A : Option Addr} {R : List TR} (h : TabOk W A R) (hE : Ext W W') : TabOk W' A R := ⟨h.1.ext hE, h.2⟩
def TabPost (w : World) (e : Ending) (w' : World) : Prop := ∃ (A : Option Addr) (c : Nat) (R : List TR), e = .returned (.slice A R.length c) ∧ TabOk w' A R ∧ Ext w w'
theorem tab_ok {W : World} {base g B : Nat} {Gs : List (Gr Cp)} (h : GC W base g Gs) (ho : TwOk Gs B) (hn : Gs.length ≤ 4) (hB : B ≤ 40) : TabOk W (some ⟨g, 0, none⟩) (trs Gs) := by
  have hm : ∀ r ∈ trs Gs, ∃ s ∈ Gs, r.cs = s.l := fun r hr => by
    obtain ⟨s, hs, rfl⟩ := List.mem_map.1 hr
    exact ⟨s, hs, rfl⟩
  refine ⟨trs_seg h, fun r hr => ?_, by rw [trs_len]; omega, fun r hr => ?_, fun tg => ?_⟩
  · obtain ⟨s, hs, e⟩ := hm r hr
    rw [e]
    exact (ho s hs).2
  · obtain ⟨s, hs, e⟩ := hm r hr
    rw [e]
    have := (ho s hs).1
    omega
  · have := tabE_len tg 40 ((trs Gs).map TR.cs) 0 (fun cs hcs => by
      obtain ⟨r, hr, rfl⟩ := List.mem_map.1 hcs
      obtain ⟨s, hs, e⟩ := hm r hr
      rw [e]
      have := (ho s hs).1
      omega)
    rw [List.length_map, trs_len] at this
    omega

set_option maxHeartbeats 6400000 in
theorem tables_any (A : Option Addr) (cap : Nat) (bs : List Int) (w : World) (hsb : Seg w 1 A bs.length (bs.map (Value.int .u8))) (hcap : bs.length ≤ cap) (hcap2 : cap ≤ maxLen) (hv : ∀ b ∈ bs, 0 ≤ b ∧ b < 256) :
    Calls Try.prog 28 #[.slice A bs.length cap] w (TabPost w) := by
  have hnew := new_any A cap bs 250 w hsb hcap hcap2 (by omega) hv
  obtain ⟨bt, hbt⟩ : ∃ bt, bt = bs.take 250 := ⟨_, rfl⟩
  rw [← hbt] at hnew
  clear hbt hsb hv
  go_enter Try.func28, Try.ntmps28
  go_wp2_with fail
  refine hnew.mono ?_
  rintro e W0' ⟨rfl, hC, hE⟩
  obtain ⟨c, hc⟩ : ∃ c, w.heap.size = c := ⟨_, rfl⟩
  rw [hc] at hC
  have hcl0 : c < W0'.heap.size := hC.lt
  have HCW := Lib.hid (show w.heap.size ≤ c by omega)
  have HE0 : Aside (Ext w W0') := hE
  have HD0 := Lib.hid (Drew.start hC W0' (Ext.refl _))
  rw [hc]
  have HC := Lib.hid hC
  clear hc hnew hE hC
  go_wp2_with fail
  refine (next_any' c bt 0 W0' HC.out 4 (by omega) (by omega)).mono ?_
  rintro e W0 ⟨r0, rfl, ⟨hr00, hr01⟩, hD1⟩
  have hcl : c < W0'.heap.size := hcl0
  have hww : W0'.heap.size ≤ W0.heap.size := hD1.1.size
  have hcW : c < W0.heap.size := by omega
  obtain ⟨n, hn⟩ : ∃ n : Nat, 1 + r0 = n := ⟨(1 + r0).toNat, by omega⟩
  have hn1 : 1 ≤ n := by omega
  have hn4 : n ≤ 4 := by omega
  have hmk := mk_cprows n (by omega) W0
  have HT0 : Aside (TwAt c bt 0 W0' W0 W0.heap.size n (List.replicate n zG) (W0.alloc (.cells ((List.replicate n zG).flatMap Gr.cells).toArray 40))) :=
    ⟨hD1.alloc _, grownBy_ext ((Ext.refl W0).allocs _), GOwn.start (Blk.new W0 _ _), by simp, Nat.le_refl _⟩
  clear hr00 hr01 hD1
  have hn' : (n : Int) ≤ 4 := by omega
  have hn1' : (1 : Int) ≤ n := by omega
  go_upto_region 3 with fail
  obtain ⟨W1, hW1⟩ : ∃ W1, W0.alloc (.cells ((List.replicate n zG).flatMap Gr.cells).toArray 40) = W1 := ⟨_, rfl⟩
  obtain ⟨g, hg⟩ : ∃ g, W0.heap.size = g := ⟨_, rfl⟩
  have HT1 : Aside (TwAt c bt 0 W0' W0 g n (List.replicate n zG) W1) := by
    have h := HT0.out
    rw [hW1] at h
    rw [← hg]
    exact h
  rw [hW1, hg]
  clear HT0 hmk hW1 hg hn
  go_wp2_with fail
  refine (next_on HT1.out.d (Ext.refl _) 16 (by omega) (by omega)).mono ?_
  rintro e W2 ⟨r1, rfl, ⟨hr10, hr11⟩, hD2, hg2⟩
  have HT2 : Aside (TwAt c bt 0 W0' W0 g n (List.replicate n zG) W2) := HT1.out.draw hD2 hg2 hcW
  obtain ⟨i0, rfl⟩ : ∃ i : Nat, r1 = i := ⟨r1.toNat, by omega⟩
  have HOK0 : Hid (TwOk (List.replicate n zG) 0) := (fun s hs => by
    rw [List.eq_of_mem_replicate hs]
    exact ⟨Nat.le_refl _, fun x hx => by cases hx⟩ : TwOk (List.replicate n zG) 0)
  clear HT1 hD2 hg2 hr10
  go_wp2_with fail
  go_loopg [5] 16 (fun kx s5 wr => ∃ (i B : Nat) (Gs : List (Gr Cp)), s5 = .int .i64 i ∧ i + B ≤ 16 ∧ i ≤ kx ∧ Aside (TwAt c bt 0 W0' W0 g n Gs wr) ∧ Hid (TwOk Gs B))
  case atStart => exact ⟨i0, 0, _, rfl, by omega, by omega, HT2, HOK0⟩
  case round =>
    clear HT2 HOK0 hr11
    obtain ⟨i, B, Gs, rfl, hiB, hik, HTr, HOK⟩ := hrel
    by_cases hi : 0 < i
    · have hiz : (0 : Int) < (i : Int) := by omega
      go_wp2_with fail
      refine (next_on HTr.out.d (Ext.refl _) (n : Int) (by omega) (by omega)).mono ?_
      rintro e wq ⟨r0, rfl, ⟨hp0, hp1⟩, hdq, hgq⟩
      have HT := Lib.hid (HTr.out.draw hdq hgq hcW)
      obtain ⟨p, rfl⟩ : ∃ p : Nat, r0 = p := ⟨r0.toNat, by omega⟩
      have hpn : p < n := by omega
      obtain ⟨⟨sA, sc, sl⟩, hs⟩ : ∃ s, Gs[p]? = some s := ⟨_, List.getElem?_eq_getElem (by rw [HTr.out.nn]; exact hpn)⟩
      have hsl : sl.length ≤ B := (HOK.out _ (List.mem_of_getElem? hs)).1
      clear hdq hgq HTr
      go_upto_region 7 with fail
      have HT0 := Lib.hid (HT.out.ext (Below.drew (Ext.refl wq)))
      have hc := HT0.out.t.cell hs
      unfold Gr.val at hc
      dsimp only at hc
      refine wp_region_sched (by kernel_rfl) 18 [(0, true), (1, true), (2, true), (3, true), (4, true), (5, true), (6, true), (8, true), (10, true), (12, true), (7, false), (9, false), (11, false), (13, false), (14, true), (15, false), (16, false), (17, true), (18, false)] (fun w' => w'.cell? ⟨g, p, none⟩ = some (.slice sA sl.length sc)) (by kernel_rfl) (fun _ _ dd _ _ h => by cases dd <;> exact h) hc (fun hHeld => ?_)
      clear hc HT
      iterate 10 ((refine sched_read (v := ?_) rfl (Or.inl ⟨by rfl, ?_⟩) hHeld ?_; rotate_left 1; · (intro w' hSw; go_simp; (first | done | with_reducible rfl))); (try simp only [Act.put, List.setIfInBounds_toArray, List.set_cons_zero, List.set_cons_succ]))
      refine sched_eff rfl (fun K hK => ?_)
      go_simp
      refine (next_on HT0.out.d (Ext.refl _) 3 (by omega) (by omega)).mono ?_
      rintro e w1 ⟨r1, rfl, ⟨hr10, hr11⟩, hd1, hg1⟩
      have HT1 := Lib.hid (HT0.out.draw hd1 hg1 hcW)
      have hc := HT1.out.t.cell hs
      unfold Gr.val at hc
      dsimp only at hc
      clear hd1 hg1 HT0
      go_simp
      refine hK.out _ _ hc (fun hHeld => ?_)
      clear hK K
      try simp only [Act.put, List.setIfInBounds_toArray, List.set_cons_zero, List.set_cons_succ]
      clear hc
      refine sched_eff rfl (fun K hK => ?_)
      go_simp
      refine (next_on HT1.out.d (Ext.refl _) 5 (by omega) (by omega)).mono ?_
      rintro e w2 ⟨r2, rfl, ⟨hr20, hr21⟩, hd2, hg2⟩
      have HT2 := Lib.hid (HT1.out.draw hd2 hg2 hcW)
      have hc := HT2.out.t.cell hs
      unfold Gr.val at hc
      dsimp only at hc
      clear hd2 hg2 HT1
      go_simp
      refine hK.out _ _ hc (fun hHeld => ?_)
      clear hK K
      try simp only [Act.put, List.setIfInBounds_toArray, List.set_cons_zero, List.set_cons_succ]
      clear hc
      refine sched_eff rfl (fun K hK => ?_)
      go_simp
      refine (next_on HT2.out.d (Ext.refl _) 9 (by omega) (by omega)).mono ?_
      rintro e w3 ⟨r3, rfl, ⟨hr30, hr31⟩, hd3, hg3⟩
      have HT3 := Lib.hid (HT2.out.draw hd3 hg3 hcW)
      have hc := HT3.out.t.cell hs
      unfold Gr.val at hc
      dsimp only at hc
      clear hd3 hg3 HT2
      go_simp
      refine hK.out _ _ hc (fun hHeld => ?_)
      clear hK K
      try simp only [Act.put, List.setIfInBounds_toArray, List.set_cons_zero, List.set_cons_succ]
      clear hc
      refine sched_eff rfl (fun K hK => ?_)
      go_simp
      refine (next_on HT3.out.d (Ext.refl _) 7 (by omega) (by omega)).mono ?_
      rintro e w4 ⟨r4, rfl, ⟨hr40, hr41⟩, hd4, hg4⟩
      have HT4 := Lib.hid (HT3.out.draw hd4 hg4 hcW)
      have hc := HT4.out.t.cell hs
      unfold Gr.val at hc
      dsimp only at hc
      clear hd4 hg4 HT3
      go_simp
      refine hK.out _ _ hc (fun hHeld => ?_)
      clear hK K
      try simp only [Act.put, List.setIfInBounds_toArray, List.set_cons_zero, List.set_cons_succ]
      clear hc
      iterate 1 ((refine sched_read (v := ?_) rfl (Or.inl ⟨by rfl, ?_⟩) hHeld ?_; rotate_left 1; · (intro w' hSw; go_simp; (first | done | with_reducible rfl))); (try simp only [Act.put, List.setIfInBounds_toArray, List.set_cons_zero, List.set_cons_succ]))
      have hEa : Ext w4 (w4.alloc (.cells (Cp.cells ⟨r1, r2, r3, r4⟩).toArray 42)) := (Ext.refl w4).allocs _
      have HBa : Hid (Blk (w4.alloc (.cells (Cp.cells ⟨r1, r2, r3, r4⟩).toArray 42)) w4.heap.size 42 (Cp.cells ⟨r1, r2, r3, r4⟩).toArray) := Blk.new w4 _ _
      have HTa := Lib.hid (HT4.out.ext hEa)
      have hc := HTa.out.t.cell hs
      unfold Gr.val at hc
      dsimp only at hc
      refine sched_eff rfl (fun K hK => ?_)
      go_simp
      refine hK.out _ _ hc (fun hHeld => ?_)
      clear hK K
      try simp only [Act.put, List.setIfInBounds_toArray, List.set_cons_zero, List.set_cons_succ]
      clear hc HT4
      have hza : W0.heap.size ≤ (w4.alloc (.cells (Cp.cells ⟨r1, r2, r3, r4⟩).toArray 42)).heap.size := by have := HTa.out.gr.size; omega
      refine sched_eff rfl (fun K hK => ?_)
      refine step_push_lies Cp.cells 4 32 Cp.len Cp.one (by omega) (by rfl) _ _ _ (by rfl) W0.heap.size 42 Try.underlying40 (by kernel_rfl) (.slice sA sl.length sc) sl ⟨r1, r2, r3, r4⟩ w4.heap.size (by rfl) (HTa.out.t.r p _ hs) (by rfl) (Seg.ofBlkK HBa.out rfl) (by unfold maxLen; omega) (by omega) hza ?_
      intro g9 c9 w9 hown9 hg9 hd9
      obtain ⟨x9, y9, hT9⟩ := HTa.out.push hww hcl hs hown9 hg9 hd9
      refine hK.out _ _ x9 (fun hHeld => ?_)
      clear hK K
      try simp only [Act.put, List.setIfInBounds_toArray, List.set_cons_zero, List.set_cons_succ]
      iterate 1 ((refine sched_read (v := ?_) rfl (Or.inl ⟨by rfl, ?_⟩) hHeld ?_; rotate_left 1; · (intro w' hSw; go_simp; (first | done | with_reducible rfl))); (try simp only [Act.put, List.setIfInBounds_toArray, List.set_cons_zero, List.set_cons_succ]))
      refine sched_tail rfl (by decide) (fun K hK => ?_)
      go_simp
      refine hK.out _ _ ?_
      clear hK K
      refine sched_done ?_
      have HT9 := Lib.hid hT9
      clear x9 y9 hT9 hown9 hg9 hd9 HTa HBa hEa hza
      have HOK2 : Hid (TwOk (Gs.set p ⟨some ⟨g9, 0, none⟩, c9, sl ++ [⟨r1, r2, r3, r4⟩]⟩) (B + 1)) := HOK.out.push hs ⟨inI r1 hr10 (by omega), inI r2 hr20 (by omega), inI r3 hr30 (by omega), inI r4 hr40 (by omega)⟩
      go_wp2_with fail
      go_roundg (i - 1)
      case measure => omega
      case rel => exact ⟨i - 1, B + 1, _, by rw [show ((i : Int) - 1) = ((i - 1 : Nat) : Int) by omega], by omega, Nat.le_refl _, HT9.out, HOK2⟩
    · have hiz : ¬ (0 : Int) < (i : Int) := by omega
      have hfin : TabOk wr (some ⟨g, 0, none⟩) (trs Gs) := tab_ok HTr.out.t HOK.out (by rw [HTr.out.nn]; exact hn4) (by omega)
      have hlen : Hid ((trs Gs).length = n) := by show _ = _; rw [trs_len]; exact HTr.out.nn
      have HFIN := Lib.hid hfin
      clear hfin
      go_wp2_with fail
      go_ret
      exact ⟨some ⟨g, 0, none⟩, n, trs Gs, by rw [hlen.out]; rfl, HFIN.out, HE0.out.grownRow HCW.out HTr.out.d.1⟩
end Go.Proofs.Ytooegndajfopkaa
