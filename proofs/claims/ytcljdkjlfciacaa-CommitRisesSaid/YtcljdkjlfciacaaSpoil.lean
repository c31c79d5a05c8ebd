/- SpoilLineages of the maker. No statement of the seat is proved here. -/
import Derived.Test.YtcljdkjlfciacaaMk9
namespace Go.Proofs.Ytcljdkjlfciacaa
open Go.RowKit
set_option linter.unusedVariables false

/-- what was written behind the draws -/
def Wrote (c base gl : Nat) (R : List Rw) (w w' : World) : Prop := ∃ (w1 : World) (row : Option Nat), w.grownBy w1 (some c) ∧ w1.grownBy w' row ∧ ∀ r, row = some r → base ≤ r ∧ ∃ (q : Nat) (s : Rw), R[q]? = some s ∧ (Rw.val s).ownBlock = some r
def SpoilPost (c : Nat) (bs : List Int) (k : Nat) (w0 w : World) (base gl : Nat) (R : List Rw) (e : Ending) (w' : World) : Prop :=
  e = .returned (.slice (some ⟨gl, 0, none⟩) R.length R.length) ∧ ∃ R' : List Rw, LinOwn w' base gl R' ∧ R'.length = R.length ∧ (∀ (q : Nat) (s : Rw), R'[q]? = some s → ∃ s0, R[q]? = some s0 ∧ s0.es.length = s.es.length) ∧ (∀ s ∈ R', ∀ e ∈ s.es, e.ok) ∧ Drew c bs k w0 w' ∧ Wrote c base gl R w w'
/-- the state ahead of the store -/
structure SpAt (c : Nat) (bs : List Int) (k : Nat) (w0 w : World) (base gl : Nat) (R : List Rw) (w1 : World) : Prop where
  d : Drew c bs k w0 w1
  l : LinOwn w1 base gl R
  g : w.grownBy w1 (some c)
section
variable {c : Nat} {bs : List Int} {k : Nat} {w0 w : World} {base gl : Nat} {R : List Rw} {w1 w2 : World}
theorem SpAt.drew (h : SpAt c bs k w0 w base gl R w1) : SpAt c bs k w0 w base gl R w1.drew :=
  ⟨h.d.post (Below.drew (Ext.refl w1)), h.l.ext (Below.drew (Ext.refl w1)), grownBy_trans h.g (grownBy_ext (Below.drew (Ext.refl w1)))⟩
theorem SpAt.draw (h : SpAt c bs k w0 w base gl R w1) (hD : Drew c bs k w0 w2) (hg : w1.grownBy w2 (some c)) (hcb : c < base) (hcl : c < gl) : SpAt c bs k w0 w base gl R w2 :=
  ⟨hD, h.l.low hg (by omega) hcb, grownBy_trans h.g hg⟩
theorem SpAt.same (h : SpAt c bs k w0 w base gl R w1) (hok : ∀ s ∈ R, ∀ e ∈ s.es, e.ok) : SpoilPost c bs k w0 w base gl R (.returned (.slice (some ⟨gl, 0, none⟩) R.length R.length)) w1 :=
  ⟨rfl, R, h.l, rfl, fun q s hs => ⟨s, hs, rfl⟩, hok, h.d, w1, none, h.g, World.grownBy.refl _ _, fun r e => by cases e⟩
theorem set_len {q : Nat} {s : Rw} (hs : R[q]? = some s) {j : Nat} (x : Ev) : ∀ (p : Nat) (t : Rw), (R.set q ⟨s.A, s.c, s.es.set j x⟩)[p]? = some t → ∃ s0, R[p]? = some s0 ∧ s0.es.length = t.es.length := fun p t ht => by
  rcases set_get hs ht with ⟨rfl, rfl⟩ | ⟨_, ht⟩
  · exact ⟨s, hs, by simp⟩
  · exact ⟨t, ht, rfl⟩
theorem set_ok {q : Nat} {s : Rw} (hs : R[q]? = some s) {j : Nat} {x : Ev} (hx : x.ok) (hok : ∀ s ∈ R, ∀ e ∈ s.es, e.ok) : ∀ t ∈ R.set q ⟨s.A, s.c, s.es.set j x⟩, ∀ e ∈ t.es, e.ok := fun t ht e he => by
  rcases List.mem_or_eq_of_mem_set ht with h | h
  · exact hok t h e he
  · subst h
    rcases List.mem_or_eq_of_mem_set he with h | h
    · exact hok s (List.mem_of_getElem? hs) e h
    · rw [h]; exact hx
theorem wrap_in (z : Int) : InI64 (wrap64 z) := by unfold wrap64 InI64; omega
theorem wrapI (z : Int) : InI64 (IntKind.i64.wrap z) := by
  unfold IntKind.wrap InI64
  simp only [IntKind.bits, IntKind.signed, Bool.true_and, decide_eq_true_eq, ge_iff_le]
  constructor <;> split <;> omega
theorem SpAt.fin (h : SpAt c bs k w0 w base gl R w1) (hw0 : w0.heap.size ≤ base) (hc : c < w0.heap.size) {q : Nat} {s : Rw} (hs : R[q]? = some s) {j : Nat} {e x : Ev} (he : s.es[j]? = some e) {g : Nat} (hA : s.A = some ⟨g, 0, none⟩) {o : Nat} (ho : o < 7) {v : Value} (hx : x.cells = e.cells.set o v) (hxo : x.ok) (hok : ∀ s ∈ R, ∀ e ∈ s.es, e.ok) :
    SpoilPost c bs k w0 w base gl R (.returned (.slice (some ⟨gl, 0, none⟩) R.length R.length)) (w1.setCell ⟨g, j * 7 + o, none⟩ v) := by
  have hv : (Rw.val s).ownBlock = some g := by unfold Rw.val; rw [hA]; rfl
  have hb := ((h.l.r q s hs).lt g hv).1
  refine ⟨rfl, R.set q ⟨s.A, s.c, s.es.set j x⟩, h.l.store1 hs he hA ho hx, by simp, set_len hs x, set_ok hs hxo hok, h.d.grown (grown_set1 _ _ _ _) (fun r e => by injection e; omega) hc, w1, some g, h.g, grown_set1 _ _ _ _, fun r e => ?_⟩
  injection e with e
  subst e
  exact ⟨hb, q, s, hs, hv⟩
theorem SpAt.fin7 (h : SpAt c bs k w0 w base gl R w1) (hw0 : w0.heap.size ≤ base) (hc : c < w0.heap.size) {q : Nat} {s : Rw} (hs : R[q]? = some s) {j : Nat} (hj : j < s.es.length) (x : Ev) {g : Nat} (hA : s.A = some ⟨g, 0, none⟩) (hxo : x.ok) (hok : ∀ s ∈ R, ∀ e ∈ s.es, e.ok) :
    SpoilPost c bs k w0 w base gl R (.returned (.slice (some ⟨gl, 0, none⟩) R.length R.length)) (((((((w1.setCell ⟨g, j * 7, none⟩ (.int .i64 x.kind)).setCell ⟨g, j * 7 + 1, none⟩ (.int .i64 x.inc)).setCell ⟨g, j * 7 + 2, none⟩ (.int .i64 x.frm)).setCell ⟨g, j * 7 + 3, none⟩ (.int .i64 x.sinc)).setCell ⟨g, j * 7 + 4, none⟩ (.int .i64 x.sidx)).setCell ⟨g, j * 7 + 5, none⟩ (.int .i64 x.ord)).setCell ⟨g, j * 7 + 6, none⟩ (.int .i64 x.val)) := by
  have hv : (Rw.val s).ownBlock = some g := by unfold Rw.val; rw [hA]; rfl
  have hb := ((h.l.r q s hs).lt g hv).1
  have hg := grown_setCells g x.cells (j * 7) w1
  refine ⟨rfl, R.set q ⟨s.A, s.c, s.es.set j x⟩, h.l.store7 hs hj x hA, by simp, set_len hs x, set_ok hs hxo hok, h.d.grown hg (fun r e => by injection e; omega) hc, w1, some g, h.g, hg, fun r e => ?_⟩
  injection e with e
  subst e
  exact ⟨hb, q, s, hs, hv⟩
end

set_option maxRecDepth 100000 in
set_option maxHeartbeats 6400000 in
theorem spoil_any (c : Nat) (bs : List Int) (k : Nat) (w0 w : World) (base gl : Nat) (R : List Rw) (hD : Drew c bs k w0 w) (hL : LinOwn w base gl R) (hcb : c < base) (hcl : c < gl) (hw0 : w0.heap.size ≤ base) (hc0 : c < w0.heap.size)
    (hn : 1 ≤ R.length) (hn2 : R.length ≤ 4) (hev : ∀ s ∈ R, s.es.length ≤ 60) (hok : ∀ s ∈ R, ∀ e ∈ s.es, e.ok) :
    Calls Try.prog 30 #[.pointer (some ⟨c, 0, none⟩), .slice (some ⟨gl, 0, none⟩) R.length R.length] w (SpoilPost c bs k w0 w base gl R) := by
  have HOK := Lib.hid hok
  clear hok
  have hS0 : SpAt c bs k w0 w base gl R w := ⟨hD, hL, World.grownBy.refl _ _⟩
  go_enter Try.func30, Try.ntmps30
  go_wp2_with fail
  refine (next_on hD (Ext.refl _) (R.length : Int) (by omega) (by omega)).mono ?_
  rintro e w1 ⟨r1, rfl, ⟨hr10, hr11⟩, hD1, hg1⟩
  obtain ⟨q, rfl⟩ : ∃ q : Nat, r1 = (q : Int) := ⟨r1.toNat, by omega⟩
  have hS1 := hS0.draw hD1 hg1 hcb hcl
  clear hS0 hD hL hg1
  obtain ⟨s, hs⟩ : ∃ s, R[q]? = some s := ⟨_, List.getElem?_eq_getElem (by omega)⟩
  obtain ⟨sA, sc, es⟩ := s
  have hes : es.length ≤ 60 := hev _ (List.mem_of_getElem? hs)
  have hc := hS1.l.cell hs
  unfold Rw.val at hc
  dsimp only at hc
  by_cases h0 : es.length = 0
  · have d0 : ((es.length : Int) == 0) = true := by simp [h0]
    have HS1 := Lib.hid hS1
    clear hS1 h0
    go_wp2_with fail
    go_ret
    exact HS1.out.same HOK.out
  · have d0 : ((es.length : Int) == 0) = false := by rw [beq_eq_false_iff_ne]; omega
    obtain ⟨gE, hA, _, _, _⟩ := hS1.l.row hs (by show 0 < es.length; omega)
    dsimp only at hA
    subst hA
    have hA : (⟨some ⟨gE, 0, none⟩, sc, es⟩ : Rw).A = some ⟨gE, 0, none⟩ := rfl
    go_wp2_with fail
    refine (next_on hD1 (Ext.refl _) (es.length : Int) (by omega) (by omega)).mono ?_
    rintro e w2 ⟨r2, rfl, ⟨hr20, hr21⟩, hD2, hg2⟩
    obtain ⟨j, rfl⟩ : ∃ j : Nat, r2 = (j : Int) := ⟨r2.toNat, by omega⟩
    have hS2 := hS1.draw hD2 hg2 hcb hcl
    clear hS1 hD1 hg2 hc
    go_wp2_with fail
    refine (next_on hD2 (Ext.refl _) 5 (by omega) (by omega)).mono ?_
    rintro e w3 ⟨r3, rfl, ⟨hr30, hr31⟩, hD3, hg3⟩
    have hS3 := hS2.draw hD3 hg3 hcb hcl
    clear hS2 hD2 hg3
    have hc := hS3.l.cell hs
    unfold Rw.val at hc
    dsimp only at hc
    have hje : j < es.length := by omega
    obtain ⟨ev, hev'⟩ : ∃ ev, es[j]? = some ev := ⟨_, List.getElem?_eq_getElem hje⟩
    have he : (⟨some ⟨gE, 0, none⟩, sc, es⟩ : Rw).es[j]? = some ev := hev'
    have HEO := Lib.hid (HOK.out _ (List.mem_of_getElem? hs) ev (List.mem_of_getElem? hev'))
    clear hev'
    have HD3 := Lib.hid hD3
    have HS := Lib.hid hS3
    have HE := Lib.hid he
    have HH := Lib.hid hs
    have HJ := Lib.hid hje
    clear hS3 hev he hs hD3
    have hje0 : (0 : Int) ≤ (j : Int) := by omega
    have hje1 : (j : Int) < (es.length : Int) := by omega
    have hq0 : (0 : Int) ≤ (q : Int) := by omega
    have hq1 : (q : Int) < (R.length : Int) := by omega
    clear hje hr10 hr11 hr20 hr21 h0 d0
    by_cases k0 : r3 = 0
    · have e0 : (r3 == 0) = true := by simp [k0]
      clear k0 hr30 hr31
      have hce := HS.out.l.ev HH.out HE.out (g := gE) rfl (o := 1) (by omega) (v := .int .i64 ev.inc) rfl
      have hcf := HS.out.l.evf HH.out (g := gE) rfl (j * 7 + 1)
      go_wp2_with fail
      go_ret
      exact HS.out.fin hw0 hc0 HH.out HE.out (g := gE) rfl (o := 1) (by omega) (x := ⟨ev.kind, wrap64 (ev.inc + 1), ev.frm, ev.sinc, ev.sidx, ev.ord, ev.val⟩) rfl ⟨HEO.out.1, wrap_in _, HEO.out.2.2.1, HEO.out.2.2.2.1, HEO.out.2.2.2.2.1, HEO.out.2.2.2.2.2.1, HEO.out.2.2.2.2.2.2⟩ HOK.out
    have e0 : (r3 == 0) = false := by simp [k0]
    by_cases k1 : r3 = 1
    · have e1 : (r3 == 1) = true := by simp [k1]
      clear k0 k1 hr30 hr31
      have hce := HS.out.l.ev HH.out HE.out (g := gE) rfl (o := 4) (by omega) (v := .int .i64 ev.sidx) rfl
      go_upto_region 9 with fail
      refine wp_region_sched (by kernel_rfl) 16 [(0, true), (1, true), (2, true), (3, true), (4, true), (5, true), (6, true), (7, true), (8, true), (9, true), (10, false), (11, true), (12, true), (13, true), (14, true), (15, true), (16, false)] (fun w' => w'.cell? ⟨gl, q, none⟩ = some (.slice (some ⟨gE, 0, none⟩) es.length sc) ∧ w'.cell? ⟨gE, j * 7 + 4, none⟩ = some (.int .i64 ev.sidx)) (by kernel_rfl) (fun _ _ d _ _ h => by cases d <;> exact h) ⟨hc, hce⟩ (fun hHeld => ?_)
      clear hc hce
      iterate 10 ((refine sched_read (v := ?_) rfl (Or.inl ⟨by rfl, ?_⟩) hHeld ?_; rotate_left 1; · (intro w' hSw; obtain ⟨t0, t1⟩ := hSw; go_simp; (first | done | with_reducible rfl))); (try simp only [Act.put, List.setIfInBounds_toArray, List.set_cons_zero, List.set_cons_succ]))
      refine sched_eff rfl (fun K hK => ?_)
      go_simp
      refine (next_on HD3.out (Below.drew (Ext.refl _)) 3 (by omega) (by omega)).mono ?_
      rintro e w4 ⟨r4, rfl, ⟨hr40, hr41⟩, hD4, hg4⟩
      have HS4 := Lib.hid (HS.out.drew.draw hD4 hg4 hcb hcl)
      clear hD4 hg4
      have hc := HS4.out.l.cell HH.out
      have hce := HS4.out.l.ev HH.out HE.out (g := gE) rfl (o := 4) (by omega) (v := .int .i64 ev.sidx) rfl
      have hcf := HS4.out.l.evf HH.out (g := gE) rfl (j * 7 + 4)
      have hw1 : IntKind.i64.wrap (1 + r4) = 1 + r4 := IntWalk.i64_in _ (by omega)
      go_wp2_with fail
      refine hK.out _ _ ⟨hc, hce⟩ (fun hHeld => ?_)
      clear hK K
      try simp only [Act.put, List.setIfInBounds_toArray, List.set_cons_zero, List.set_cons_succ]
      iterate 5 ((refine sched_read (v := ?_) rfl (Or.inl ⟨by rfl, ?_⟩) hHeld ?_; rotate_left 1; · (intro w' hSw; obtain ⟨t0, t1⟩ := hSw; go_simp; (first | done | with_reducible rfl))); (try simp only [Act.put, List.setIfInBounds_toArray, List.set_cons_zero, List.set_cons_succ]))
      refine sched_tail rfl (by decide) (fun K hK => ?_)
      go_simp
      refine hK.out _ _ ?_
      clear hK K
      refine sched_done ?_
      clear hc hce hcf
      go_wp2_with fail
      go_ret
      exact HS4.out.fin hw0 hc0 HH.out HE.out (g := gE) rfl (o := 4) (by omega) (x := ⟨ev.kind, ev.inc, ev.frm, ev.sinc, IntKind.i64.wrap (ev.sidx + (1 + r4)), ev.ord, ev.val⟩) rfl ⟨HEO.out.1, HEO.out.2.1, HEO.out.2.2.1, HEO.out.2.2.2.1, wrapI _, HEO.out.2.2.2.2.2.1, HEO.out.2.2.2.2.2.2⟩ HOK.out
    have e1 : (r3 == 1) = false := by simp [k1]
    by_cases k2 : r3 = 2
    · have e2 : (r3 == 2) = true := by simp [k2]
      clear k0 k1 k2 hr30 hr31
      go_upto_region 11 with fail
      refine wp_region_sched (by kernel_rfl) 10 [(0, true), (1, true), (2, true), (3, true), (4, true), (5, true), (6, false), (7, true), (8, true), (9, true), (10, false)] (fun w' => w'.cell? ⟨gl, q, none⟩ = some (.slice (some ⟨gE, 0, none⟩) es.length sc) ∧ True) (by kernel_rfl) (fun _ _ d _ _ h => by cases d <;> exact h) ⟨hc, trivial⟩ (fun hHeld => ?_)
      clear hc
      iterate 6 ((refine sched_read (v := ?_) rfl (Or.inl ⟨by rfl, ?_⟩) hHeld ?_; rotate_left 1; · (intro w' hSw; obtain ⟨t0, t1⟩ := hSw; go_simp; (first | done | with_reducible rfl))); (try simp only [Act.put, List.setIfInBounds_toArray, List.set_cons_zero, List.set_cons_succ]))
      refine sched_eff rfl (fun K hK => ?_)
      go_simp
      refine (next_on HD3.out (Below.drew (Ext.refl _)) 5 (by omega) (by omega)).mono ?_
      rintro e w4 ⟨r4, rfl, ⟨hr40, hr41⟩, hD4, hg4⟩
      have HS4 := Lib.hid (HS.out.drew.draw hD4 hg4 hcb hcl)
      clear hD4 hg4
      have hc := HS4.out.l.cell HH.out
      have hce := HS4.out.l.ev HH.out HE.out (g := gE) rfl (o := 2) (by omega) (v := .int .i64 ev.frm) rfl
      have hcf := HS4.out.l.evf HH.out (g := gE) rfl (j * 7 + 2)
      have hw1 : IntKind.i64.wrap (r4 - 1) = r4 - 1 := IntWalk.i64_in _ (by omega)
      go_wp2_with fail
      refine hK.out _ _ ⟨hc, trivial⟩ (fun hHeld => ?_)
      clear hK K
      try simp only [Act.put, List.setIfInBounds_toArray, List.set_cons_zero, List.set_cons_succ]
      iterate 3 ((refine sched_read (v := ?_) rfl (Or.inl ⟨by rfl, ?_⟩) hHeld ?_; rotate_left 1; · (intro w' hSw; obtain ⟨t0, t1⟩ := hSw; go_simp; (first | done | with_reducible rfl))); (try simp only [Act.put, List.setIfInBounds_toArray, List.set_cons_zero, List.set_cons_succ]))
      refine sched_tail rfl (by decide) (fun K hK => ?_)
      go_simp
      refine hK.out _ _ ?_
      clear hK K
      refine sched_done ?_
      clear hc hce hcf
      go_wp2_with fail
      go_ret
      exact HS4.out.fin hw0 hc0 HH.out HE.out (g := gE) rfl (o := 2) (by omega) (x := ⟨ev.kind, ev.inc, r4 - 1, ev.sinc, ev.sidx, ev.ord, ev.val⟩) rfl ⟨HEO.out.1, HEO.out.2.1, (show InI64 (r4 - 1) from ⟨by omega, by omega⟩), HEO.out.2.2.2.1, HEO.out.2.2.2.2.1, HEO.out.2.2.2.2.2.1, HEO.out.2.2.2.2.2.2⟩ HOK.out
    have e2 : (r3 == 2) = false := by simp [k2]
    by_cases k3 : r3 = 3
    · have e3 : (r3 == 3) = true := by simp [k3]
      clear k0 k1 k2 k3 hr30 hr31
      go_upto_region 13 with fail
      refine wp_region_sched (by kernel_rfl) 8 [(0, true), (1, true), (2, true), (3, true), (4, true), (5, true), (6, false), (7, true), (8, false)] (fun w' => w'.cell? ⟨gl, q, none⟩ = some (.slice (some ⟨gE, 0, none⟩) es.length sc) ∧ True) (by kernel_rfl) (fun _ _ d _ _ h => by cases d <;> exact h) ⟨hc, trivial⟩ (fun hHeld => ?_)
      clear hc
      iterate 6 ((refine sched_read (v := ?_) rfl (Or.inl ⟨by rfl, ?_⟩) hHeld ?_; rotate_left 1; · (intro w' hSw; obtain ⟨t0, t1⟩ := hSw; go_simp; (first | done | with_reducible rfl))); (try simp only [Act.put, List.setIfInBounds_toArray, List.set_cons_zero, List.set_cons_succ]))
      refine sched_eff rfl (fun K hK => ?_)
      go_simp
      refine (event_on HD3.out (Below.drew (Ext.refl _))).mono ?_
      rintro e w4 ⟨x, rfl, hxo, hD4, hg4⟩
      have HXO := Lib.hid hxo.2
      clear hxo
      have HS4 := Lib.hid (HS.out.drew.draw hD4 hg4 hcb hcl)
      clear hD4 hg4
      have hc := HS4.out.l.cell HH.out
      go_wp2_with fail
      refine hK.out _ _ ⟨hc, trivial⟩ (fun hHeld => ?_)
      clear hK K
      try simp only [Act.put, List.setIfInBounds_toArray, List.set_cons_zero, List.set_cons_succ]
      iterate 1 ((refine sched_read (v := ?_) rfl (Or.inl ⟨by rfl, ?_⟩) hHeld ?_; rotate_left 1; · (intro w' hSw; obtain ⟨t0, t1⟩ := hSw; go_simp; (first | done | with_reducible rfl))); (try simp only [Act.put, List.setIfInBounds_toArray, List.set_cons_zero, List.set_cons_succ]))
      have cD := fun o (ho : o < 7) v hv => HS4.out.l.ev HH.out HE.out (g := gE) rfl (o := o) ho (v := v) hv
      have c0' := cD 0 (by omega) _ rfl
      have c1' := cD 1 (by omega) _ rfl
      have c2' := cD 2 (by omega) _ rfl
      have c3' := cD 3 (by omega) _ rfl
      have c4' := cD 4 (by omega) _ rfl
      have c5' := cD 5 (by omega) _ rfl
      have c6' := cD 6 (by omega) _ rfl
      have f0' := HS4.out.l.evf HH.out (g := gE) rfl (j * 7)
      have f1' := HS4.out.l.evf HH.out (g := gE) rfl (j * 7 + 1)
      have f2' := HS4.out.l.evf HH.out (g := gE) rfl (j * 7 + 2)
      have f3' := HS4.out.l.evf HH.out (g := gE) rfl (j * 7 + 3)
      have f4' := HS4.out.l.evf HH.out (g := gE) rfl (j * 7 + 4)
      have f5' := HS4.out.l.evf HH.out (g := gE) rfl (j * 7 + 5)
      have f6' := HS4.out.l.evf HH.out (g := gE) rfl (j * 7 + 6)
      rw [Nat.add_zero] at c0'
      clear cD
      refine sched_tail rfl (by decide) (fun K hK => ?_)
      go_simp
      refine hK.out _ _ ?_
      clear hK K
      refine sched_done ?_
      clear c0' c1' c2' c3' c4' c5' c6' f0' f1' f2' f3' f4' f5' f6'
      go_wp2_with fail
      go_ret
      exact HS4.out.fin7 hw0 hc0 HH.out HJ.out x (g := gE) rfl HXO.out HOK.out
    have e3 : (r3 == 3) = false := by simp [k3]
    have k4 : r3 = 4 := by omega
    have e4 : (r3 == 4) = true := by simp [k4]
    clear k0 k1 k2 k3 k4 hr30 hr31
    have hce := HS.out.l.ev HH.out HE.out (g := gE) rfl (o := 3) (by omega) (v := .int .i64 ev.sinc) rfl
    have hcf := HS.out.l.evf HH.out (g := gE) rfl (j * 7 + 3)
    go_wp2_with fail
    go_ret
    exact HS.out.fin hw0 hc0 HH.out HE.out (g := gE) rfl (o := 3) (by omega) (x := ⟨ev.kind, ev.inc, ev.frm, wrap64 (ev.sinc + 1), ev.sidx, ev.ord, ev.val⟩) rfl ⟨HEO.out.1, HEO.out.2.1, HEO.out.2.2.1, wrap_in _, HEO.out.2.2.2.2.1, HEO.out.2.2.2.2.2.1, HEO.out.2.2.2.2.2.2⟩ HOK.out
end Go.Proofs.Ytcljdkjlfciacaa
