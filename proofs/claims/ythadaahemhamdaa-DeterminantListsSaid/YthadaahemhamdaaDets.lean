/- A determinant that differs in at most one field; determinants out of choices. No statement of the seat is proved here. -/
import Derived.Test.YthadaahemhamdaaHas
namespace Go.Proofs.Ythadaahemhamdaa
open Go.RowKit
set_option linter.unusedVariables false

def SomeDt (R : World → Prop) (e : Ending) (w' : World) : Prop := ∃ d : Dt, e = .returned (.agg #[.int .i64 d.proc, .int .i64 d.index, .int .i64 d.ev.kind, .int .i64 d.ev.inc, .int .i64 d.ev.frm, .int .i64 d.ev.sinc, .int .i64 d.ev.sidx, .int .i64 d.ev.ord, .int .i64 d.ev.val]) ∧ d.ok ∧ R w'

set_option maxHeartbeats 3200000 in
theorem near_any (d : Dt) (field by_ : Int) (w : World) (hd : d.ok) (hb : InI64 by_) :
    Calls Try.prog 20 #[.agg #[.int .i64 d.proc, .int .i64 d.index, .int .i64 d.ev.kind, .int .i64 d.ev.inc, .int .i64 d.ev.frm, .int .i64 d.ev.sinc, .int .i64 d.ev.sidx, .int .i64 d.ev.ord, .int .i64 d.ev.val], .int .i64 field, .int .i64 by_] w (SomeDt (fun w' => Ext w w')) := by
  obtain ⟨o0, o1, o2, o3, o4, o5, o6, o7, o8⟩ := hd
  go_enter Try.func20, Try.ntmps20
  go_wp2_with fail
  refine (mod_any field 10 _ (by omega) (by omega)).mono ?_
  rintro e w' ⟨rfl, rfl⟩
  have hm := modv_bd field 10 (by omega)
  generalize modv field 10 = m at *
  obtain ⟨hm1, hm2⟩ := hm
  obtain rfl | rfl | rfl | rfl | rfl | rfl | rfl | rfl | rfl | rfl : m = 0 ∨ m = 1 ∨ m = 2 ∨ m = 3 ∨ m = 4 ∨ m = 5 ∨ m = 6 ∨ m = 7 ∨ m = 8 ∨ m = 9 := by omega
  · go_wp2_with fail
    refine bodyPost_ret (v := .agg #[.int .i64 by_, .int .i64 d.index, .int .i64 d.ev.kind, .int .i64 d.ev.inc, .int .i64 d.ev.frm, .int .i64 d.ev.sinc, .int .i64 d.ev.sidx, .int .i64 d.ev.ord, .int .i64 d.ev.val]) (by simp [results, Try.results20, go_sem]) rfl ?_
    exact ⟨⟨by_, d.index, ⟨d.ev.kind, d.ev.inc, d.ev.frm, d.ev.sinc, d.ev.sidx, d.ev.ord, d.ev.val⟩⟩, rfl, ⟨hb, o1, o2, o3, o4, o5, o6, o7, o8⟩, ((Ext.refl w).allocs _).allocs _⟩
  · go_wp2_with fail
    refine bodyPost_ret (v := .agg #[.int .i64 d.proc, .int .i64 by_, .int .i64 d.ev.kind, .int .i64 d.ev.inc, .int .i64 d.ev.frm, .int .i64 d.ev.sinc, .int .i64 d.ev.sidx, .int .i64 d.ev.ord, .int .i64 d.ev.val]) (by simp [results, Try.results20, go_sem]) rfl ?_
    exact ⟨⟨d.proc, by_, ⟨d.ev.kind, d.ev.inc, d.ev.frm, d.ev.sinc, d.ev.sidx, d.ev.ord, d.ev.val⟩⟩, rfl, ⟨o0, hb, o2, o3, o4, o5, o6, o7, o8⟩, ((Ext.refl w).allocs _).allocs _⟩
  · go_wp2_with fail
    refine bodyPost_ret (v := .agg #[.int .i64 d.proc, .int .i64 d.index, .int .i64 d.ev.kind, .int .i64 by_, .int .i64 d.ev.frm, .int .i64 d.ev.sinc, .int .i64 d.ev.sidx, .int .i64 d.ev.ord, .int .i64 d.ev.val]) (by simp [results, Try.results20, go_sem]) rfl ?_
    exact ⟨⟨d.proc, d.index, ⟨d.ev.kind, by_, d.ev.frm, d.ev.sinc, d.ev.sidx, d.ev.ord, d.ev.val⟩⟩, rfl, ⟨o0, o1, o2, hb, o4, o5, o6, o7, o8⟩, ((Ext.refl w).allocs _).allocs _⟩
  · go_wp2_with fail
    refine bodyPost_ret (v := .agg #[.int .i64 d.proc, .int .i64 d.index, .int .i64 by_, .int .i64 d.ev.inc, .int .i64 d.ev.frm, .int .i64 d.ev.sinc, .int .i64 d.ev.sidx, .int .i64 d.ev.ord, .int .i64 d.ev.val]) (by simp [results, Try.results20, go_sem]) rfl ?_
    exact ⟨⟨d.proc, d.index, ⟨by_, d.ev.inc, d.ev.frm, d.ev.sinc, d.ev.sidx, d.ev.ord, d.ev.val⟩⟩, rfl, ⟨o0, o1, hb, o3, o4, o5, o6, o7, o8⟩, ((Ext.refl w).allocs _).allocs _⟩
  · go_wp2_with fail
    refine bodyPost_ret (v := .agg #[.int .i64 d.proc, .int .i64 d.index, .int .i64 d.ev.kind, .int .i64 d.ev.inc, .int .i64 by_, .int .i64 d.ev.sinc, .int .i64 d.ev.sidx, .int .i64 d.ev.ord, .int .i64 d.ev.val]) (by simp [results, Try.results20, go_sem]) rfl ?_
    exact ⟨⟨d.proc, d.index, ⟨d.ev.kind, d.ev.inc, by_, d.ev.sinc, d.ev.sidx, d.ev.ord, d.ev.val⟩⟩, rfl, ⟨o0, o1, o2, o3, hb, o5, o6, o7, o8⟩, ((Ext.refl w).allocs _).allocs _⟩
  · go_wp2_with fail
    refine bodyPost_ret (v := .agg #[.int .i64 d.proc, .int .i64 d.index, .int .i64 d.ev.kind, .int .i64 d.ev.inc, .int .i64 d.ev.frm, .int .i64 by_, .int .i64 d.ev.sidx, .int .i64 d.ev.ord, .int .i64 d.ev.val]) (by simp [results, Try.results20, go_sem]) rfl ?_
    exact ⟨⟨d.proc, d.index, ⟨d.ev.kind, d.ev.inc, d.ev.frm, by_, d.ev.sidx, d.ev.ord, d.ev.val⟩⟩, rfl, ⟨o0, o1, o2, o3, o4, hb, o6, o7, o8⟩, ((Ext.refl w).allocs _).allocs _⟩
  · go_wp2_with fail
    refine bodyPost_ret (v := .agg #[.int .i64 d.proc, .int .i64 d.index, .int .i64 d.ev.kind, .int .i64 d.ev.inc, .int .i64 d.ev.frm, .int .i64 d.ev.sinc, .int .i64 by_, .int .i64 d.ev.ord, .int .i64 d.ev.val]) (by simp [results, Try.results20, go_sem]) rfl ?_
    exact ⟨⟨d.proc, d.index, ⟨d.ev.kind, d.ev.inc, d.ev.frm, d.ev.sinc, by_, d.ev.ord, d.ev.val⟩⟩, rfl, ⟨o0, o1, o2, o3, o4, o5, hb, o7, o8⟩, ((Ext.refl w).allocs _).allocs _⟩
  · go_wp2_with fail
    refine bodyPost_ret (v := .agg #[.int .i64 d.proc, .int .i64 d.index, .int .i64 d.ev.kind, .int .i64 d.ev.inc, .int .i64 d.ev.frm, .int .i64 d.ev.sinc, .int .i64 d.ev.sidx, .int .i64 by_, .int .i64 d.ev.val]) (by simp [results, Try.results20, go_sem]) rfl ?_
    exact ⟨⟨d.proc, d.index, ⟨d.ev.kind, d.ev.inc, d.ev.frm, d.ev.sinc, d.ev.sidx, by_, d.ev.val⟩⟩, rfl, ⟨o0, o1, o2, o3, o4, o5, o6, hb, o8⟩, ((Ext.refl w).allocs _).allocs _⟩
  · go_wp2_with fail
    refine bodyPost_ret (v := .agg #[.int .i64 d.proc, .int .i64 d.index, .int .i64 d.ev.kind, .int .i64 d.ev.inc, .int .i64 d.ev.frm, .int .i64 d.ev.sinc, .int .i64 d.ev.sidx, .int .i64 d.ev.ord, .int .i64 by_]) (by simp [results, Try.results20, go_sem]) rfl ?_
    exact ⟨⟨d.proc, d.index, ⟨d.ev.kind, d.ev.inc, d.ev.frm, d.ev.sinc, d.ev.sidx, d.ev.ord, by_⟩⟩, rfl, ⟨o0, o1, o2, o3, o4, o5, o6, o7, hb⟩, ((Ext.refl w).allocs _).allocs _⟩
  · go_wp2_with fail
    refine bodyPost_ret (v := .agg #[.int .i64 d.proc, .int .i64 d.index, .int .i64 d.ev.kind, .int .i64 d.ev.inc, .int .i64 d.ev.frm, .int .i64 d.ev.sinc, .int .i64 d.ev.sidx, .int .i64 d.ev.ord, .int .i64 d.ev.val]) (by simp [results, Try.results20, go_sem]) rfl ?_
    exact ⟨⟨d.proc, d.index, ⟨d.ev.kind, d.ev.inc, d.ev.frm, d.ev.sinc, d.ev.sidx, d.ev.ord, d.ev.val⟩⟩, rfl, ⟨o0, o1, o2, o3, o4, o5, o6, o7, o8⟩, ((Ext.refl w).allocs _).allocs _⟩

theorem all_snoc {α : Type} {P : α → Prop} {l : List α} {y : α} (h : ∀ x ∈ l, P x) (hy : P y) : ∀ x ∈ l ++ [y], P x := by
  intro x hx
  rcases List.mem_append.1 hx with h1 | h1
  · exact h x h1
  · simp at h1; subst h1; exact hy

def DetsRel (c : Nat) (bs : List Int) (k : Nat) (w : World) (most : Nat) (v n : Value) (w' : World) : Prop :=
  ∃ (ds : List Dt) (j : Nat), n = .int .i64 j ∧ w'.ownsRow w.heap.size 39 9 v ds.length (ds.flatMap Dt.cells) ∧ ds.length + j ≤ most ∧ (∀ x ∈ ds, x.ok) ∧ Drew c bs k w w'
def DetsPost (c : Nat) (bs : List Int) (k : Nat) (w : World) (most : Nat) (e : Ending) (w' : World) : Prop :=
  ∃ v, ∃ ds : List Dt, e = .returned v ∧ w'.ownsRow w.heap.size 39 9 v ds.length (ds.flatMap Dt.cells) ∧ ds.length ≤ most ∧ (∀ x ∈ ds, x.ok) ∧ Drew c bs k w w'
theorem kept_c {w w' : World} {c base : Nat} {e : TypeId} {s n : Nat} {v : Value} {xs : List Value} (h : w.ownsRow base e s v n xs) (hg : w.grownBy w' (some c)) (hc : c < base) : w'.ownsRow base e s v n xs :=
  h.kept hg (by right; intro e; have := (h.lt c e).1; omega)

set_option maxHeartbeats 1600000 in
theorem dets_any (c : Nat) (bs : List Int) (k : Nat) (w : World) (h : Codes w c bs k) (most : Nat) (hm : most ≤ 200) :
    Calls Try.prog 24 #[.pointer (some ⟨c, 0, none⟩), .int .i64 most] w (DetsPost c bs k w most) := by
  have hcl := h.lt
  go_enter Try.func24, Try.ntmps24
  go_wp2_with fail
  refine (next_any' c bs k _ h (most + 1) (by omega) (by omega)).mono ?_
  rintro e w1 ⟨r1, rfl, ⟨hr10, hr11⟩, hD1⟩
  go_wp2_with fail
  go_loopw [5, 6] (fun v n w' => DetsRel c bs k w most v n w') (fun _ n _ => (intOf n).toNat)
  case atStart => exact ⟨[], r1.toNat, by simp; omega, own_nil _ _ _ _ _, by simp; omega, by simp, hD1⟩
  case round =>
    obtain ⟨ds, j, rfl, hown, hle, hall, hD⟩ := hrel
    by_cases hj : 0 < j
    · go_wp2_with fail
      refine (next_on hD (Ext.refl _) 3 (by omega) (by omega)).mono ?_
      rintro e w2 ⟨r2, rfl, ⟨hr20, hr21⟩, hD2, hg2⟩
      have hown2 := kept_c hown hg2 hcl
      clear hD hg2 hown
      go_wp2_with fail
      refine (next_on hD2 (Ext.refl _) 6 (by omega) (by omega)).mono ?_
      rintro e w3 ⟨r3, rfl, ⟨hr30, hr31⟩, hD3, hg3⟩
      have hown3 := kept_c hown2 hg3 hcl
      clear hD2 hg3 hown2
      go_wp2_with fail
      refine (event_on hD3 (Ext.refl _)).mono ?_
      rintro e w4 ⟨ev, rfl, hmade, hD4, hg4⟩
      have hown4 := kept_c hown3 hg4 hcl
      have hsz : w.heap.size ≤ w4.heap.size := hD4.1.size
      clear hD3 hg4 hown3
      go_wp2_with (at_builtin; refine wpList_push_at Dt.cells 9 72 Dt.len Dt.one (by omega) rfl _ _ _ rfl w.heap.size 39 Try.underlying24 (by kernel_rfl) u5 ds ⟨r2, 1 + r3, ev⟩ w4.heap.size rfl hown4 rfl rfl (by unfold maxLen; omega) (by omega) hsz ?_; intro v' w5 hown5 hg5)
      have hD5 := hD4.own hown4 hg5 hcl
      go_roundw
      case rel => exact ⟨ds ++ [⟨r2, 1 + r3, ev⟩], j - 1, by go_num, hown5, by simp; omega, all_snoc hall ⟨inI r2 (by omega) (by omega), inI (1 + r3) (by omega) (by omega), hmade.2⟩, hD5⟩
      case measure => simp [intOf]; omega
    · obtain rfl : j = 0 := by omega
      go_wp2_with fail
      go_ret
      exact ⟨u5, ds, rfl, hown, by omega, hall, hD⟩
theorem dets_on {c : Nat} {bs : List Int} {k : Nat} {w w1 w1' : World} (h : Drew c bs k w w1) (he : Ext w1 w1') (most : Nat) (hm : most ≤ 200) :
    Calls Try.prog 24 #[.pointer (some ⟨c, 0, none⟩), .int .i64 most] w1' (fun e w2 => ∃ v, ∃ ds : List Dt, e = .returned v ∧ w2.ownsRow w1'.heap.size 39 9 v ds.length (ds.flatMap Dt.cells) ∧ ds.length ≤ most ∧ (∀ x ∈ ds, x.ok) ∧ Drew c bs k w w2 ∧ w1'.grownBy w2 (some c)) := by
  obtain ⟨hg, k1, hC, hk, hl⟩ := h.post he
  refine (dets_any c bs k1 w1' hC most hm).mono ?_
  rintro e w2 ⟨v, ds, rfl, ho, hn, hok, hD⟩
  exact ⟨v, ds, rfl, ho, hn, hok, Drew.trans hg hk hl hD, hD.1⟩
theorem events_on {c : Nat} {bs : List Int} {k : Nat} {w w1 w1' : World} (h : Drew c bs k w w1) (he : Ext w1 w1') (most : Nat) (hm : most ≤ 200) :
    Calls Try.prog 38 #[.pointer (some ⟨c, 0, none⟩), .int .i64 most] w1' (fun e w2 => ∃ v, ∃ es : List Ev, e = .returned v ∧ w2.ownsRow w1'.heap.size 37 7 v es.length (es.flatMap Ev.cells) ∧ es.length ≤ most ∧ (∀ x ∈ es, x.made) ∧ Drew c bs k w w2 ∧ w1'.grownBy w2 (some c)) := by
  obtain ⟨hg, k1, hC, hk, hl⟩ := h.post he
  refine (events_any c bs k1 w1' hC most hm).mono ?_
  rintro e w2 ⟨v, ds, rfl, ho, hn, hok, hD⟩
  exact ⟨v, ds, rfl, ho, hn, hok, Drew.trans hg hk hl hD, hD.1⟩
end Go.Proofs.Ythadaahemhamdaa
