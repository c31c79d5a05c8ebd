/- The arguments of chapter 28; Mod; Known out of choices. No statement of the seat is proved here. -/
import Derived.Test.YtfnnoncdocghjaaActs
namespace Go.Proofs.Ytfnnoncdocghjaa
open Go.RowKit
set_option linter.unusedVariables false
set_option maxRecDepth 100000

set_option maxHeartbeats 800000 in
theorem mod_any (x n : Int) (w : World) (h1 : 1 ≤ n) (h2 : n ≤ 1000000) :
    Calls Try.prog 17 #[.int .i64 x, .int .i64 n] w fun e w' => e = .returned (.int .i64 (modv x n)) ∧ w = w' := by
  have hb := tmod_bd x n h1
  obtain ⟨hb1, hb2⟩ := hb
  by_cases hneg : x.tmod n < 0
  all_goals
    have HM : Hid (modv x n = if x.tmod n < 0 then x.tmod n + n else x.tmod n) := rfl
    go_enter Try.func17, Try.ntmps17
    go_wp2
    go_ret
  · exact ⟨ret_int (by rw [HM.out, if_pos hneg]), rfl⟩
  · exact ⟨ret_int (by rw [HM.out, if_neg (by omega)]), rfl⟩

theorem u32_wf {z : Int} (h : (Lit.int .u32 z).wf = true) : okH z := by
  have := Go.bounds_u32 h
  unfold okH
  omega
theorem kn_of {H : Type} {enc : TypeId × Value → H} {w : World} {base : Nat} {spare : Nat → Bool} {held : Bool} {n : Nat} {cs : List Value} {y : DataW H × List MemPlace} (hl10 : cs.length = 10) (hy : DataW.trod enc Try.prog w base spare held n 34 cs = some y) : ∃ k : Kn, cs = k.cells ∧ okH k.h := by
  obtain ⟨z0, e0, g0⟩ := leaf_int (n := 6) (j := 0) Try.underlying3 hy (by kernel_rfl)
  obtain ⟨z1, e1, g1⟩ := leaf_int (n := 6) (j := 1) Try.underlying3 hy (by kernel_rfl)
  obtain ⟨z2, e2, g2⟩ := leaf_int (n := 6) (j := 2) Try.underlying3 hy (by kernel_rfl)
  obtain ⟨z3, e3, g3⟩ := leaf_int (n := 6) (j := 3) Try.underlying3 hy (by kernel_rfl)
  obtain ⟨z4, e4, g4⟩ := leaf_int (n := 6) (j := 4) Try.underlying3 hy (by kernel_rfl)
  obtain ⟨z5, e5, g5⟩ := leaf_int (n := 6) (j := 5) Try.underlying3 hy (by kernel_rfl)
  obtain ⟨z6, e6, g6⟩ := leaf_int (n := 6) (j := 6) Try.underlying3 hy (by kernel_rfl)
  obtain ⟨z7, e7, g7⟩ := leaf_int (n := 6) (j := 7) Try.underlying3 hy (by kernel_rfl)
  obtain ⟨z8, e8, g8⟩ := leaf_int (n := 6) (j := 8) Try.underlying3 hy (by kernel_rfl)
  obtain ⟨z9, e9, g9⟩ := leaf_int (n := 6) (j := 9) Try.underlying22 hy (by kernel_rfl)
  refine ⟨⟨⟨z0, z1, ⟨z2, z3, z4, z5, z6, z7, z8⟩⟩, z9⟩, List.ext_getElem? fun j => ?_, u32_wf g9⟩
  rcases j with _ | _ | _ | _ | _ | _ | _ | _ | _ | _ | j
  · exact e0
  · exact e1
  · exact e2
  · exact e3
  · exact e4
  · exact e5
  · exact e6
  · exact e7
  · exact e8
  · exact e9
  · rw [List.getElem?_eq_none (by omega), List.getElem?_eq_none (by simp [Kn.cells])]
theorem open_knowns {H : Type} {enc : TypeId × Value → H} {w : World} {base : Nat} {spare : Nat → Bool} {held : Bool} {a : Option Addr} {len cap : Nat} {d : DataW H} {p : List MemPlace} (h : DataW.Trod enc Try.prog w base spare held 26 (.slice a len cap) d p) :
    ∃ l : List Kn, len = l.length ∧ KnSeg w a l ∧ len ≤ cap ∧ cap ≤ maxLen ∧ ∀ k ∈ l, okH k.h := by
  obtain ⟨fuel, hf⟩ := h
  obtain ⟨css, hl, hs, h1, h2, hc⟩ := open_seg 10 Try.underlying26 (by kernel_rfl) (by omega) (show DataW.trod enc Try.prog w base spare held fuel 26 [.slice a len cap] = some (d, p) from hf)
  obtain ⟨l, rfl, hb⟩ := lift_all' Kn.cells (fun k => okH k.h) css (fun cs hcs => by
    obtain ⟨hl9, n, y, hy⟩ := hc cs hcs
    exact kn_of hl9 hy)
  rw [List.length_map] at hl
  subst hl
  refine ⟨l, rfl, ?_, h1, h2, hb⟩
  show Seg w 10 a l.length (l.flatMap Kn.cells)
  rw [List.flatMap_def]
  exact hs
open Go.ChangeShapes Go.WideShapes in
theorem open_known {H : Type} {enc : TypeId × Value → H} {w : World} {base : Nat} {spare : Nat → Bool} {held : Bool} {r : Reach} {b0 : Nat} {v : Value} {d : DataW H} {p : List MemPlace}
    (hv : Value.okWide Try.prog w r b0 34 v) (h : DataW.Trod enc Try.prog w base spare held 34 v d p) : ∃ x : Kn, v = x.val ∧ okH x.h := by
  obtain ⟨cs, rfl, hsz⟩ := okWide_struct Try.underlying34 hv
  have h9 : Try.prog.cellsOf 34 = 10 := by kernel_rfl
  obtain ⟨l⟩ := cs
  obtain ⟨fuel, hf⟩ := h
  obtain ⟨x, hx, hok⟩ := kn_of (cs := l) (by have := hsz.trans h9; simpa using this) hf
  subst hx
  exact ⟨x, rfl, hok⟩
open Go.ChangeShapes Go.WideShapes in
theorem open_acts {H : Type} {enc : TypeId × Value → H} {w : World} {base : Nat} {spare : Nat → Bool} {held : Bool} {a : Option Addr} {len cap : Nat} {d : DataW H} {p : List MemPlace} (h : DataW.Trod enc Try.prog w base spare held 44 (.slice a len cap) d p) :
    ∃ l : List Av, len = l.length ∧ AvSeg w a l ∧ len ≤ cap ∧ cap ≤ maxLen := by
  obtain ⟨fuel, hf⟩ := h
  obtain ⟨css, hl, hs, h1, h2, hc⟩ := open_seg 3 Try.underlying44 (by kernel_rfl) (by omega) (show DataW.trod enc Try.prog w base spare held fuel 44 [.slice a len cap] = some (d, p) from hf)
  obtain ⟨l, rfl⟩ := lift_all Av.cells css (fun cs hcs => by
    obtain ⟨hl3, n, y, hy⟩ := hc cs hcs
    obtain ⟨z0, e0, _⟩ := leaf_int (n := 6) (j := 0) Try.underlying3 hy (by kernel_rfl)
    obtain ⟨z1, e1, _⟩ := leaf_int (n := 6) (j := 1) Try.underlying3 hy (by kernel_rfl)
    obtain ⟨z2, e2, _⟩ := leaf_int (n := 6) (j := 2) Try.underlying3 hy (by kernel_rfl)
    refine ⟨⟨z0, z1, z2⟩, List.ext_getElem? fun j => ?_⟩
    rcases j with _ | _ | _ | j
    · exact e0
    · exact e1
    · exact e2
    · rw [List.getElem?_eq_none (by omega), List.getElem?_eq_none (by simp [Av.cells])])
  rw [List.length_map] at hl
  subst hl
  refine ⟨l, rfl, ?_, h1, h2⟩
  show Seg w 3 a l.length (l.flatMap Av.cells)
  rw [List.flatMap_def]
  exact hs
/-! ### Known out of choices -/
def KmRel (c : Nat) (bs : List Int) (k : Nat) (w0 w : World) (most : Nat) (g : Nat) (v n : Value) (w' : World) : Prop :=
  ∃ (l : List Kn) (j : Nat), n = .int .i64 j ∧ j = g ∧ w'.ownsRow w.heap.size 34 10 v l.length (l.flatMap Kn.cells) ∧ l.length + j ≤ most ∧ (∀ x ∈ l, okH x.h) ∧ Drew c bs k w0 w' ∧ w.heap.size ≤ w'.heap.size
def KmPost (c : Nat) (bs : List Int) (k : Nat) (w0 w : World) (most : Nat) (e : Ending) (w' : World) : Prop :=
  ∃ v, ∃ l : List Kn, e = .returned v ∧ w'.ownsRow w.heap.size 34 10 v l.length (l.flatMap Kn.cells) ∧ l.length ≤ most ∧ (∀ x ∈ l, okH x.h) ∧ Drew c bs k w0 w' ∧ w.grownBy w' (some c)
theorem all_snocK {α : Type} {P : α → Prop} {l : List α} {y : α} (h : ∀ x ∈ l, P x) (hy : P y) : ∀ x ∈ l ++ [y], P x := by
  intro x hx
  rcases List.mem_append.1 hx with h1 | h1
  · exact h x h1
  · simp at h1; subst h1; exact hy
set_option maxHeartbeats 1600000 in
/-- Known, whatever stands for a first choice -/
theorem known_step (c : Nat) (bs : List Int) (k : Nat) (w0 w : World) (hc0 : c < w0.heap.size) (hz0 : w0.heap.size ≤ w.heap.size) (most : Nat) (hm : most ≤ 100)
    (H : Calls Try.prog 44 #[.pointer (some ⟨c, 0, none⟩), .int .i64 ((most : Int) + 1)] w (SomeInt (fun r => 0 ≤ r ∧ r < (most : Int) + 1) (fun w2 => Drew c bs k w0 w2 ∧ w.grownBy w2 (some c)))) :
    Calls Try.prog 16 #[.pointer (some ⟨c, 0, none⟩), .int .i64 most] w (fun e w' => ∃ v, ∃ l : List Kn, e = .returned v ∧ w'.ownsRow w.heap.size 34 10 v l.length (l.flatMap Kn.cells) ∧ l.length ≤ most ∧ (∀ x ∈ l, okH x.h) ∧ Drew c bs k w0 w') := by
  have hcl : c < w.heap.size := by omega
  have HN := Lib.hid H
  clear H
  go_enter Try.func16, Try.ntmps16
  go_wp2_with fail
  refine HN.out.mono ?_
  rintro e w1 ⟨r1, rfl, ⟨hr10, hr11⟩, hD1, hg1⟩
  obtain ⟨n1, rfl⟩ : ∃ n1 : Nat, r1 = (n1 : Int) := ⟨r1.toNat, by omega⟩
  clear HN
  have HD1 := Lib.hid hD1
  have HG1 := Lib.hid hg1.size
  clear hD1 hg1
  go_wp2_with fail
  go_loopg [5, 6] n1 (fun g v n w' => KmRel c bs k w0 w most g v n w')
  case atStart => exact ⟨[], n1, rfl, rfl, own_nil _ _ _ _ _, by simp; omega, by simp, HD1.out, HG1.out⟩
  case round =>
    obtain ⟨l, j, rfl, rfl, hown, hle, hall, hD, hzr⟩ := hrel
    obtain ⟨A, cl, rfl, -, -, -⟩ := own_slice hown
    have HALL := Lib.hid hall
    clear hall
    by_cases hj : 0 < j
    · have hj' : (0 : Int) < (j : Int) := by omega
      go_wp2_with fail
      refine (next_on hD (Ext.refl _) 3 (by omega) (by omega)).mono ?_
      rintro e w2 ⟨r2, rfl, ⟨hr20, hr21⟩, hD2, hg2⟩
      have hz2 := Nat.le_trans hzr hg2.size
      have hown2 := keptc hown hg2 hcl
      clear hD hg2 hown
      go_wp2_with fail
      refine (next_on hD2 (Ext.refl _) 4 (by omega) (by omega)).mono ?_
      rintro e w3 ⟨r3, rfl, ⟨hr30, hr31⟩, hD3, hg3⟩
      have hz3 := Nat.le_trans hz2 hg3.size
      have hown3 := keptc hown2 hg3 hcl
      clear hD2 hg3 hown2
      go_wp2_with fail
      refine (next_on hD3 (Ext.refl _) 3 (by omega) (by omega)).mono ?_
      rintro e w4 ⟨r4, rfl, ⟨hr40, hr41⟩, hD4, hg4⟩
      have hz4 := Nat.le_trans hz3 hg4.size
      have hown4 := keptc hown3 hg4 hcl
      clear hD3 hg4 hown3
      go_wp2_with fail
      refine (next_on hD4 (Ext.refl _) 2 (by omega) (by omega)).mono ?_
      rintro e w5 ⟨r5, rfl, ⟨hr50, hr51⟩, hD5, hg5⟩
      have hz5 := Nat.le_trans hz4 hg5.size
      have hown5 := keptc hown4 hg5 hcl
      clear hD4 hg5 hown4
      go_wp2_with fail
      refine (next_on hD5 (Ext.refl _) 2 (by omega) (by omega)).mono ?_
      rintro e w6 ⟨r6, rfl, ⟨hr60, hr61⟩, hD6, hg6⟩
      have hz6 := Nat.le_trans hz5 hg6.size
      have hown6 := keptc hown5 hg6 hcl
      clear hD5 hg6 hown5
      go_wp2_with fail
      refine (next_on hD6 (Ext.refl _) 8 (by omega) (by omega)).mono ?_
      rintro e w7 ⟨r7, rfl, ⟨hr70, hr71⟩, hD7, hg7⟩
      have hz7 := Nat.le_trans hz6 hg7.size
      have hown7 := keptc hown6 hg7 hcl
      clear hD6 hg7 hown6
      have hw7 : IntKind.u32.wrap r7 = r7 := wraps_u32' _ (by omega) (by omega)
      go_wp2_with (at_builtin; refine wpList_push_at Kn.cells 10 80 Kn.len Kn.one (by omega) rfl _ _ _ rfl w.heap.size 34 Try.underlying26 (by kernel_rfl) (.slice A l.length cl) l ⟨⟨r2, 1 + r3, ⟨1 + r4, r5, 0, 0, 0, 0, r6⟩⟩, r7⟩ w7.heap.size rfl hown7 rfl rfl (by unfold maxLen; omega) (by omega) hz7 ?_; intro v' w9 hown9 hg9)
      have hD9 := hD7.own (own_base hown7 hz0) hg9 hc0
      go_roundg (j - 1)
      case measure => omega
      case rel => exact ⟨l ++ [⟨⟨r2, 1 + r3, ⟨1 + r4, r5, 0, 0, 0, 0, r6⟩⟩, r7⟩], j - 1, by go_num, rfl, hown9, by simp; omega, all_snocK HALL.out ⟨hr70, by show r7 < 4294967296; omega⟩, hD9, Nat.le_trans hz7 (Nat.le_trans (by simp) hg9.size)⟩
    · obtain rfl : j = 0 := by omega
      go_wp2_with fail
      go_ret
      exact ⟨_, l, rfl, hown, by omega, HALL.out, hD⟩
theorem known_first (c : Nat) (bs : List Int) (k : Nat) (w : World) (h : Codes w c bs k) (most : Nat) (hm : most ≤ 100) :
    Calls Try.prog 16 #[.pointer (some ⟨c, 0, none⟩), .int .i64 most] w (fun e w' => ∃ v, ∃ l : List Kn, e = .returned v ∧ w'.ownsRow w.heap.size 34 10 v l.length (l.flatMap Kn.cells) ∧ l.length ≤ most ∧ (∀ x ∈ l, okH x.h) ∧ Drew c bs k w w') := by
  refine known_step c bs k w w h.lt (Nat.le_refl _) most hm ((next_any' c bs k w h ((most : Int) + 1) (by omega) (by omega)).mono ?_)
  rintro e w' ⟨r, rfl, hr, hD⟩
  exact ⟨r, rfl, hr, hD, hD.1⟩
theorem known_on {c : Nat} {bs : List Int} {k : Nat} {w0 w1 w : World} (hD : Drew c bs k w0 w1) (he : Ext w1 w) (hc0 : c < w0.heap.size) (most : Nat) (hm : most ≤ 100) :
    Calls Try.prog 16 #[.pointer (some ⟨c, 0, none⟩), .int .i64 most] w (fun e w' => ∃ v, ∃ l : List Kn, e = .returned v ∧ w'.ownsRow w.heap.size 34 10 v l.length (l.flatMap Kn.cells) ∧ l.length ≤ most ∧ (∀ x ∈ l, okH x.h) ∧ Drew c bs k w0 w') :=
  known_step c bs k w0 w hc0 (Nat.le_trans hD.1.size he.size) most hm (next_on hD he ((most : Int) + 1) (by omega) (by omega))
end Go.Proofs.Ytfnnoncdocghjaa
