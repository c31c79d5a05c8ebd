/- The walk of the law SenderlogRecords. -/
import Derived.Test.YtooegndajfopkaaCopies2
import Derived.Test.YtooegndajfopkaaNexts
import Derived.Deep.RegionHeld3
import Derived.RegionTactic
import Derived.Lib.SmallJoins
namespace Go.Proofs.Ytooegndajfopkaa
open Go.RowKit
set_option linter.unusedVariables false

set_option maxHeartbeats 3200000 in
theorem records_walk (a0 : Option Addr) (cap0 : Nat) (l : List Cp) (c : Cp) (at_ : Int) (w : World)
    (h0 : CpSeg w a0 l ∧ l.length ≤ cap0 ∧ cap0 ≤ maxLen) (h1 : True) (hk : (Lit.int .i64 at_).wf = true) :
    Calls Try.prog 7 #[.slice a0 l.length cap0, .agg #[.int .i64 c.to, .int .i64 c.ssn, .int .i64 c.val, .int .i64 c.rsn], .int .i64 at_] w fun e w' => e = .returned (.bool true) ∧ Below w.heap.size w w' := by
  obtain ⟨hs, hc1, hc2⟩ := h0
  clear hk h1
  unfold maxLen at hc2
  by_cases h60 : 60 < l.length
  · go_enter Try.func7, Try.ntmps7
    go_wp2_with fail
    refine (awake_any _).mono ?_
    rintro e w1 ⟨rfl, hE⟩
    go_wp2_with fail
    go_ret
    exact ⟨rfl, ((Ext.refl w).allocs _).trans hE⟩
  · go_enter Try.func7, Try.ntmps7
    go_wp2_with fail
    refine (awake_any _).mono ?_
    rintro e w1 ⟨rfl, hE⟩
    have hX1 : Ext w w1 := ((Ext.refl w).allocs _).trans hE
    have hB1 := (Blk.new w _ _).ext hE
    have hs1 := hs.ext hX1
    clear hE hs
    obtain ⟨⟨b0, b1, b2, b3⟩, _⟩ := blk4 hB1
    go_wp2_with fail
    have hR := rec_len l c
    go_region_held3 (fun w' => (w'.cell? ⟨w.heap.size, 0, none⟩ = some (.int .i64 c.to) ∧ w'.cell? ⟨w.heap.size, 1, none⟩ = some (.int .i64 c.ssn) ∧ w'.cell? ⟨w.heap.size, 2, none⟩ = some (.int .i64 c.val) ∧ w'.cell? ⟨w.heap.size, 3, none⟩ = some (.int .i64 c.rsn)))
      (first | exact (blk4 hBx3).1 | exact (blk4 hBx2).1 | exact (blk4 hB1).1)
      (first
        | (go_at_call 24; refine (record_sl a0 cap0 l c _ hs1.drew (by omega)).mono ?_; rintro e wx2 ⟨v, rfl, hownx2, hEx2⟩; have hBx2 := Blk.ext (w := World.drew w1) hB1 hEx2; have hsx2 := hs1.drew.ext hEx2; obtain ⟨Ax2, cx2, rfl, hslx2, _, _⟩ := own_slice hownx2)
        | (go_at_call 25; refine (record_ref a0 cap0 l c _ hsx2 (by omega)).mono ?_; rintro e wx3 ⟨v, rfl, hownx3, hEx3⟩; have hBx3 := hBx2.ext hEx3; have hslx2' := hslx2.ext hEx3; obtain ⟨Ax3, cx3, rfl, hslx3, _, _⟩ := own_slice hownx3)
        | (go_at_call 23; refine (sameCopies_any Ax2 Ax3 cx2 cx3 (recFrom l c) _ hslx2' hslx3 (by omega)).mono ?_; rintro e wx4 ⟨rfl, qx4, rfl⟩))
    have hX4 : Ext w (wx3.drewN qx4) := ((hX1.drewN 1).trans (show Ext (w1.drewN 1) wx2 from hEx2)).trans (hEx3.drewN qx4)
    have hB4 : Blk (wx3.drewN qx4) w.heap.size 42 c.cells.toArray := hBx3
    have hs4 : CpSeg (wx3.drewN qx4) a0 l := (hsx2.ext hEx3).drewN qx4
    obtain ⟨W, hW⟩ : ∃ W, wx3.drewN qx4 = W := ⟨_, rfl⟩
    rw [hW] at hX4 hB4 hs4 ⊢
    clear hW hEx2 hBx2 hsx2 hownx2 hslx2 hEx3 hBx3 hslx2' hownx3 hslx3 hB1 hs1 b0 b1 b2 b3 hR hX1
    by_cases h0 : l.length = 0
    · have h0' : ((l.length : Int) == 0) = true := by simp [h0]
      clear h0
      go_wp2_with fail
      go_ret
      exact ⟨rfl, hX4⟩
    · have h0' : ((l.length : Int) == 0) = false := by simp [h0]
      go_wp2_with fail
      refine (mod_any at_ _ _ (by omega) (by omega)).mono ?_
      rintro e W' ⟨rfl, rfl⟩
      have hm := modv_bd at_ (l.length : Int) (by omega)
      generalize modv at_ (l.length : Int) = m at *
      obtain ⟨m, rfl⟩ := Int.eq_ofNat_of_zero_le hm.1
      have hm1 : m < l.length := by omega
      clear hm
      obtain ⟨b, off, rfl, p0, p1, p2, p3⟩ := Cp.at_ hs4 hm1
      obtain ⟨x, hx⟩ : ∃ x, l[m] = x := ⟨_, rfl⟩
      rw [hx] at p0 p1 p2 p3
      clear hx
      obtain ⟨⟨b0, b1, b2, b3⟩, _⟩ := blk4 hB4
      have hBz := hB4.lt
      go_wp2_with fail
      go_region
      have hX5 : Ext w (W.alloc (.cells (Cp.mk x.to x.ssn c.val c.rsn).cells.toArray 42)).drew := (hX4.allocs _).drew
      have hB5 : Blk (W.alloc (.cells (Cp.mk x.to x.ssn c.val c.rsn).cells.toArray 42)).drew W.heap.size 42 #[.int .i64 x.to, .int .i64 x.ssn, .int .i64 c.val, .int .i64 c.rsn] := Blk.new W _ _
      have hs5 : CpSeg (W.alloc (.cells (Cp.mk x.to x.ssn c.val c.rsn).cells.toArray 42)).drew (some ⟨b, off, none⟩) l := (hs4.alloc _).drew
      obtain ⟨V, hV⟩ : ∃ V, (W.alloc (.cells (Cp.mk x.to x.ssn c.val c.rsn).cells.toArray 42)).drew = V := ⟨_, rfl⟩
      rw [hV] at hX5 hB5 hs5
      show Exit.then _ _ _ _ ((W.alloc (.cells (Cp.mk x.to x.ssn c.val c.rsn).cells.toArray 42)).drew)
      rw [hV]
      clear hV hX4 hB4 hs4 p0 p1 p2 p3 b0 b1 b2 b3
      have hR := rec_len l ⟨x.to, x.ssn, c.val, c.rsn⟩
      obtain ⟨⟨b0, b1, b2, b3⟩, _⟩ := blk4 hB5
      go_wp2_with fail
      go_region_held3 (fun w' => (w'.cell? ⟨W.heap.size, 0, none⟩ = some (.int .i64 x.to) ∧ w'.cell? ⟨W.heap.size, 1, none⟩ = some (.int .i64 x.ssn) ∧ w'.cell? ⟨W.heap.size, 2, none⟩ = some (.int .i64 c.val) ∧ w'.cell? ⟨W.heap.size, 3, none⟩ = some (.int .i64 c.rsn)))
        (first | exact (blk4 hBy3).1 | exact (blk4 hBy2).1 | exact (blk4 hB5).1)
        (first
          | (go_at_call 24; refine (record_sl (some ⟨b, off, none⟩) cap0 l ⟨x.to, x.ssn, c.val, c.rsn⟩ _ hs5.drew (by omega)).mono ?_; rintro e wy2 ⟨v, rfl, howny2, hEy2⟩; have hBy2 := Blk.ext (w := World.drew V) hB5 hEy2; have hsy2 := hs5.drew.ext hEy2; obtain ⟨Ay2, cy2, rfl, hsly2, _, _⟩ := own_slice howny2)
          | (go_at_call 25; refine (record_ref (some ⟨b, off, none⟩) cap0 l ⟨x.to, x.ssn, c.val, c.rsn⟩ _ hsy2 (by omega)).mono ?_; rintro e wy3 ⟨v, rfl, howny3, hEy3⟩; have hBy3 := hBy2.ext hEy3; have hsly2' := hsly2.ext hEy3; obtain ⟨Ay3, cy3, rfl, hsly3, _, _⟩ := own_slice howny3)
          | (go_at_call 23; refine (sameCopies_any Ay2 Ay3 cy2 cy3 (recFrom l ⟨x.to, x.ssn, c.val, c.rsn⟩) _ hsly2' hsly3 (by omega)).mono ?_; rintro e wy4 ⟨rfl, qy4, rfl⟩))
      go_wp2_with fail
      go_ret
      exact ⟨rfl, ((hX5.drewN 1).trans (show Ext (V.drewN 1) wy2 from hEy2)).trans (hEy3.drewN qy4)⟩

theorem open_copies {H : Type} {enc : TypeId × Value → H} {w : World} {base : Nat} {spare : Nat → Bool} {held : Bool} {a : Option Addr} {len cap : Nat} {d : DataW H} {p : List MemPlace} (h : DataW.Trod enc Try.prog w base spare held 40 (.slice a len cap) d p) :
    ∃ l : List Cp, len = l.length ∧ CpSeg w a l ∧ len ≤ cap ∧ cap ≤ maxLen := by
  obtain ⟨fuel, hf⟩ := h
  obtain ⟨css, hl, hs, h1, h2, hc⟩ := open_seg 4 Try.underlying40 (by kernel_rfl) (by omega) (show DataW.trod enc Try.prog w base spare held fuel 40 [.slice a len cap] = some (d, p) from hf)
  obtain ⟨es, rfl⟩ := lift_all Cp.cells css (fun cs hcs => by
    obtain ⟨hl7, n, y, hy⟩ := hc cs hcs
    obtain ⟨z0, e0, _⟩ := leaf_int (n := 3) (j := 0) Try.underlying3 hy (by kernel_rfl)
    obtain ⟨z1, e1, _⟩ := leaf_int (n := 3) (j := 1) Try.underlying3 hy (by kernel_rfl)
    obtain ⟨z2, e2, _⟩ := leaf_int (n := 3) (j := 2) Try.underlying3 hy (by kernel_rfl)
    obtain ⟨z3, e3, _⟩ := leaf_int (n := 3) (j := 3) Try.underlying3 hy (by kernel_rfl)
    refine ⟨⟨z0, z1, z2, z3⟩, List.ext_getElem? fun j => ?_⟩
    rcases j with _ | _ | _ | _ | j
    · exact e0
    · exact e1
    · exact e2
    · exact e3
    · rw [List.getElem?_eq_none (by omega), List.getElem?_eq_none (by simp [Cp.cells])])
  rw [List.length_map] at hl
  subst hl
  refine ⟨es, rfl, ?_, h1, h2⟩
  show Seg w 4 a es.length (es.flatMap Cp.cells)
  rw [List.flatMap_def]
  exact hs

open Go.ChangeShapes Go.WideShapes in
theorem open_copy {H : Type} {enc : TypeId × Value → H} {w : World} {base : Nat} {spare : Nat → Bool} {held : Bool} {r : Reach} {b0 : Nat} {v : Value} {d : DataW H} {p : List MemPlace}
    (hv : Value.okWide Try.prog w r b0 42 v) (h : DataW.Trod enc Try.prog w base spare held 42 v d p) :
    ∃ c : Cp, v = .agg #[.int .i64 c.to, .int .i64 c.ssn, .int .i64 c.val, .int .i64 c.rsn] ∧ True := by
  obtain ⟨v0, v1, v2, v3, y0, y1, y2, y3, m, rfl, rfl, _, h0, h1, h2, h3⟩ := Go.Joins.open_agg4 Try.underlying42 (by kernel_rfl) (show Try.prog.cellsOf 42 = 4 by kernel_rfl) hv h
  obtain ⟨z0, e0, _⟩ := DataW.trod_int Try.underlying3 h0
  obtain ⟨z1, e1, _⟩ := DataW.trod_int Try.underlying3 h1
  obtain ⟨z2, e2, _⟩ := DataW.trod_int Try.underlying3 h2
  obtain ⟨z3, e3, _⟩ := DataW.trod_int Try.underlying3 h3
  simp at e0 e1 e2 e3
  subst e0 e1 e2 e3
  exact ⟨⟨z0, z1, z2, z3⟩, rfl, trivial⟩
end Go.Proofs.Ytooegndajfopkaa
