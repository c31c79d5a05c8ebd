/- The example of chapter 27. No statement of the seat is proved here. -/
import Derived.Test.YthadaahemhamdaaRest2
import Derived.Test.YthadaahemhamdaaDets
import Derived.Deep.RegionHeld3
import Derived.Deep.DeepMust
namespace Go.Proofs.Ythadaahemhamdaa
open Go.RowKit
set_option linter.unusedVariables false
def ex2 : List Ev := [⟨2, 0, 0, 0, 0, 0, 0⟩, ⟨2, 0, 0, 0, 0, 0, 1⟩, ⟨3, 0, 0, 0, 0, 0, 0⟩]

theorem keepS {W : World} {b off n : Nat} (h : Seg W 9 (some ⟨b, off, none⟩) n ((linV 1 ex2).flatMap Dt.cells)) (hn : 0 < n) : W.cell? ⟨b, off, none⟩ = some (.int .i64 1) ∧ W.cell? ⟨b, off + 1, none⟩ = some (.int .i64 1) ∧ W.cell? ⟨b, off + 2, none⟩ = some (.int .i64 2) ∧ W.cell? ⟨b, off + 3, none⟩ = some (.int .i64 0) ∧ W.cell? ⟨b, off + 4, none⟩ = some (.int .i64 0) ∧ W.cell? ⟨b, off + 5, none⟩ = some (.int .i64 0) ∧ W.cell? ⟨b, off + 6, none⟩ = some (.int .i64 0) ∧ W.cell? ⟨b, off + 7, none⟩ = some (.int .i64 0) ∧ W.cell? ⟨b, off + 8, none⟩ = some (.int .i64 0) ∧ W.cell? ⟨b, off + 18, none⟩ = some (.int .i64 1) ∧ W.cell? ⟨b, off + 19, none⟩ = some (.int .i64 3) ∧ W.cell? ⟨b, off + 20, none⟩ = some (.int .i64 3) ∧ W.cell? ⟨b, off + 21, none⟩ = some (.int .i64 0) ∧ W.cell? ⟨b, off + 22, none⟩ = some (.int .i64 0) ∧ W.cell? ⟨b, off + 23, none⟩ = some (.int .i64 0) ∧ W.cell? ⟨b, off + 24, none⟩ = some (.int .i64 0) ∧ W.cell? ⟨b, off + 25, none⟩ = some (.int .i64 0) ∧ W.cell? ⟨b, off + 26, none⟩ = some (.int .i64 0) := by
  obtain ⟨b', off', hA, _, hc⟩ := h.2 hn
  injection hA with hA
  injection hA with h1 h2
  subst h1 h2
  exact ⟨hc 0 _ rfl, hc 1 _ rfl, hc 2 _ rfl, hc 3 _ rfl, hc 4 _ rfl, hc 5 _ rfl, hc 6 _ rfl, hc 7 _ rfl, hc 8 _ rfl, hc 18 _ rfl, hc 19 _ rfl, hc 20 _ rfl, hc 21 _ rfl, hc 22 _ rfl, hc 23 _ rfl, hc 24 _ rfl, hc 25 _ rfl, hc 26 _ rfl⟩

theorem seg_lt {W : World} {s b off n : Nat} {xs : List Value} (h : Seg W s (some ⟨b, off, none⟩) n xs) (hn : 0 < n) : b < W.heap.size := by
  obtain ⟨b', off', hA, hb, _⟩ := h.2 hn
  injection hA with hA
  injection hA with h1 h2
  omega

theorem Blk.newAt {w : World} {g : Nat} {t : TypeId} {cs : Array Value} (h : w.heap.size = g) : Blk (w.alloc (.cells cs t)) g t cs := by subst h; exact heap_alloc_new w _
theorem Blk.allocs {w : World} {g : Nat} {t : TypeId} {cs : Array Value} (h : Blk w g t cs) (o : Obj) : Blk (w.alloc o) g t cs := h.ext ((Ext.refl w).allocs o)
theorem Blk.drews {w : World} {g : Nat} {t : TypeId} {cs : Array Value} (h : Blk w g t cs) : Blk w.drew g t cs := h
theorem Blk.drewNs {w : World} {g : Nat} {t : TypeId} {cs : Array Value} (h : Blk w g t cs) (n : Nat) : Blk (w.drewN n) g t cs := h
theorem Seg.of_blk {w : World} {g n s : Nat} {t : TypeId} {cs : Array Value} {xs : List Value} (h : Blk w g t cs) (hx : cs.toList = xs) (hn : xs.length = n * s) : Seg w s (some ⟨g, 0, none⟩) n xs := by
  subst hx
  refine ⟨hn, fun _ => ⟨g, 0, rfl, h.lt, fun j u hu => ?_⟩⟩
  rw [Nat.zero_add, h.cell]
  simpa using hu
def dA : Dt := ⟨1, 1, ⟨2, 0, 0, 0, 0, 0, 0⟩⟩
def dC : Dt := ⟨1, 3, ⟨3, 0, 0, 0, 0, 0, 0⟩⟩
theorem exA : restV 1 ex2 [0, 2] [dA, dC] = [0, 1, 2, 3] := by decide
theorem exB : restV 1 ex2 [0, 2] [dA] = [0, 1, 2] := by decide
theorem ok0 (z : Int) (h0 : 0 ≤ z) (h1 : z < 1000) : InI64 z := ⟨by omega, by omega⟩
theorem ok_dA : dA.ok := ⟨ok0 1 (by omega) (by omega), ok0 1 (by omega) (by omega), ok0 2 (by omega) (by omega), ok0 0 (by omega) (by omega), ok0 0 (by omega) (by omega), ok0 0 (by omega) (by omega), ok0 0 (by omega) (by omega), ok0 0 (by omega) (by omega), ok0 0 (by omega) (by omega)⟩
theorem ok_dC : dC.ok := ⟨ok0 1 (by omega) (by omega), ok0 3 (by omega) (by omega), ok0 3 (by omega) (by omega), ok0 0 (by omega) (by omega), ok0 0 (by omega) (by omega), ok0 0 (by omega) (by omega), ok0 0 (by omega) (by omega), ok0 0 (by omega) (by omega), ok0 0 (by omega) (by omega)⟩
theorem ok_ex2 : ∀ e ∈ ex2, e.ok := by
  intro e he
  simp only [ex2, List.mem_cons, List.not_mem_nil, or_false] at he
  rcases he with rfl | rfl | rfl <;> exact ⟨ok0 _ (by decide) (by decide), ok0 _ (by decide) (by decide), ok0 _ (by decide) (by decide), ok0 _ (by decide) (by decide), ok0 _ (by decide) (by decide), ok0 _ (by decide) (by decide), ok0 _ (by decide) (by decide)⟩
theorem ok_ck : ∀ c ∈ ([0, 2] : List Int), InI64 c := by
  intro c hc
  simp only [List.mem_cons, List.not_mem_nil, or_false] at hc
  rcases hc with rfl | rfl <;> exact ok0 _ (by decide) (by decide)
/-- the two calls of Restorable, as the example makes them -/
theorem restA {W : World} {be : Nat} (g1 g2 : Nat) (he : EvSeg W (some ⟨be, 0, none⟩) ex2) (h1 : Blk W g1 3 #[.int .i64 0, .int .i64 2])
    (h2 : Blk W g2 39 #[.int .i64 1, .int .i64 1, .int .i64 2, .int .i64 0, .int .i64 0, .int .i64 0, .int .i64 0, .int .i64 0, .int .i64 0, .int .i64 1, .int .i64 3, .int .i64 3, .int .i64 0, .int .i64 0, .int .i64 0, .int .i64 0, .int .i64 0, .int .i64 0]) :
    Calls Try.prog 18 #[.int .i64 1, .slice (some ⟨be, 0, none⟩) 3 3, .slice (some ⟨g1, 0, none⟩) 2 2, .slice (some ⟨g2, 0, none⟩) 2 2] W (fun e w' => ∃ A c, e = .returned (.slice A 4 c) ∧ IntSeg w' A [0, 1, 2, 3] ∧ Ext W w') := by
  refine (rest_sl (some ⟨be, 0, none⟩) (some ⟨g1, 0, none⟩) (some ⟨g2, 0, none⟩) 3 2 2 1 ex2 [0, 2] [dA, dC] W he (Seg.of_blk h1 rfl rfl) (Seg.of_blk h2 rfl rfl) (ok0 1 (by omega) (by omega)) ok_ex2 ok_ck (by
    intro d hd
    simp only [List.mem_cons, List.not_mem_nil, or_false] at hd
    rcases hd with rfl | rfl
    · exact ok_dA
    · exact ok_dC) (by decide) (by decide) (by decide)).mono ?_
  rintro e w' ⟨v, rfl, hown, hE⟩
  rw [exA] at hown
  obtain ⟨A, c, rfl, hs, _⟩ := own_slice hown
  exact ⟨A, c, rfl, hs, hE⟩
theorem restB {W : World} {be b off cc : Nat} (g1 : Nat) (he : EvSeg W (some ⟨be, 0, none⟩) ex2) (h1 : Blk W g1 3 #[.int .i64 0, .int .i64 2])
    (h2 : Seg W 9 (some ⟨b, off, none⟩) 3 ((linV 1 ex2).flatMap Dt.cells)) :
    Calls Try.prog 18 #[.int .i64 1, .slice (some ⟨be, 0, none⟩) 3 3, .slice (some ⟨g1, 0, none⟩) 2 2, .slice (some ⟨b, off, none⟩) 1 cc] W (fun e w' => ∃ A c, e = .returned (.slice A 3 c) ∧ IntSeg w' A [0, 1, 2] ∧ Ext W w') := by
  have h3 : DtSeg W (some ⟨b, off, none⟩) [dA] := by
    refine ⟨rfl, fun _ => ?_⟩
    obtain ⟨b', off', hA, hb, hc⟩ := h2.2 (by decide)
    refine ⟨b', off', hA, hb, fun j u hu => hc j u ?_⟩
    have hj : j < 9 := (List.getElem?_eq_some_iff.1 hu).1
    have e : ((linV 1 ex2).flatMap Dt.cells)[j]? = ([dA].flatMap Dt.cells)[j]? := by
      show (dA.cells ++ _)[j]? = (dA.cells ++ [])[j]?
      rw [List.getElem?_append_left (by rw [Dt.len]; exact hj), List.getElem?_append_left (by rw [Dt.len]; exact hj)]
    rw [e]; exact hu
  refine (rest_sl (some ⟨be, 0, none⟩) (some ⟨g1, 0, none⟩) (some ⟨b, off, none⟩) 3 2 cc 1 ex2 [0, 2] [dA] W he (Seg.of_blk h1 rfl rfl) h3 (ok0 1 (by omega) (by omega)) ok_ex2 ok_ck (by
    intro d hd
    simp only [List.mem_cons, List.not_mem_nil, or_false] at hd
    subst hd
    exact ok_dA) (by decide) (by decide) (by decide)).mono ?_
  rintro e w' ⟨v, rfl, hown, hE⟩
  rw [exB] at hown
  obtain ⟨A, c, rfl, hs, _⟩ := own_slice hown
  exact ⟨A, c, rfl, hs, hE⟩
theorem sameA {W : World} {A : Option Addr} {c : Nat} (g : Nat) (h1 : IntSeg W A [0, 1, 2, 3]) (h2 : Blk W g 3 #[.int .i64 0, .int .i64 1, .int .i64 2, .int .i64 3]) :
    Calls Try.prog 17 #[.slice A 4 c, .slice (some ⟨g, 0, none⟩) 4 4] W (StillPost W (.bool true)) :=
  sameInts A (some ⟨g, 0, none⟩) c 4 [0, 1, 2, 3] W h1 (Seg.of_blk h2 rfl rfl) (by decide)
theorem sameB {W : World} {A : Option Addr} {c : Nat} (g : Nat) (h1 : IntSeg W A [0, 1, 2]) (h2 : Blk W g 3 #[.int .i64 0, .int .i64 1, .int .i64 2]) :
    Calls Try.prog 17 #[.slice A 3 c, .slice (some ⟨g, 0, none⟩) 3 3] W (StillPost W (.bool true)) :=
  sameInts A (some ⟨g, 0, none⟩) c 3 [0, 1, 2] W h1 (Seg.of_blk h2 rfl rfl) (by decide)

set_option maxHeartbeats 6400000 in
theorem awake_any (w : World) : Calls Try.prog 12 #[] w fun e w' => e = .returned (.bool true) ∧ Ext w w' := by
  have hs : EvSeg (w.alloc (.cells (ex2.flatMap Ev.cells).toArray 37)) (some ⟨w.heap.size, 0, none⟩) ex2 := by
    refine ⟨rfl, fun _ => ⟨w.heap.size, 0, rfl, by simp, fun j u hu => ?_⟩⟩
    have hc := heap_alloc_new w (.cells (ex2.flatMap Ev.cells).toArray 37)
    simp only [World.cell?, hc]
    simpa using hu
  have HE := Lib.hid ((Ext.refl w).allocs (.cells (ex2.flatMap Ev.cells).toArray 37))
  have HS := Lib.hid hs
  clear hs
  go_enter Try.func12, Try.ntmps12
  go_wp2_with fail
  refine (lineage_sl _ 3 1 ex2 _ HS.out (by decide)).mono ?_
  rintro e w1 ⟨v, rfl, hown, hE1⟩
  have hX1 := HE.out.trans hE1
  have hs1 := HS.out.ext hE1
  obtain ⟨A, c, rfl, hsl, hc1, hc2⟩ := own_slice hown
  obtain ⟨b, off, rfl, hbz, hcl⟩ := hsl.2 (by decide)
  obtain ⟨q0, q1, q2, q3, q4, q5, q6, q7, q8, r0, r1, r2, r3, r4, r5, r6, r7, r8⟩ := keepS hsl (by decide)
  have hl3 : (linV 1 ex2).length = 3 := rfl
  rw [hl3] at hown hsl hc1
  have tokA : True := trivial
  have tokB : True := trivial
  have hc1i : (1 : Int) ≤ (c : Int) := by omega
  have hc1j : (3 : Int) ≤ (c : Int) := by omega
  have hc1k : 1 ≤ c := by omega
  rw [show (linV 1 ex2).length = 3 from rfl]
  go_wp2_with fail
  clear hcl hbz hE1
  go_region_held3 (fun w' => w'.cell? ⟨b, off, none⟩ = some (.int .i64 1) ∧ w'.cell? ⟨b, off + 1, none⟩ = some (.int .i64 1) ∧ w'.cell? ⟨b, off + 2, none⟩ = some (.int .i64 2) ∧ w'.cell? ⟨b, off + 3, none⟩ = some (.int .i64 0) ∧ w'.cell? ⟨b, off + 4, none⟩ = some (.int .i64 0) ∧ w'.cell? ⟨b, off + 5, none⟩ = some (.int .i64 0) ∧ w'.cell? ⟨b, off + 6, none⟩ = some (.int .i64 0) ∧ w'.cell? ⟨b, off + 7, none⟩ = some (.int .i64 0) ∧ w'.cell? ⟨b, off + 8, none⟩ = some (.int .i64 0) ∧ w'.cell? ⟨b, off + 18, none⟩ = some (.int .i64 1) ∧ w'.cell? ⟨b, off + 19, none⟩ = some (.int .i64 3) ∧ w'.cell? ⟨b, off + 20, none⟩ = some (.int .i64 3) ∧ w'.cell? ⟨b, off + 21, none⟩ = some (.int .i64 0) ∧ w'.cell? ⟨b, off + 22, none⟩ = some (.int .i64 0) ∧ w'.cell? ⟨b, off + 23, none⟩ = some (.int .i64 0) ∧ w'.cell? ⟨b, off + 24, none⟩ = some (.int .i64 0) ∧ w'.cell? ⟨b, off + 25, none⟩ = some (.int .i64 0) ∧ w'.cell? ⟨b, off + 26, none⟩ = some (.int .i64 0))
    (first | (refine keepS (n := 3) ?_ (by decide); (repeat (first | with_reducible refine Seg.alloc ?_ _ | with_reducible refine Seg.drew ?_ | with_reducible refine Seg.drewN ?_ _)); (first | with_reducible exact hsl | with_reducible exact hslA | with_reducible exact hslB)))
    (first
      | (go_at_call 18; have _t := tokA; refine (restA _ _ (by (repeat (first | with_reducible refine Seg.alloc ?_ _ | with_reducible refine Seg.drew ?_ | with_reducible refine Seg.drewN ?_ _)); with_reducible exact hs1) (by repeat (first | with_reducible exact Blk.newAt (by simp) | with_reducible refine Blk.allocs ?_ _ | with_reducible refine Blk.drews ?_ | with_reducible refine Blk.drewNs ?_ _ | with_reducible refine Blk.ext ?_ hE4 | with_reducible refine Blk.ext ?_ hE2)) (by repeat (first | with_reducible exact Blk.newAt (by simp) | with_reducible refine Blk.allocs ?_ _ | with_reducible refine Blk.drews ?_ | with_reducible refine Blk.drewNs ?_ _ | with_reducible refine Blk.ext ?_ hE4 | with_reducible refine Blk.ext ?_ hE2))).mono ?_; rintro e w2 ⟨AA, cA, rfl, hiA, hE2⟩; have hslA : Seg w2 9 (some ⟨b, off, none⟩) 3 ((linV 1 ex2).flatMap Dt.cells) := Seg.ext (by (repeat (first | with_reducible refine Seg.alloc ?_ _ | with_reducible refine Seg.drew ?_ | with_reducible refine Seg.drewN ?_ _)); with_reducible exact hsl) hE2; have hs2 : Seg w2 7 (some ⟨w.heap.size, 0, none⟩) ex2.length (ex2.flatMap Ev.cells) := Seg.ext (by (repeat (first | with_reducible refine Seg.alloc ?_ _ | with_reducible refine Seg.drew ?_ | with_reducible refine Seg.drewN ?_ _)); with_reducible exact hs1) hE2; have hX2 : Ext w w2 := Ext.trans (by repeat (first | with_reducible exact hX1 | with_reducible refine Ext.allocs ?_ _ | with_reducible refine Below.drew ?_ | with_reducible refine Ext.drewN ?_ _)) hE2; clear tokA)
      | (go_at_call 18; refine (restB _ (by (repeat (first | with_reducible refine Seg.alloc ?_ _ | with_reducible refine Seg.drew ?_ | with_reducible refine Seg.drewN ?_ _)); with_reducible exact hs2) (by repeat (first | with_reducible exact Blk.newAt (by simp) | with_reducible refine Blk.allocs ?_ _ | with_reducible refine Blk.drews ?_ | with_reducible refine Blk.drewNs ?_ _ | with_reducible refine Blk.ext ?_ hE4 | with_reducible refine Blk.ext ?_ hE2)) (by (repeat (first | with_reducible refine Seg.alloc ?_ _ | with_reducible refine Seg.drew ?_ | with_reducible refine Seg.drewN ?_ _)); with_reducible exact hslA)).mono ?_; rintro e w4 ⟨AB, cB, rfl, hiB, hE4⟩; have hslB : Seg w4 9 (some ⟨b, off, none⟩) 3 ((linV 1 ex2).flatMap Dt.cells) := Seg.ext (by (repeat (first | with_reducible refine Seg.alloc ?_ _ | with_reducible refine Seg.drew ?_ | with_reducible refine Seg.drewN ?_ _)); with_reducible exact hslA) hE4; have hX4 : Ext w w4 := Ext.trans (by repeat (first | with_reducible exact hX2 | with_reducible refine Ext.allocs ?_ _ | with_reducible refine Below.drew ?_ | with_reducible refine Ext.drewN ?_ _)) hE4)
      | (go_at_call 17; have _t := tokB; refine (sameA _ (by (repeat (first | with_reducible refine Seg.alloc ?_ _ | with_reducible refine Seg.drew ?_ | with_reducible refine Seg.drewN ?_ _)); with_reducible exact hiA) (by repeat (first | with_reducible exact Blk.newAt (by simp) | with_reducible refine Blk.allocs ?_ _ | with_reducible refine Blk.drews ?_ | with_reducible refine Blk.drewNs ?_ _ | with_reducible refine Blk.ext ?_ hE4 | with_reducible refine Blk.ext ?_ hE2))).mono ?_; rintro e w3 ⟨rfl, q, rfl⟩; clear tokB)
      | (go_at_call 17; refine (sameB _ (by (repeat (first | with_reducible refine Seg.alloc ?_ _ | with_reducible refine Seg.drew ?_ | with_reducible refine Seg.drewN ?_ _)); with_reducible exact hiB) (by repeat (first | with_reducible exact Blk.newAt (by simp) | with_reducible refine Blk.allocs ?_ _ | with_reducible refine Blk.drews ?_ | with_reducible refine Blk.drewNs ?_ _ | with_reducible refine Blk.ext ?_ hE4 | with_reducible refine Blk.ext ?_ hE2))).mono ?_; rintro e w3 ⟨rfl, q, rfl⟩))
  all_goals
    go_wp2_with fail
    go_ret
    refine ⟨rfl, ?_⟩
    repeat (first | with_reducible exact hX4 | with_reducible refine Ext.allocs ?_ _ | with_reducible refine Below.drew ?_ | with_reducible refine Ext.drewN ?_ _)
end Go.Proofs.Ythadaahemhamdaa
