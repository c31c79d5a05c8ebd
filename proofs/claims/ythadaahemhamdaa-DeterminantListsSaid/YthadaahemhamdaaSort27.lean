/- Sorting determinants. No statement of the seat is proved here. -/
import Derived.Test.YthadaahemhamdaaCompareD
import Derived.Test.YthadaahemhamdaaMergePlain
import Derived.Test.YthadaahemhamdaaSortLay27
import Derived.Lib.QuietBelow
namespace Go.Proofs.Ythadaahemhamdaa
open Go.RowKit Go.Shelf Go.Lib Go.Sort
set_option linter.unusedVariables false

instance : Inhabited Dt := ⟨⟨0, 0, ⟨0, 0, 0, 0, 0, 0, 0⟩⟩⟩
theorem grown_of_extD {w w' : World} (h : ExtD w w') : ∃ q os', w' = grow (w.drewN q) os' := by
  obtain ⟨p, hp⟩ := regrown_of_below h.1
  refine ⟨w'.drawn - w.drawn, p.os, ?_⟩
  have e : w'.drawn = p.d := by rw [hp]; rfl
  have hd : redrawn w p.d = w.drewN (w'.drawn - w.drawn) := by
    have := h.2
    unfold redrawn World.drewN
    congr 1
    omega
  rw [hp]
  conv => lhs; rw [hd]
  rw [hp]
theorem swoD : SWO (ltOf cmpD) where
  irrefl x := by have := cmpD_anti x x; simp [ltOf]; omega
  trans x y z h1 h2 := by simp only [ltOf, decide_eq_true_eq] at *; exact cmpD_lt_trans h1 h2
  ntrans x y z h1 h2 := by
    simp only [ltOf, decide_eq_false_iff_not] at *
    have a1 := cmpD_anti x y
    have a2 := cmpD_anti y z
    have a3 := cmpD_anti x z
    have := cmpD_trans z y x (by omega) (by omega)
    omega
theorem cmpLaysD (blk off size : Nat) (w : World) : CmpLays Try.prog 21 #[] Dt.cells 9 cmpD blk off size w :=
  fun _ _ _ _ x y => (compare_d x y _).mono fun _ _ h => ⟨h.1, grown_of_extD h.2⟩
theorem isAggD (w : World) : (isAgg 39).run Try.prog w = .ok true w := by
  simp [isAgg, run_underlying, Try.underlying39]
theorem sizeD (w : World) : (Go.sizeOf 39).run Try.prog w = .ok 9 w := by
  obtain ⟨i0, hi, hz0, hz1, hz2⟩ := info_parts (show (Try.prog.info? 39).map (fun i => (i.zero, i.size, i.bytes)) = some (some (.agg #[.int .i64 0, .int .i64 0, .int .i64 0, .int .i64 0, .int .i64 0, .int .i64 0, .int .i64 0, .int .i64 0, .int .i64 0]), 9, 72) by kernel_rfl)
  simp [Go.sizeOf, typeInfo, hi, hz1]
theorem sort_any (blk cap : Nat) (l : List Dt) (w : World) (hH : HoldsK Dt.cells 9 w blk 0 l.toArray) (hblk : blk < w.heap.size) (hsz : l.length ≤ 1000) :
    Calls Try.prog 50 #[.slice (some ⟨blk, 0, none⟩) l.length cap, .func (.func 21) #[] #[]] w fun e w' => e = .returned (.tuple #[]) ∧ ∃ n os, w' = sortWorldK Dt.cells 9 w blk 0 n (sortD l).toArray os := by
  have eg : ∀ args w, (callFunc 21 args).run Try.prog w = .ok (.enter 21 args) w := enters_of Try.func21 (by kernel_rfl) rfl
  exact AnyQ.slices_SortFunc_total Try.sortDet 9 isAggD sizeD Dt.cells Dt.len Dt.one cmpD swoD 21 #[] blk 0 cap l.toArray w eg (cmpLaysD blk 0 _ w) hH hblk (by simp; omega) (fun x y h1 h2 => by
    simp only [ltOf, decide_eq_false_iff_not] at h1 h2
    have := cmpD_anti x y
    exact (cmpD_zero x y).1 (by omega))
end Go.Proofs.Ythadaahemhamdaa
