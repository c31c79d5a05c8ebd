/- Known determinants: their cells, the order in which memory sorts them, the sort. No statement of the seat is proved here. -/
import Derived.Test.YtfnnoncdocghjaaCompareDK
import Derived.Test.YtfnnoncdocghjaaMergePlainK
import Derived.Test.YtfnnoncdocghjaaSortLayK
import Derived.Lib.QuietBelow
namespace Go.Proofs.Ytfnnoncdocghjaa
open Go.RowKit Go.Shelf Go.Lib Go.Sort
set_option linter.unusedVariables false
set_option maxRecDepth 100000

/-- a determinant and who holds it -/
structure Kn where
  d : Dt
  h : Int
def Kn.cells (k : Kn) : List Value := [.int .i64 k.d.proc, .int .i64 k.d.index, .int .i64 k.d.ev.kind, .int .i64 k.d.ev.inc, .int .i64 k.d.ev.frm, .int .i64 k.d.ev.sinc, .int .i64 k.d.ev.sidx, .int .i64 k.d.ev.ord, .int .i64 k.d.ev.val, .int .u32 k.h]
theorem Kn.len (k : Kn) : k.cells.length = 10 := rfl
theorem Kn.one (k : Kn) : ∀ u ∈ k.cells, u.oneCell' = true := by simp [Kn.cells, Value.oneCell']
abbrev KnSeg (w : World) (A : Option Addr) (l : List Kn) : Prop := Seg w 10 A l.length (l.flatMap Kn.cells)
theorem Kn.at_ {w : World} {A : Option Addr} {l : List Kn} (h : KnSeg w A l) {j : Nat} (hj : j < l.length) :
    ∃ b off, A = some ⟨b, off, none⟩ ∧ w.cell? ⟨b, off + j * 10, none⟩ = some (.int .i64 l[j].d.proc) ∧ w.cell? ⟨b, off + j * 10 + 1, none⟩ = some (.int .i64 l[j].d.index) ∧ w.cell? ⟨b, off + j * 10 + 2, none⟩ = some (.int .i64 l[j].d.ev.kind) ∧ w.cell? ⟨b, off + j * 10 + 3, none⟩ = some (.int .i64 l[j].d.ev.inc) ∧ w.cell? ⟨b, off + j * 10 + 4, none⟩ = some (.int .i64 l[j].d.ev.frm) ∧ w.cell? ⟨b, off + j * 10 + 5, none⟩ = some (.int .i64 l[j].d.ev.sinc) ∧ w.cell? ⟨b, off + j * 10 + 6, none⟩ = some (.int .i64 l[j].d.ev.sidx) ∧ w.cell? ⟨b, off + j * 10 + 7, none⟩ = some (.int .i64 l[j].d.ev.ord) ∧ w.cell? ⟨b, off + j * 10 + 8, none⟩ = some (.int .i64 l[j].d.ev.val) ∧ w.cell? ⟨b, off + j * 10 + 9, none⟩ = some (.int .u32 l[j].h) := by
  obtain ⟨b, off, hA, _, hc⟩ := Seg.at_ h Kn.len hj
  exact ⟨b, off, hA, hc 0 _ rfl, hc 1 _ rfl, hc 2 _ rfl, hc 3 _ rfl, hc 4 _ rfl, hc 5 _ rfl, hc 6 _ rfl, hc 7 _ rfl, hc 8 _ rfl, hc 9 _ rfl⟩

instance : Inhabited Kn := ⟨⟨⟨0, 0, ⟨0, 0, 0, 0, 0, 0, 0⟩⟩, 0⟩⟩
def cmpK (a b : Kn) : Int := cmpD a.d b.d
set_option maxHeartbeats 1600000 in
theorem compare_k (a b : Kn) (w : World) : Calls Try.prog 62 #[.agg #[.int .i64 a.d.proc, .int .i64 a.d.index, .int .i64 a.d.ev.kind, .int .i64 a.d.ev.inc, .int .i64 a.d.ev.frm, .int .i64 a.d.ev.sinc, .int .i64 a.d.ev.sidx, .int .i64 a.d.ev.ord, .int .i64 a.d.ev.val, .int .u32 a.h], .agg #[.int .i64 b.d.proc, .int .i64 b.d.index, .int .i64 b.d.ev.kind, .int .i64 b.d.ev.inc, .int .i64 b.d.ev.frm, .int .i64 b.d.ev.sinc, .int .i64 b.d.ev.sidx, .int .i64 b.d.ev.ord, .int .i64 b.d.ev.val, .int .u32 b.h]] w (fun e w' => e = .returned (.int .i64 (cmpK a b)) ∧ ExtD w w') := by
  have hXX := ((ExtD.refl w).allocs (.cells a.cells.toArray 34)).allocs (.cells b.cells.toArray 34)
  unfold cmpK
  go_enter Try.func62, Try.ntmps62
  go_wp2_with fail
  refine (compare_d a.d b.d _).mono ?_
  rintro e w1 ⟨rfl, hE⟩
  go_wp2_with fail
  go_ret
  exact ⟨rfl, ExtD.trans hXX hE⟩
theorem grown_of_extD {w w' : World} (h : ExtD w w') : ∃ q os', w' = grow (w.drewN q) os' := by
  obtain ⟨p, hp⟩ := regrown_of_below h.1
  refine ⟨w'.drawn - w.drawn, p.os, ?_⟩
  have e : w'.drawn = p.d := by rw [hp]; rfl
  have hd : redrawn w p.d = w.drewN (w'.drawn - w.drawn) := by
    have := h.2
    unfold redrawn World.drewN
    congr 1
    omega
  rw [hp]
  conv => lhs; rw [hd]
  rw [hp]
theorem ltK (x y : Kn) : ltOf cmpK x y = true ↔ cmpD x.d y.d < 0 := by
  unfold ltOf
  exact decide_eq_true_iff
theorem ltK' (x y : Kn) : ltOf cmpK x y = false ↔ ¬ cmpD x.d y.d < 0 := by
  unfold ltOf
  exact decide_eq_false_iff_not
theorem swoK : SWO (ltOf cmpK) where
  irrefl x := by
    have := cmpD_anti x.d x.d
    rw [ltK']
    omega
  trans x y z h1 h2 := by
    rw [ltK] at *
    exact cmpD_lt_trans h1 h2
  ntrans x y z h1 h2 := by
    rw [ltK'] at *
    have a1 := cmpD_anti x.d y.d
    have a2 := cmpD_anti y.d z.d
    have a3 := cmpD_anti x.d z.d
    have := cmpD_trans z.d y.d x.d (by omega) (by omega)
    omega
theorem cmpLaysK (blk off size : Nat) (w : World) : CmpLays Try.prog 62 #[] Kn.cells 10 cmpK blk off size w :=
  fun _ _ _ _ x y => (compare_k x y _).mono fun _ _ h => ⟨h.1, grown_of_extD h.2⟩
theorem isAggK (w : World) : (isAgg 34).run Try.prog w = .ok true w := by
  simp [isAgg, run_underlying, Try.underlying34]
theorem sizeK (w : World) : (Go.sizeOf 34).run Try.prog w = .ok 10 w := by
  obtain ⟨i0, hi, hz0, hz1, hz2⟩ := info_parts (show (Try.prog.info? 34).map (fun i => (i.zero, i.size, i.bytes)) = some (some (.agg #[.int .i64 0, .int .i64 0, .int .i64 0, .int .i64 0, .int .i64 0, .int .i64 0, .int .i64 0, .int .i64 0, .int .i64 0, .int .u32 0]), 10, 80) by kernel_rfl)
  simp [Go.sizeOf, typeInfo, hi, hz1]
theorem sort_known (blk cap : Nat) (l : List Kn) (w : World) (hH : HoldsK Kn.cells 10 w blk 0 l.toArray) (hblk : blk < w.heap.size) (hsz : l.length ≤ 1000) :
    Calls Try.prog 61 #[.slice (some ⟨blk, 0, none⟩) l.length cap, .func (.func 62) #[] #[]] w fun e w' => e = .returned (.tuple #[]) ∧ ∃ d' n os, PermIn 0 l.length l.toArray d' ∧ SortedIn (ltOf cmpK) 0 l.length d' ∧ w' = sortWorldK Kn.cells 10 w blk 0 n d' os := by
  have eg : ∀ args w, (callFunc 62 args).run Try.prog w = .ok (.enter 62 args) w := enters_of Try.func62 (by kernel_rfl) rfl
  exact AnyQ.slices_SortFunc Try.sortKn 10 isAggK sizeK Kn.cells Kn.len Kn.one cmpK swoK 62 #[] blk 0 cap l.toArray w eg (cmpLaysK blk 0 _ w) hH hblk (by simp; omega)
end Go.Proofs.Ytfnnoncdocghjaa
