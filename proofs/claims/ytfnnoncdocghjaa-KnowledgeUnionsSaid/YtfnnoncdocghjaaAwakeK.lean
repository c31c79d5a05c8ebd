/- awake of chapter 28. No statement of the seat is proved here. -/
import Derived.Test.YtfnnoncdocghjaaPlay
namespace Go.Proofs.Ytfnnoncdocghjaa
open Go.RowKit
set_option linter.unusedVariables false
set_option maxRecDepth 100000

def awL : List Av := [⟨1, 0, 1⟩, ⟨2, 0, 0⟩, ⟨1, 1, 2⟩, ⟨2, 0, 0⟩]
theorem aw_len : (playR 3 1 awL).2.2.map List.length = [0, 1, 2] := by rfl
theorem aw_err : (playR 3 1 awL).1 = 0 := by rfl
theorem aw_two : ((playR 3 1 awL).2.2.getD 2 []).map (fun k => (k.h, k.d.proc)) = [(6, 1), (4, 2)] := by rfl
theorem aw_cnt : ((cnt 6 : Nat) : Int) = 2 := by rfl
set_option maxHeartbeats 1600000 in
theorem awake_any (w : World) : Calls Try.prog 12 #[] w (ExtPost w (.bool true)) := by
  have hS : AvSeg (w.alloc (.cells #[.int .i64 1, .int .i64 0, .int .i64 1, .int .i64 2, .int .i64 0, .int .i64 0, .int .i64 1, .int .i64 1, .int .i64 2, .int .i64 2, .int .i64 0, .int .i64 0] 74)) (some ⟨w.heap.size, 0, none⟩) awL := Seg.ofBlkK (Blk.new w 74 _) rfl
  have HP : Hid (Calls Try.prog 24 #[.int .i64 3, .int .i64 1, .slice (some ⟨w.heap.size, 0, none⟩) 4 4] (w.alloc (.cells #[.int .i64 1, .int .i64 0, .int .i64 1, .int .i64 2, .int .i64 0, .int .i64 0, .int .i64 1, .int .i64 1, .int .i64 2, .int .i64 2, .int .i64 0, .int .i64 0] 74)) (PlPost 3 1 awL _)) := play_any 3 1 _ 4 awL _ hS
  clear hS
  have hct := fun w => count_any 6 w (by omega) (by omega)
  rw [aw_cnt] at hct
  have HCT := Lib.hid hct
  clear hct
  go_enter Try.func12, Try.ntmps12
  go_wp2_with fail
  refine HP.out.mono ?_
  rintro e w1 ⟨v, rfl, hsp, hE⟩
  have hX : Ext w w1 := Ext.trans ((Ext.refl w).allocs _) hE
  have hlen := aw_len
  have htwo := aw_two
  rw [aw_err]
  clear HP hE
  generalize (playR 3 1 awL).2.2 = kns at hsp hlen htwo
  generalize (playR 3 1 awL).2.1 = evs at hsp
  obtain ⟨A1, A2, c1, c2, R, K, rfl, h1, h2, h3, h4⟩ := hsp
  have hK3 : K.length = 3 := by
    have := congrArg List.length hlen
    rw [← h4] at this
    simpa using this
  have hK2 : (kns.getD 2 []) = (K[2]'(by omega)).l := by rw [← h4]; simp [List.getD_eq_getElem?_getD, hK3]
  rw [hK2] at htwo
  have hl2 : (K[2]'(by omega)).l.length = 2 := by have := congrArg List.length htwo; simpa using this
  have hh0 : ((K[2]'(by omega)).l[0]'(by omega)).h = 6 ∧ ((K[2]'(by omega)).l[0]'(by omega)).d.proc = 1 := by
    have : ((K[2]'(by omega)).l.map (fun k => (k.h, k.d.proc)))[0]? = some (6, 1) := by rw [htwo]; rfl
    rw [List.getElem?_map, List.getElem?_eq_getElem (by omega)] at this
    injection this with this
    injection this with a b
    exact ⟨a, b⟩
  have hE2 : Ext w1 (w1.alloc (.cells #[.slice A1 R.length c1, .slice A2 K.length c2] 50)) := (Ext.refl w1).allocs _
  have h2e := h2.ext hE2
  obtain ⟨b, off, rfl, hcell⟩ := h2e.at_ (q := 2) (by omega)
  have hrow := (h2e.row (q := 2) (by omega)).1
  have hrow' : KnSeg _ (K[2]'(by omega)).A (K[2]'(by omega)).l := hrow
  obtain ⟨b', off', hA', p0, -, -, -, -, -, -, -, -, p9⟩ := Kn.at_ hrow' (j := 0) (by omega)
  rw [hA', hl2] at hcell
  obtain ⟨cc, hcc⟩ : ∃ cc, (K[2]'(by omega)).c = cc := ⟨_, rfl⟩
  rw [hcc] at hcell
  generalize K[2].l[0] = k20 at p0 p9 hh0
  rw [hK3] at hcell p0 p9
  rw [hh0.1] at p9
  rw [hh0.2] at p0
  rw [hK3]
  simp only [Nat.zero_mul, Nat.add_zero] at p0 p9
  have HX := Lib.hid hX
  clear hK2 htwo hl2 hh0 hrow hrow' hA' h1 h2 h3 h4 h2e hcc hlen hK3 hE2 hX
  go_wp2_with fail
  refine (HCT.out _).mono ?_
  rintro e w2 ⟨rfl, rfl⟩
  go_wp2_with fail
  go_ret
  exact ⟨rfl, HX.out.allocs _⟩
end Go.Proofs.Ytfnnoncdocghjaa
