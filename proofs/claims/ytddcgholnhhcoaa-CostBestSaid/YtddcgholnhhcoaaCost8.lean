/- Chapter 38: the sanity check. No statement of the seat is proved here. -/
import Derived.Test.YtddcgholnhhcoaaCost7
namespace Go.Proofs.Ytddcgholnhhcoaa
open Go.RowKit Go.Maps
set_option linter.unusedVariables false

set_option maxHeartbeats 1600000 in
theorem sameInts (A B : Option Addr) (ca cb : Nat) (l : List Int) (w : World) (ha : IntSeg w A l) (hb : IntSeg w B l) (hn : l.length ≤ 1000) :
    Calls Try.prog 25 #[.slice A l.length ca, .slice B l.length cb] w (StillPost w (.bool true)) := by
  go_enter Try.func25, Try.ntmps25
  go_wp2_with fail
  go_loopg [5] l.length (fun g i wr => StillRel w l.length g i wr)
  case atStart => exact ⟨0, 0, Nat.zero_le _, rfl, rfl, rfl⟩
  case round =>
    obtain ⟨j, q, hj, rfl, rfl, rfl⟩ := hrel
    by_cases hlt : j < l.length
    · obtain ⟨b, off, rfl, p0⟩ := Iv.at_ ha hlt
      obtain ⟨b', off', rfl, r0⟩ := Iv.at_ hb hlt
      generalize l[j] = x0 at *
      clear ha hb
      go_wp2_with fail
      go_quiet (fail)
      go_wp2_with fail
      go_roundg (l.length - (j + 1))
      case measure => omega
      case rel => exact ⟨j + 1, _, by omega, by go_num, rfl, rfl⟩
    · go_wp2_with fail
      go_ret
      exact ⟨rfl, _, rfl⟩

theorem Seg.of_blk {w : World} {g n s : Nat} {t : TypeId} {cs : Array Value} {xs : List Value} (h : Blk w g t cs) (hx : cs.toList = xs) (hn : xs.length = n * s) : Seg w s (some ⟨g, 0, none⟩) n xs := by
  refine ⟨hn, fun _ => ⟨g, 0, rfl, h.lt, fun j u hu => ?_⟩⟩
  rw [Nat.zero_add, h.cell, ← hu, ← hx]
  simp
def t3 : List Tk := [⟨4, 1⟩, ⟨4, 1⟩, ⟨4, 1⟩]
theorem t3_len : lenOut t3 t3.length = [5, 9, 13, 12, 5, 9, 8, 5, 4] := by decide +kernel
theorem t3_4 : divideV t3 4 = none := by decide +kernel
theorem t3_5 : divideV t3 5 = some [0, 1] := by decide +kernel
theorem t3_8 : divideV t3 8 = some [0] := by decide +kernel
theorem t3_9 : divideV t3 9 = some [0] := by decide +kernel
theorem t3_12 : divideV t3 12 = some [] := by decide +kernel
theorem t3_13 : divideV t3 13 = some [] := by decide +kernel
theorem t3_b0 : Beats t3 1 0 [0, 1] [0] := by unfold Beats; decide +kernel
theorem t3_b1 : Beats t3 1 0 [0, 1] [] := by unfold Beats; decide +kernel
theorem t3_wv : wv t3 1 0 [0, 1] = 19 := by decide +kernel
theorem t3_ref : refuseV t3 1 0 = 0 := by decide +kernel
theorem t3_best {P : List Int} (h : IsBest t3 1 0 P) : P = [0, 1] := by
  obtain ⟨h1, _, h3⟩ := h
  have hb := h3 5 (by rw [t3_len]; simp) [0, 1] t3_5
  rcases h1 with rfl | ⟨k, hk, hd⟩
  · exact absurd t3_b1 hb
  · rw [t3_len] at hk
    simp only [List.mem_cons, List.not_mem_nil, or_false] at hk
    have hk' : k = 4 ∨ k = 5 ∨ k = 8 ∨ k = 9 ∨ k = 12 ∨ k = 13 := by omega
    rcases hk' with rfl | rfl | rfl | rfl | rfl | rfl
    · rw [t3_4] at hd; cases hd
    · rw [t3_5] at hd; injection hd with hd; exact hd.symm
    · rw [t3_8] at hd; injection hd with hd; subst hd; exact absurd t3_b0 hb
    · rw [t3_9] at hd; injection hd with hd; subst hd; exact absurd t3_b0 hb
    · rw [t3_12] at hd; injection hd with hd; subst hd; exact absurd t3_b1 hb
    · rw [t3_13] at hd; injection hd with hd; subst hd; exact absurd t3_b1 hb
theorem ov_ex : ovV 2 16 8 = (⟨1, 2⟩, 0) := by
  rw [ov_good (by decide)]
  have : Int.gcd (2 * 2 * 16 + 8 * 8) (2 * 16 * 8) = 128 := by decide +kernel
  unfold lowV
  rw [this]
  rfl
theorem iv_ex : ivV (2 * clampC 2 * clampC 16) = 8 := by
  have e : 2 * clampC 2 * clampC 16 = 64 := by decide +kernel
  rw [e]
  refine ivV_eq ⟨by omega, by omega, fun s h1 h2 => ?_⟩ (by omega)
  have : s * (s + 1) ≤ 7 * 8 := Int.mul_le_mul (by omega) (by omega) (by omega) (by omega)
  omega

set_option maxRecDepth 100000 in
set_option maxHeartbeats 1600000 in
theorem awake_any (w : World) : Calls Try.prog 13 #[] w fun e w' => e = .returned (.bool true) ∧ Ext w w' := by
  have HO := Lib.hid (overhead_any 2 16 8 w)
  unfold OvPost at HO
  rw [ov_ex] at HO
  have heq : ∀ w, (binOp .eql 27 (.agg #[.int .i64 1, .int .i64 2]) (.agg #[.int .i64 1, .int .i64 2])).run Try.prog w = .ok (.bool true) w := fun _ => by kernel_rfl
  go_enter Try.func13, Try.ntmps13
  go_wp2_with fail
  refine HO.out.mono ?_
  rintro e w1 ⟨rfl, hE1⟩
  clear HO
  go_wp2_with fail
  have hB1 := Blk.new w1 27 #[.int .i64 1, .int .i64 2]
  have hX1 := hE1.allocs (.cells #[.int .i64 1, .int .i64 2] 27)
  have hB2 := Blk.newAt (w := w1.alloc (.cells #[.int .i64 1, .int .i64 2] 27)) (g := w1.heap.size + 1) (t := 46) (cs := #[.int .i64 4, .int .i64 1, .int .i64 4, .int .i64 1, .int .i64 4, .int .i64 1]) (by simp)
  have hX2 := hX1.allocs (.cells #[.int .i64 4, .int .i64 1, .int .i64 4, .int .i64 1, .int .i64 4, .int .i64 1] 46)
  have hB3 := hB1.allocs (.cells #[.int .i64 4, .int .i64 1, .int .i64 4, .int .i64 1, .int .i64 4, .int .i64 1] 46)
  refine (best_any (some ⟨w1.heap.size + 1, 0, none⟩) 3 t3 1 0 _ (Seg.of_blk hB2 rfl rfl) t3_ref (by decide) (by unfold maxLen; omega)).mono ?_
  rintro e w3 ⟨P, v, rfl, hown, hPl, hE3, hbest⟩
  obtain rfl := t3_best hbest
  rw [t3_wv]
  clear hbest hPl
  have hX3 := Ext.trans hX2 hE3
  have hB4 := hB3.ext hE3
  obtain ⟨A, c, rfl, hsl, hlc, hcm⟩ := own_slice hown
  clear hB1 hB2 hB3 hX1 hX2 hE1 hE3 hown
  go_wp2_with fail
  refine (interval_any 2 16 w3).mono ?_
  rintro e w4 ⟨rfl, hE4⟩
  rw [iv_ex]
  have hX4 := Ext.trans hX3 hE4
  have hB5 := hB4.ext hE4
  have c0 := hB5.cell 0
  have c1 := hB5.cell 1
  simp at c0 c1
  have hsl4 := hsl.ext hE4
  clear hX3 hE4 hB4 hB5 hsl
  go_wp2_with fail
  refine (sameInts A (some ⟨w4.heap.size, 0, none⟩) c 2 [0, 1] _ (hsl4.alloc _) (seg_two (Blk.new w4 3 _)) (by simp)).mono ?_
  rintro e w5 ⟨rfl, q, rfl⟩
  go_wp2_with fail
  go_ret
  exact ⟨rfl, (hX4.allocs _).drewN _⟩
end Go.Proofs.Ytddcgholnhhcoaa
