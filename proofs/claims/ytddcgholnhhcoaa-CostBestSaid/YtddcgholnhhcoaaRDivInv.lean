/- Chapter 38: the invariant of a region of the reference's divide. No statement of the seat is proved here. -/
import Derived.Test.YtddcgholnhhcoaaRDiv1
import Derived.Test.YtddcgholnhhcoaaRegInv
namespace Go.Proofs.Ytddcgholnhhcoaa
open Go.RowKit
set_option linter.unusedVariables false

def vec (x y : Nat → Value) : Array Value := #[x 0, x 1, x 2, x 3, x 4, x 5, x 6, x 7, x 8, x 9, x 10, x 11, x 12, x 13, x 14, x 15, x 16, x 17, x 18, x 19, x 20, x 21, x 22, x 23, x 24, x 25, x 26, x 27, x 28, x 29, x 30, x 31, x 32, x 33, x 34, x 35, x 36, x 37, x 38, x 39, x 40, x 41, x 42, x 43, x 44, x 45, x 46, x 47, x 48, x 49, x 50, x 51, x 52, x 53, x 54, x 55, x 56, x 57, x 58, x 59, x 60, x 61, x 62, x 63, x 64, x 65, x 66, x 67, x 68, x 69, x 70, x 71, x 72, y 73, y 74, y 75, y 76, y 77, y 78, y 79, y 80, y 81, y 82, y 83, y 84, y 85, y 86, y 87, y 88, y 89, y 90, y 91, y 92, y 93, y 94, y 95, y 96, y 97, y 98, y 99, y 100, y 101, y 102, x 103, x 104, x 105]
theorem act_fn {C : Code} {P : Program} {Q : Exit → Act → World → Prop} {t : Array Value} {w : World} (hsz : vec (fun k => t.getD k undef) (fun k => t.getD k undef) = t) (h : ∀ x : Nat → Value, (∀ k, x k = t.getD k undef) → C.wp P Q ⟨vec x x, []⟩ w) : C.wp P Q ⟨t, []⟩ w := by
  have := h (fun k => t.getD k undef) (fun _ => rfl)
  rwa [hsz] at this
def rval (n gT i j tb toff c : Nat) (tc : Int) (p R : RP) (v : Bool) (g : Nat) (A' : Option Addr) (c' : Nat) : Nat → Value
  | 0 => .slice (some ⟨gT, 0, none⟩) (n + 1) (n + 1)
  | 1 => .int .i64 (i : Int)
  | 2 => .slice (some ⟨gT, 0, none⟩) (n + 1) (n + 1)
  | 3 => .int .i64 (i : Int)
  | 4 => .pointer (some ⟨gT, i * 3, none⟩)
  | 5 => p.val
  | 6 => .slice (some ⟨tb, toff, none⟩) n c
  | 7 => .int .i64 (j : Int)
  | 8 => .pointer (some ⟨tb, toff + j * 2, none⟩)
  | 9 => .pointer (some ⟨tb, toff + j * 2 + 1, none⟩)
  | 10 => .int .i64 tc
  | 11 => .slice (some ⟨gT, 0, none⟩) (n + 1) (n + 1)
  | 12 => .int .i64 (j : Int)
  | 13 => .int .i64 ((j : Int) + 1)
  | 14 => .pointer (some ⟨gT, (j + 1) * 3, none⟩)
  | 15 => .pointer (some ⟨gT, (j + 1) * 3 + 1, none⟩)
  | 16 => .int .i64 R.cost
  | 17 => .int .i64 (tc + R.cost)
  | 18 => .int .i64 (j : Int)
  | 19 => .slice (some ⟨g, 0, none⟩) 1 1
  | 20 => .slice (some ⟨gT, 0, none⟩) (n + 1) (n + 1)
  | 21 => .int .i64 (j : Int)
  | 22 => .int .i64 ((j : Int) + 1)
  | 23 => .pointer (some ⟨gT, (j + 1) * 3, none⟩)
  | 24 => .pointer (some ⟨gT, (j + 1) * 3 + 2, none⟩)
  | 25 => .slice R.A R.L.length R.c
  | 26 => .slice A' (R.L.length + 1) c'
  | 27 => .agg #[.bool true, .int .i64 (tc + R.cost), .slice A' (R.L.length + 1) c']
  | 28 => (if v then .agg #[.bool true, .int .i64 (tc + R.cost), .slice A' (R.L.length + 1) c'] else p.val)
  | 29 => .pointer (some ⟨gT, i * 3, none⟩)
  | _ => undef
def RI (W : World) (x : Nat → Value) (n gT i j tb toff c : Nat) (tc : Int) (p R : RP) (v : Bool) (m : Nat → Bool) (ac : Act) (wr : World) : Prop :=
  ∃ (y : Nat → Value) (g : Nat) (A' : Option Addr) (c' : Nat), ac = ⟨vec x y, []⟩ ∧ (∀ k, k ≤ 29 → m k = true → y (73 + k) = rval n gT i j tb toff c tc p R v g A' c' k) ∧ (m 30 = true → ∀ k, k ≤ 29 → m k = true) ∧ (m 27 = true → m 26 = true) ∧ (m 28 = true → m 27 = true) ∧
    (m 30 = false → Ext W wr ∧ (m 19 = true → W.heap.size ≤ g ∧ (m 26 = false → Blk wr g 3 #[.int .i64 (j : Int)])) ∧ (m 26 = true → IntSeg wr A' ((j : Int) :: R.L) ∧ ∀ ad, A' = some ad → W.heap.size ≤ ad.block)) ∧
    (m 30 = true → ∃ w7, Ext W w7 ∧ IntSeg w7 A' ((j : Int) :: R.L) ∧ (∀ ad, A' = some ad → W.heap.size ≤ ad.block) ∧ wr = w7.setCells gT (i * 3) (if v then [.bool true, .int .i64 (tc + R.cost), .slice A' (R.L.length + 1) c'] else p.cells))
theorem upd_ne {m : Nat → Bool} {k k0 : Nat} (h : k ≠ k0) : upd m k0 k = m k := by unfold upd; rw [if_neg h]
theorem upd_self {m : Nat → Bool} {k0 : Nat} : upd m k0 k0 = true := by unfold upd; rw [if_pos rfl]
theorem vec_put {x y : Nat → Value} {a b : Array Value} (h : a = b) : (⟨a, []⟩ : Act) = ⟨b, []⟩ := by rw [h]
/-- an operation that only reads -/
theorem RI.read {W : World} {x y : Nat → Value} {n gT i j tb toff c : Nat} {tc : Int} {p R : RP} {v : Bool} {m : Nat → Bool} {wr : World} {g : Nat} {A' : Option Addr} {c' : Nat} {t : Array Value} (k0 : Nat) (hk : k0 ≤ 29) (h19 : k0 ≠ 19) (h26 : k0 ≠ 26) (hl : m k0 = false)
    (hy : ∀ k, k ≤ 29 → m k = true → y (73 + k) = rval n gT i j tb toff c tc p R v g A' c' k) (h30 : m 30 = true → ∀ k, k ≤ 29 → m k = true) (h27 : m 27 = true → m 26 = true) (h28 : m 28 = true → m 27 = true)
    (hpre : m 30 = false → Ext W wr ∧ (m 19 = true → W.heap.size ≤ g ∧ (m 26 = false → Blk wr g 3 #[.int .i64 (j : Int)])) ∧ (m 26 = true → IntSeg wr A' ((j : Int) :: R.L) ∧ ∀ ad, A' = some ad → W.heap.size ≤ ad.block))
    {wr' : World} (hE : Ext wr wr') (e27 : k0 = 27 → m 26 = true) (e28 : k0 = 28 → m 27 = true) (ht : t = vec x (fun s => if s = 73 + k0 then rval n gT i j tb toff c tc p R v g A' c' k0 else y s)) : RI W x n gT i j tb toff c tc p R v (upd m k0) ⟨t, []⟩ wr' := by
  have hm : m 30 = false := by
    rcases h : m 30 with _ | _
    · rfl
    · rw [h30 h k0 hk] at hl; cases hl
  have q19 : upd m k0 19 = m 19 := upd_ne (by omega)
  have q26 : upd m k0 26 = m 26 := upd_ne (by omega)
  have q30 : upd m k0 30 = m 30 := upd_ne (by omega)
  refine ⟨_, g, A', c', vec_put (x := x) (y := y) ht, fun k h1 h2 => ?_, fun h => ?_, fun h => ?_, fun h => ?_, fun _ => ?_, fun h => ?_⟩
  · by_cases e : k = k0
    · subst e; simp
    · rw [upd_ne e] at h2
      rw [if_neg (by omega)]
      exact hy k h1 h2
  · rw [q30, hm] at h; cases h
  · rw [q26]
    by_cases e : k0 = 27
    · exact e27 e
    · rw [upd_ne (by omega)] at h; exact h27 h
  · by_cases e : k0 = 28
    · rw [upd_ne (by omega)]; exact e28 e
    · rw [upd_ne (by omega)] at h
      by_cases e2 : k0 = 27
      · subst e2; exact upd_self
      · rw [upd_ne (by omega)]; exact h28 h
  · rw [q19, q26]
    obtain ⟨a1, a2, a3⟩ := hpre hm
    exact ⟨Ext.trans a1 hE, fun h => ⟨(a2 h).1, fun h' => ((a2 h).2 h').ext hE⟩, fun h => ⟨(a3 h).1.ext hE, (a3 h).2⟩⟩
  · rw [q30, hm] at h; cases h
theorem RI.open30 {m : Nat → Bool} {k0 : Nat} (hk : k0 ≤ 29) (hl : m k0 = false) (h30 : m 30 = true → ∀ k, k ≤ 29 → m k = true) : m 30 = false := by
  rcases h : m 30 with _ | _
  · rfl
  · rw [h30 h k0 hk] at hl; cases hl
theorem RI.built {W : World} {x y : Nat → Value} {n gT i j tb toff c : Nat} {tc : Int} {p R : RP} {v : Bool} {m : Nat → Bool} {wr : World} {g : Nat} {A' : Option Addr} {c' : Nat} {t : Array Value} {g' : Nat} (hl : m 19 = false)
    (hy : ∀ k, k ≤ 29 → m k = true → y (73 + k) = rval n gT i j tb toff c tc p R v g A' c' k) (h30 : m 30 = true → ∀ k, k ≤ 29 → m k = true) (h27 : m 27 = true → m 26 = true) (h28 : m 28 = true → m 27 = true)
    (hpre : m 30 = false → Ext W wr ∧ (m 19 = true → W.heap.size ≤ g ∧ (m 26 = false → Blk wr g 3 #[.int .i64 (j : Int)])) ∧ (m 26 = true → IntSeg wr A' ((j : Int) :: R.L) ∧ ∀ ad, A' = some ad → W.heap.size ≤ ad.block))
    {wr' : World} (hE : Ext wr wr') (hg : wr.heap.size = g') (hb : Blk wr' g' 3 #[.int .i64 (j : Int)]) (ht : t = vec x (fun s => if s = 92 then .slice (some ⟨g', 0, none⟩) 1 1 else y s)) : RI W x n gT i j tb toff c tc p R v (upd m 19) ⟨t, []⟩ wr' := by
  have hm := RI.open30 (by omega) hl h30
  obtain ⟨a1, a2, a3⟩ := hpre hm
  have q30 : upd m 19 30 = m 30 := upd_ne (by omega)
  have q26 : upd m 19 26 = m 26 := upd_ne (by omega)
  refine ⟨_, g', A', c', vec_put (x := x) (y := y) ht, fun k h1 h2 => ?_, fun h => ?_, fun h => ?_, fun h => ?_, fun _ => ?_, fun h => ?_⟩
  · by_cases e : k = 19
    · subst e; rfl
    · rw [upd_ne e] at h2
      rw [if_neg (by omega), hy k h1 h2]
      unfold rval
      split <;> first | rfl | omega
  · rw [q30, hm] at h; cases h
  · rw [upd_ne (by omega)] at h ⊢; exact h27 h
  · rw [upd_ne (by omega)] at h ⊢; exact h28 h
  · rw [q26]
    exact ⟨Ext.trans a1 hE, fun _ => ⟨by have := a1.size; omega, fun _ => hb⟩, fun h => ⟨(a3 h).1.ext hE, (a3 h).2⟩⟩
  · rw [q30, hm] at h; cases h
theorem RI.appended {W : World} {x y : Nat → Value} {n gT i j tb toff c : Nat} {tc : Int} {p R : RP} {v : Bool} {m : Nat → Bool} {wr : World} {g : Nat} {A' : Option Addr} {c' : Nat} {t : Array Value} (hl : m 26 = false) (h19 : m 19 = true)
    (hy : ∀ k, k ≤ 29 → m k = true → y (73 + k) = rval n gT i j tb toff c tc p R v g A' c' k) (h30 : m 30 = true → ∀ k, k ≤ 29 → m k = true) (h27 : m 27 = true → m 26 = true) (h28 : m 28 = true → m 27 = true)
    (hpre : m 30 = false → Ext W wr ∧ (m 19 = true → W.heap.size ≤ g ∧ (m 26 = false → Blk wr g 3 #[.int .i64 (j : Int)])) ∧ (m 26 = true → IntSeg wr A' ((j : Int) :: R.L) ∧ ∀ ad, A' = some ad → W.heap.size ≤ ad.block))
    {wr' : World} {A2 : Option Addr} {c2 : Nat} (q1 : IntSeg wr' A2 ((j : Int) :: R.L)) (q2 : ∀ ad, A2 = some ad → W.heap.size ≤ ad.block) (q3 : Ext W wr') (ht : t = vec x (fun s => if s = 99 then .slice A2 (R.L.length + 1) c2 else y s)) : RI W x n gT i j tb toff c tc p R v (upd m 26) ⟨t, []⟩ wr' := by
  have hm := RI.open30 (by omega) hl h30
  obtain ⟨a1, a2, a3⟩ := hpre hm
  have q30 : upd m 26 30 = m 30 := upd_ne (by omega)
  have m27 : m 27 = false := by
    rcases h : m 27 with _ | _
    · rfl
    · rw [h27 h] at hl; cases hl
  have m28 : m 28 = false := by
    rcases h : m 28 with _ | _
    · rfl
    · rw [h28 h] at m27; cases m27
  refine ⟨_, g, A2, c2, vec_put (x := x) (y := y) ht, fun k h1 h2 => ?_, fun h => ?_, fun h => ?_, fun h => ?_, fun _ => ?_, fun h => ?_⟩
  · by_cases e : k = 26
    · subst e; rfl
    · rw [upd_ne e] at h2
      have n27 : k ≠ 27 := fun h => by rw [h, m27] at h2; cases h2
      have n28 : k ≠ 28 := fun h => by rw [h, m28] at h2; cases h2
      rw [if_neg (by omega), hy k h1 h2]
      unfold rval
      split <;> first | rfl | omega
  · rw [q30, hm] at h; cases h
  · exact upd_self
  · rw [upd_ne (by omega), m28] at h; cases h
  · refine ⟨q3, fun _ => ⟨(a2 h19).1, fun h => ?_⟩, fun _ => ⟨q1, q2⟩⟩
    rw [upd_self] at h; cases h
  · rw [q30, hm] at h; cases h
theorem RI.stored {W : World} {x y : Nat → Value} {n gT i j tb toff c : Nat} {tc : Int} {p R : RP} {v : Bool} {m : Nat → Bool} {wr : World} {g : Nat} {A' : Option Addr} {c' : Nat} {t : Array Value} (hl : m 30 = false) (hall : ∀ k, k ≤ 29 → m k = true)
    (hy : ∀ k, k ≤ 29 → m k = true → y (73 + k) = rval n gT i j tb toff c tc p R v g A' c' k) (h30 : m 30 = true → ∀ k, k ≤ 29 → m k = true) (h27 : m 27 = true → m 26 = true) (h28 : m 28 = true → m 27 = true)
    (hpre : m 30 = false → Ext W wr ∧ (m 19 = true → W.heap.size ≤ g ∧ (m 26 = false → Blk wr g 3 #[.int .i64 (j : Int)])) ∧ (m 26 = true → IntSeg wr A' ((j : Int) :: R.L) ∧ ∀ ad, A' = some ad → W.heap.size ≤ ad.block))
    {wr' : World} (hw : wr' = wr.setCells gT (i * 3) (if v then [.bool true, .int .i64 (tc + R.cost), .slice A' (R.L.length + 1) c'] else p.cells)) (ht : t = vec x y) : RI W x n gT i j tb toff c tc p R v (upd m 30) ⟨t, []⟩ wr' := by
  obtain ⟨a1, a2, a3⟩ := hpre hl
  obtain ⟨b1, b2⟩ := a3 (hall 26 (by omega))
  refine ⟨y, g, A', c', vec_put (x := x) (y := y) ht, fun k h1 h2 => hy k h1 (hall k h1), fun _ k hk => ?_, fun _ => ?_, fun _ => ?_, fun h => ?_, fun _ => ⟨wr, a1, b1, b2, hw⟩⟩
  · rw [upd_ne (by omega)]; exact hall k hk
  · rw [upd_ne (by omega)]; exact hall 26 (by omega)
  · rw [upd_ne (by omega)]; exact hall 27 (by omega)
  · rw [upd_self] at h; cases h
end Go.Proofs.Ytddcgholnhhcoaa
