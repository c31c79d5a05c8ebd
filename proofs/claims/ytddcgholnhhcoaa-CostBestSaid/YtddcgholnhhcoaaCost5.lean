/- Chapter 38: divide. No statement of the seat is proved here. -/
import Derived.Test.YtddcgholnhhcoaaCost4
import Derived.Test.YtddcgholnhhcoaaTab
namespace Go.Proofs.Ytddcgholnhhcoaa
open Go.RowKit
set_option linter.unusedVariables false

def DivPost (ts : List Tk) (most : Int) (w : World) (e : Ending) (w' : World) : Prop :=
  (∃ L v, divideV ts most = some L ∧ e = .returned (.tuple #[v, .bool true]) ∧ w'.ownsRow w.heap.size 3 1 v L.length (L.flatMap Iv) ∧ Ext w w') ∨
  (divideV ts most = none ∧ e = .returned (.tuple #[.slice none 0 0, .bool false]) ∧ Ext w w')
abbrev TabB (w : World) (g : Nat) (T : List Pl) : Prop := Blk w g 83 (T.flatMap Pl.cells).toArray
theorem infoPl : (Try.prog.info? 83).map (fun i => (i.zero, i.size, i.bytes)) = some (some (.agg #[.bool false, .int .i64 0, .int .i64 0, .int .i64 0]), 4, 32) := by kernel_rfl
theorem mk_tab (n : Nat) (hn : n ≤ 1000) (w : World) : (Instr.makeSlice 81 (.int .i64 ((n : Int) + 1)) (.int .i64 ((n : Int) + 1))).run Try.prog w =
    .ok (.slice (some ⟨w.heap.size, 0, none⟩) (n + 1) (n + 1)) (w.alloc (.cells ((List.replicate (n + 1) Pl.zero).flatMap Pl.cells).toArray 83)) := by
  obtain ⟨i0, hi, hz0, hz1, hz2⟩ := info_parts infoPl
  rw [run_make w 81 83 i0 _ Try.underlying81 hi hz0 .i64 .i64 _ _ (by omega) (Int.le_refl _) (by rw [hz2]; omega) (by omega)]
  rw [hz1, show ((n : Int) + 1).toNat = n + 1 by omega, made_flat Pl.cells 4 (by omega) Pl.len Pl.zero (Value.agg #[.bool false, .int .i64 0, .int .i64 0, .int .i64 0]).cells rfl]
theorem tab_at {w : World} {g : Nat} {T : List Pl} (h : TabB w g T) {x : Nat} (hx : x < T.length) :
    w.cell? ⟨g, x * 4, none⟩ = some (.bool (T.getD x Pl.zero).poss) ∧ w.cell? ⟨g, x * 4 + 1, none⟩ = some (.int .i64 (T.getD x Pl.zero).cost) ∧ w.cell? ⟨g, x * 4 + 2, none⟩ = some (.int .i64 (T.getD x Pl.zero).number) ∧ w.cell? ⟨g, x * 4 + 3, none⟩ = some (.int .i64 (T.getD x Pl.zero).first) := by
  have hx' : T[x]? = some (T.getD x Pl.zero) := by rw [getD_at T x _ hx, List.getElem?_eq_getElem hx]
  exact ⟨h.tabAt Pl.len hx' (j := 0) (by omega) rfl, h.tabAt Pl.len hx' (j := 1) (by omega) rfl, h.tabAt Pl.len hx' (j := 2) (by omega) rfl, h.tabAt Pl.len hx' (j := 3) (by omega) rfl⟩

theorem cell_drew {w : World} {a : Addr} {v : Option Value} (h : w.cell? a = v) : w.drew.cell? a = v := h
def OutRel (w : World) (ts : List Tk) (most : Int) (gT : Nat) (g : Nat) (i : Value) (wr : World) : Prop :=
  ∃ k : Nat, k ≤ ts.length ∧ i = .int .i64 ((ts.length : Int) - k - 1) ∧ g = ts.length - k ∧ Ext w wr ∧ TabB wr gT (tabV ts most k)
def InRel (w : World) (ts : List Tk) (most : Int) (T : List Pl) (gT gB i : Nat) (g : Nat) (wk jv : Value) (wr : World) : Prop :=
  ∃ d : Nat, i + d ≤ ts.length ∧ jv = .int .i64 ((i + d : Nat) : Int) ∧ wk = .int .i64 (inn ts most T i d).1 ∧ g = ts.length - (i + d) ∧ Ext w wr ∧ TabB wr gT T ∧ Blk wr gB 83 (inn ts most T i d).2.cells.toArray

theorem Blk.grownRow {w w' : World} {g : Nat} {t : TypeId} {cs : Array Value} {row : Option Nat} (h : Blk w g t cs) (hg : w.grownBy w' row) (hne : row ≠ some g) : Blk w' g t cs := (hg.block g h.lt (fun e => hne e.symm)).trans h
theorem own_far {w : World} {base g : Nat} {e : TypeId} {s n : Nat} {v : Value} {xs : List Value} (h : w.ownsRow base e s v n xs) (hg : g < base) : v.ownBlock ≠ some g := fun hv => by
  have := (h.lt g hv).1
  omega
def FolRel (w : World) (n gT : Nat) (T : List Pl) (g : Nat) (v i : Value) (wr : World) : Prop :=
  ∃ (x : Nat) (L : List Int), x ≤ n ∧ i = .int .i64 x ∧ g = n - x ∧ (T.getD x Pl.zero).poss = true ∧ L ++ follow T (n + 1 - x) x = follow T (n + 1) 0 ∧ L.length ≤ x ∧ Ext w wr ∧ TabB wr gT T ∧ wr.ownsRow (gT + 1) 3 1 v L.length (L.flatMap Iv)

set_option maxRecDepth 100000 in
set_option maxHeartbeats 3200000 in
theorem divide_any (A : Option Addr) (c : Nat) (ts : List Tk) (most : Int) (w : World) (hs : TkSeg w A ts) (hn : ts.length ≤ 64) (hf : AllFine ts) :
    Calls Try.prog 42 #[.slice A ts.length c, .int .i64 most] w (DivPost ts most w) := by
  have hn64 : (ts.length : Int) ≤ 64 := by omega
  have hmk := mk_tab ts.length (by omega) w
  have HF := Lib.hid hf
  clear hf
  have hB0 : TabB (w.alloc (.cells ((List.replicate (ts.length + 1) Pl.zero).flatMap Pl.cells).toArray 83)) w.heap.size (List.replicate (ts.length + 1) Pl.zero) := Blk.new w _ _
  have hX0 := (Ext.refl w).allocs (.cells ((List.replicate (ts.length + 1) Pl.zero).flatMap Pl.cells).toArray 83)
  obtain ⟨W0, hW0⟩ : ∃ W0, w.alloc (.cells ((List.replicate (ts.length + 1) Pl.zero).flatMap Pl.cells).toArray 83) = W0 := ⟨_, rfl⟩
  rw [hW0] at hmk hB0 hX0
  clear hW0
  obtain ⟨gT, hgT⟩ : ∃ gT, w.heap.size = gT := ⟨_, rfl⟩
  rw [hgT] at hmk hB0
  have hgw : w.heap.size ≤ gT := by omega
  clear hgT
  have HB1 : Hid (TabB (W0.setCells gT (ts.length * 4) Pl.last.cells) gT (tabV ts most 0)) := Blk.setAt hB0 (by omega) Pl.len (by simp) Pl.last
  have HX1 : Hid (Ext w (W0.setCells gT (ts.length * 4) Pl.last.cells)) := Ext.setCells hgw _ _ _ hX0
  obtain ⟨c0, c1, c2, c3⟩ := tab_at hB0 (x := ts.length) (by simp)
  have f0 := hB0.frozen (ts.length * 4)
  have f1 := hB0.frozen (ts.length * 4 + 1)
  have f2 := hB0.frozen (ts.length * 4 + 2)
  have f3 := hB0.frozen (ts.length * 4 + 3)
  generalize (List.replicate (ts.length + 1) Pl.zero).getD ts.length Pl.zero = z at c0 c1 c2 c3
  clear hB0 hX0
  go_enter Try.func42, Try.ntmps42
  go_wp2_with fail
  go_loopg [8] ts.length (fun g i wr => OutRel w ts most gT g i wr)
  case atStart => exact ⟨0, Nat.zero_le _, by go_num, rfl, HX1.out, HB1.out⟩
  case round =>
    clear hmk c0 c1 c2 c3 f0 f1 f2 f3 HB1 HX1
    obtain ⟨k, hk, rfl, rfl, hE, hT⟩ := hrel
    have HG := Lib.hid (tabV_good ts most HF.out k hk)
    have hTl := tabV_len ts most k
    by_cases hlt : k < ts.length
    · have HROW : Hid (tabV ts most (k + 1) = (tabV ts most k).set (ts.length - (k + 1)) (rowV ts most (tabV ts most k) (ts.length - (k + 1)))) := rfl
      obtain ⟨i, hi⟩ : ∃ i, ts.length - (k + 1) = i := ⟨_, rfl⟩
      have hil : i < ts.length := by omega
      rw [hi] at HROW
      rw [show ts.length - k = i + 1 by omega] at HG
      rw [show ((ts.length : Int) - (k : Int) - 1) = (i : Int) by omega]
      generalize tabV ts most k = T at *
      have hTl' : ts.length < T.length := by omega
      have HTL := Lib.hid hTl
      have HI := Lib.hid hi
      clear hTl hi
      go_wp2_with fail
      obtain ⟨gB, hgB⟩ : ∃ gB, wr.heap.size = gB := ⟨_, rfl⟩
      have hBz := Blk.newAt (w := wr) (t := 83) (cs := #[.bool false, .int .i64 0, .int .i64 0, .int .i64 0]) hgB
      have hTz := hT.allocs (.cells #[.bool false, .int .i64 0, .int .i64 0, .int .i64 0] 83)
      have hEz := hE.allocs (.cells #[.bool false, .int .i64 0, .int .i64 0, .int .i64 0] 83)
      have hTB : gT < gB := by rw [← hgB]; exact hT.lt
      rw [hgB]
      obtain ⟨W1, hW1⟩ : ∃ W1, wr.alloc (.cells #[.bool false, .int .i64 0, .int .i64 0, .int .i64 0] 83) = W1 := ⟨_, rfl⟩
      rw [hW1] at hBz hTz hEz ⊢
      clear hW1 hE hT hgB
      go_loopg [10, 11] (ts.length - i) (fun g wk jv wr => InRel w ts most T gT gB i g wk jv wr)
      case atStart => exact ⟨0, by omega, rfl, rfl, rfl, hEz, hTz, hBz⟩
      case round =>
        clear hEz hTz hBz
        obtain ⟨d, hd, rfl, rfl, rfl, hE, hT, hB⟩ := hrel
        have hgd := inn_good ts most T i HF.out hil HG.out d hd
        by_cases hjl : i + d < ts.length
        · have HSTEP : Hid (inn ts most T i (d + 1) = innStep ts most T (i + d) (inn ts most T i d)) := rfl
          obtain ⟨j, hj⟩ : ∃ j, i + d = j := ⟨_, rfl⟩
          rw [hj] at HSTEP hjl ⊢
          have hij : i ≤ j := by omega
          have hdj : d ≤ j := by omega
          have HJ := Lib.hid hj
          clear hj hd
          have ht := HF.out j hjl
          have hR := HG.out (j + 1) (by omega) (by omega)
          obtain ⟨tb, toff, rfl, p0, p1⟩ := Tk.at_ (hs.ext hE) hjl
          rw [← getD_at ts j noTk hjl] at p0 p1
          obtain ⟨r0, r1, r2, r3⟩ := tab_at hT (x := j + 1) (by omega)
          unfold innStep at HSTEP
          simp only at HSTEP
          generalize inn ts most T i d = s at *
          generalize ts.getD j noTk = t at *
          generalize T.getD (j + 1) Pl.zero = R at *
          obtain ⟨R0, R1, R2, R3⟩ := R
          simp only [GoodPl] at hR hgd
          obtain ⟨⟨q1, q2⟩, ⟨q3, q4⟩, _⟩ := hR
          obtain ⟨⟨g1, g2⟩, _⟩ := hgd
          simp only at r0 r1 r2 r3 HSTEP q1 q2 q3 q4
          have hs1 : s.1 ≤ 67108864 := by omega
          have hq2 : R1 ≤ 67108864 := by omega
          have hq4 : R2 ≤ 64 := by omega
          clear q2 q4 g2
          obtain ⟨t1, t2⟩ := ht
          rcases R0 with _ | _
          · have HV : Hid (inn ts most T i (d + 1) = (s.1 + t.work, s.2)) := by rw [HSTEP.out]; exact if_pos (.inl rfl)
            clear HSTEP
            go_wp2_with fail
            go_roundg (ts.length - (j + 1))
            case measure => (have := HJ.out); omega
            case rel => exact ⟨d + 1, by have := HJ.out; omega, by rw [← HJ.out]; go_num, by rw [HV.out], by rw [← HJ.out]; rfl, hE.allocs _, hT.allocs _, by rw [HV.out]; exact hB.allocs _⟩
          have p1a := cell_alloc_one (.cells #[.bool true, .int .i64 R1, .int .i64 R2, .int .i64 R3] 83) p1
          by_cases hmost : most < s.1 + t.work + t.cost
          · have HV : Hid (inn ts most T i (d + 1) = (s.1 + t.work, s.2)) := by rw [HSTEP.out]; exact if_pos (.inr hmost)
            clear HSTEP
            go_wp2_with fail
            go_roundg (ts.length - (j + 1))
            case measure => (have := HJ.out); omega
            case rel => exact ⟨d + 1, by have := HJ.out; omega, by rw [← HJ.out]; go_num, by rw [HV.out], by rw [← HJ.out]; rfl, hE.allocs _, hT.allocs _, by rw [HV.out]; exact hB.allocs _⟩
          · have HV : Hid (inn ts most T i (d + 1) = (s.1 + t.work, if (⟨true, t.cost + R1, 1 + R2, j⟩ : Pl).lt s.2 then ⟨true, t.cost + R1, 1 + R2, j⟩ else s.2)) := by rw [HSTEP.out]; exact if_neg (by simp [hmost])
            clear HSTEP
            go_upto_region 15 with fail
            obtain ⟨gR, hgR⟩ : ∃ gR, wr.heap.size = gR := ⟨_, rfl⟩
            have hBR := Blk.newAt (w := wr) (t := 83) (cs := #[.bool true, .int .i64 R1, .int .i64 R2, .int .i64 R3]) hgR
            have hT2 := hT.allocs (.cells #[.bool true, .int .i64 R1, .int .i64 R2, .int .i64 R3] 83)
            have hB2 := hB.allocs (.cells #[.bool true, .int .i64 R1, .int .i64 R2, .int .i64 R3] 83)
            have hE2 := hE.allocs (.cells #[.bool true, .int .i64 R1, .int .i64 R2, .int .i64 R3] 83)
            rw [hgR]
            obtain ⟨W2, hW2⟩ : ∃ W2, wr.alloc (.cells #[.bool true, .int .i64 R1, .int .i64 R2, .int .i64 R3] 83) = W2 := ⟨_, rfl⟩
            rw [hW2] at p1a hBR hT2 hB2 hE2 ⊢
            clear hW2 hgR hE hT hB p0 p1 r0 r1 r2 r3
            obtain ⟨_, k1, k2, _⟩ := blk4 (p := ⟨true, R1, R2, R3⟩) hBR
            have w1 : IntKind.i64.wrap (t.cost + R1) = t.cost + R1 := IntWalk.i64_in _ (by omega)
            have w2 : IntKind.i64.wrap (1 + R2) = 1 + R2 := IntWalk.i64_in _ (by omega)
            have hj0 : (0 : Int) ≤ (j : Int) := by omega
            have hj1 : (j : Int) < (ts.length : Int) := by omega
            go_region_held3 (fun w' => w'.cell? ⟨tb, toff + j * 2 + 1, none⟩ = some (.int .i64 t.cost) ∧ w'.cell? ⟨gR, 1, none⟩ = some (.int .i64 R1) ∧ w'.cell? ⟨gR, 2, none⟩ = some (.int .i64 R2))
              (first | (refine ⟨?_, ?_, ?_⟩ <;> (repeat (first | with_reducible exact p1a | with_reducible exact k1 | with_reducible exact k2 | with_reducible refine cell_alloc_one _ ?_ | with_reducible refine cell_drew ?_))))
              (fail)
            clear w1 w2 k1 k2 hBR p1a
            obtain ⟨gP, hgP⟩ : ∃ gP, W2.heap.size = gP := ⟨_, rfl⟩
            have hBP := (Blk.newAt (w := W2) (t := 83) (cs := #[.bool true, .int .i64 (t.cost + R1), .int .i64 (1 + R2), .int .i64 j]) hgP).drews
            have hT3 := (hT2.allocs (.cells #[.bool true, .int .i64 (t.cost + R1), .int .i64 (1 + R2), .int .i64 j] 83)).drews
            have hB3 := (hB2.allocs (.cells #[.bool true, .int .i64 (t.cost + R1), .int .i64 (1 + R2), .int .i64 j] 83)).drews
            have hE3 := Below.drew (hE2.allocs (.cells #[.bool true, .int .i64 (t.cost + R1), .int .i64 (1 + R2), .int .i64 j] 83))
            have hBPne : gB ≠ gP := by have := hB2.lt; omega
            rw [hgP]
            obtain ⟨W3, hW3⟩ : ∃ W3, (W2.alloc (.cells #[.bool true, .int .i64 (t.cost + R1), .int .i64 (1 + R2), .int .i64 j] 83)).drew = W3 := ⟨_, rfl⟩
            rw [hW3] at hBP hT3 hB3 hE3 ⊢
            clear hW3 hgP hE2 hT2 hB2
            obtain ⟨s1, B0, B1, B2, B3⟩ := s
            have HC := Lib.hid (better_any ⟨true, t.cost + R1, 1 + R2, j⟩ ⟨B0, B1, B2, B3⟩)
            obtain ⟨x0, x1, x2, x3⟩ := blk4 (p := ⟨true, t.cost + R1, 1 + R2, j⟩) hBP
            obtain ⟨y0, y1, y2, y3⟩ := blk4 (p := ⟨B0, B1, B2, B3⟩) hB3
            simp only at HV HC x0 x1 x2 x3 y0 y1 y2 y3 hs1 g1 hmost ⊢
            generalize hb : (⟨true, t.cost + R1, 1 + R2, (j : Int)⟩ : Pl).lt ⟨B0, B1, B2, B3⟩ = bb at HV HC
            clear hb
            rcases bb with _ | _
            · have HV' : Hid (inn ts most T i (d + 1) = (s1 + t.work, ⟨B0, B1, B2, B3⟩)) := HV.out
              go_wp2_with fail
              refine (HC.out _).mono ?_
              rintro e w4 ⟨rfl, hE4⟩
              clear x0 x1 x2 x3 y0 y1 y2 y3
              go_wp2_with fail
              go_roundg (ts.length - (j + 1))
              case measure => (have := HJ.out); omega
              case rel => exact ⟨d + 1, by have := HJ.out; omega, by rw [← HJ.out]; go_num, by rw [HV'.out], by rw [← HJ.out]; rfl, Ext.trans hE3 hE4, hT3.ext hE4, by rw [HV'.out]; exact hB3.ext hE4⟩
            · have HV' : Hid (inn ts most T i (d + 1) = (s1 + t.work, ⟨true, t.cost + R1, 1 + R2, j⟩)) := HV.out
              go_wp2_with fail
              refine (HC.out _).mono ?_
              rintro e w4 ⟨rfl, hE4⟩
              clear x0 x1 x2 x3 y0 y1 y2 y3
              obtain ⟨x0, x1, x2, x3⟩ := blk4 (p := ⟨true, t.cost + R1, 1 + R2, j⟩) (hBP.ext hE4)
              have hB4 := hB3.ext hE4
              have hT4 := hT3.ext hE4
              have hE5 := Ext.trans hE3 hE4
              obtain ⟨y0, y1, y2, y3⟩ := blk4 (p := ⟨B0, B1, B2, B3⟩) hB4
              simp only at x0 x1 x2 x3 y0 y1 y2 y3
              have f0 := hB4.frozen 0
              have f1 := hB4.frozen 1
              have f2 := hB4.frozen 2
              have f3 := hB4.frozen 3
              clear hE4 hBP hB3 hT3 hE3
              go_wp2_with fail
              go_roundg (ts.length - (j + 1))
              case measure => (have := HJ.out); omega
              case rel => exact ⟨d + 1, by have := HJ.out; omega, by rw [← HJ.out]; go_num, by rw [HV'.out], by rw [← HJ.out]; rfl, Ext.setCells (by omega) [.bool true, .int .i64 (t.cost + R1), .int .i64 (1 + R2), .int .i64 j] 0 _ hE5, hT4.setOther 0 [.bool true, .int .i64 (t.cost + R1), .int .i64 (1 + R2), .int .i64 j] (by omega), by rw [HV'.out]; exact Blk.sets (w := w4) [.bool true, .int .i64 (t.cost + R1), .int .i64 (1 + R2), .int .i64 j] 0 _ _ hB4⟩
        · obtain rfl : d = ts.length - i := by omega
          have HR0 : Hid (rowV ts most T i = if (inn ts most T i (ts.length - i)).1 ≤ most ∧ Pl.last.lt (inn ts most T i (ts.length - i)).2 = true then Pl.last else (inn ts most T i (ts.length - i)).2) := rfl
          obtain ⟨g1, _⟩ := hgd
          generalize inn ts most T i (ts.length - i) = s at *
          obtain ⟨s1, B0, B1, B2, B3⟩ := s
          simp only at HR0 hB
          have HC := Lib.hid (better_any ⟨true, 0, 0, -1⟩ ⟨B0, B1, B2, B3⟩)
          obtain ⟨y0, y1, y2, y3⟩ := blk4 (p := ⟨B0, B1, B2, B3⟩) (hB.allocs (.cells #[.bool true, .int .i64 0, .int .i64 0, .int .i64 (-1)] 83))
          simp only at HC y0 y1 y2 y3
          have hne1 : ¬ gT = gB := by omega
          have hne2 : ¬ gB = gT := by omega
          have hnij : ¬ i + (ts.length - i) < ts.length := by omega
          by_cases hle : s1 ≤ most
          · rcases hb : Pl.last.lt ⟨B0, B1, B2, B3⟩ with _ | _
            · have HR : Hid (rowV ts most T i = ⟨B0, B1, B2, B3⟩) := by rw [HR0.out]; exact if_neg (fun h => by rw [hb] at h; cases h.2)
              rw [show (⟨true, 0, 0, -1⟩ : Pl).lt ⟨B0, B1, B2, B3⟩ = false from hb] at HC
              clear hb HR0
              go_wp2_with fail
              refine (HC.out _).mono ?_
              rintro e w4 ⟨rfl, hE4⟩
              clear y0 y1 y2 y3
              have hB4 := (hB.allocs _).ext hE4
              have hT4 := (hT.allocs _).ext hE4
              have hE5 := Ext.trans (hE.allocs _) hE4
              have hBP := (Blk.new wr 83 #[.bool true, .int .i64 0, .int .i64 0, .int .i64 (-1)]).ext hE4
              obtain ⟨x0, x1, x2, x3⟩ := blk4 (p := ⟨true, 0, 0, -1⟩) hBP
              have hPne : gB ≠ wr.heap.size := by have := hB.lt; omega
              obtain ⟨y0, y1, y2, y3⟩ := blk4 (p := ⟨B0, B1, B2, B3⟩) hB4
              obtain ⟨z0, z1, z2, z3⟩ := tab_at hT4 (x := i) (by omega)
              have f0 := hB4.frozen 0
              have f1 := hB4.frozen 1
              have f2 := hB4.frozen 2
              have f3 := hB4.frozen 3
              have e0 := hT4.frozen (i * 4)
              have e1 := hT4.frozen (i * 4 + 1)
              have e2 := hT4.frozen (i * 4 + 2)
              have e3 := hT4.frozen (i * 4 + 3)
              generalize T.getD i Pl.zero = Z at z0 z1 z2 z3
              clear hE4 hE hT hB
              simp only at *
              go_wp2_with fail
              go_roundg (ts.length - (k + 1))
              case measure => omega
              case rel => exact ⟨k + 1, by omega, by (have := HI.out); congr 1; push_cast; omega, rfl, Ext.setCells hgw [.bool B0, .int .i64 B1, .int .i64 B2, .int .i64 B3] (i * 4) _ hE5, by rw [HROW.out, HR.out]; exact Blk.setAt hT4 (by omega) Pl.len (by omega) ⟨B0, B1, B2, B3⟩⟩
            · have HR : Hid (rowV ts most T i = Pl.last) := by rw [HR0.out]; exact if_pos ⟨hle, hb⟩
              rw [show (⟨true, 0, 0, -1⟩ : Pl).lt ⟨B0, B1, B2, B3⟩ = true from hb] at HC
              clear hb HR0
              go_wp2_with fail
              refine (HC.out _).mono ?_
              rintro e w4 ⟨rfl, hE4⟩
              clear y0 y1 y2 y3
              have hB4 := (hB.allocs _).ext hE4
              have hT4 := (hT.allocs _).ext hE4
              have hE5 := Ext.trans (hE.allocs _) hE4
              have hBP := (Blk.new wr 83 #[.bool true, .int .i64 0, .int .i64 0, .int .i64 (-1)]).ext hE4
              obtain ⟨x0, x1, x2, x3⟩ := blk4 (p := ⟨true, 0, 0, -1⟩) hBP
              have hPne : gB ≠ wr.heap.size := by have := hB.lt; omega
              obtain ⟨y0, y1, y2, y3⟩ := blk4 (p := ⟨B0, B1, B2, B3⟩) hB4
              obtain ⟨z0, z1, z2, z3⟩ := tab_at hT4 (x := i) (by omega)
              have f0 := hB4.frozen 0
              have f1 := hB4.frozen 1
              have f2 := hB4.frozen 2
              have f3 := hB4.frozen 3
              have e0 := hT4.frozen (i * 4)
              have e1 := hT4.frozen (i * 4 + 1)
              have e2 := hT4.frozen (i * 4 + 2)
              have e3 := hT4.frozen (i * 4 + 3)
              generalize T.getD i Pl.zero = Z at z0 z1 z2 z3
              clear hE4 hE hT hB
              simp only at *
              go_wp2_with fail
              go_roundg (ts.length - (k + 1))
              case measure => omega
              case rel => exact ⟨k + 1, by omega, by (have := HI.out); congr 1; push_cast; omega, rfl, Ext.setCells hgw [.bool true, .int .i64 0, .int .i64 0, .int .i64 (-1)] (i * 4) _ (Ext.setCells (by omega) [.bool true, .int .i64 0, .int .i64 0, .int .i64 (-1)] 0 _ hE5), by rw [HROW.out, HR.out]; exact Blk.setAt (hT4.setOther 0 [.bool true, .int .i64 0, .int .i64 0, .int .i64 (-1)] (by omega)) (by omega) Pl.len (by omega) Pl.last⟩
          · have HR : Hid (rowV ts most T i = ⟨B0, B1, B2, B3⟩) := by rw [HR0.out]; exact if_neg (fun h => hle h.1)
            clear HR0 y0 y1 y2 y3
            have hB4 := hB.allocs (.cells #[.bool true, .int .i64 0, .int .i64 0, .int .i64 (-1)] 83)
            have hT4 := hT.allocs (.cells #[.bool true, .int .i64 0, .int .i64 0, .int .i64 (-1)] 83)
            have hE5 := hE.allocs (.cells #[.bool true, .int .i64 0, .int .i64 0, .int .i64 (-1)] 83)
            obtain ⟨y0, y1, y2, y3⟩ := blk4 (p := ⟨B0, B1, B2, B3⟩) hB4
            obtain ⟨z0, z1, z2, z3⟩ := tab_at hT4 (x := i) (by omega)
            have f0 := hB4.frozen 0
            have f1 := hB4.frozen 1
            have f2 := hB4.frozen 2
            have f3 := hB4.frozen 3
            have e0 := hT4.frozen (i * 4)
            have e1 := hT4.frozen (i * 4 + 1)
            have e2 := hT4.frozen (i * 4 + 2)
            have e3 := hT4.frozen (i * 4 + 3)
            generalize T.getD i Pl.zero = Z at z0 z1 z2 z3
            simp only at *
            go_wp2_with fail
            go_roundg (ts.length - (k + 1))
            case measure => omega
            case rel => exact ⟨k + 1, by omega, by (have := HI.out); congr 1; push_cast; omega, rfl, Ext.setCells hgw [.bool B0, .int .i64 B1, .int .i64 B2, .int .i64 B3] (i * 4) _ hE5, by rw [HROW.out, HR.out]; exact Blk.setAt hT4 (by omega) Pl.len (by omega) ⟨B0, B1, B2, B3⟩⟩
    · obtain rfl : k = ts.length := by omega
      have HD : Hid (divideV ts most = if ((tabV ts most ts.length).getD 0 Pl.zero).poss then some (follow (tabV ts most ts.length) (ts.length + 1) 0) else none) := rfl
      rw [Nat.sub_self] at HG
      rw [show ((ts.length : Int) - (ts.length : Int) - 1) = -1 by omega]
      generalize tabV ts most ts.length = T at *
      have hTl' : ts.length < T.length := by omega
      clear hTl hlt hk
      obtain ⟨z0, z1, z2, z3⟩ := tab_at hT (x := 0) (by omega)
      rw [Nat.zero_mul] at z0 z1 z2 z3
      rcases hp : (T.getD 0 Pl.zero).poss with _ | _
      · have HV : Hid (divideV ts most = none) := by rw [HD.out, hp]; rfl
        rw [hp] at z0
        clear hp HD
        go_wp2_with fail
        go_ret2
        exact .inr ⟨HV.out, rfl, hE⟩
      · have HV : Hid (divideV ts most = some (follow T (ts.length + 1) 0)) := by rw [HD.out, hp]; rfl
        have HP := Lib.hid hp
        rw [hp] at z0
        clear hp HD
        go_wp2_with fail
        clear z0 z1 z2 z3
        go_loopg [15, 16] ts.length (fun g v i wr => FolRel w ts.length gT T g v i wr)
        case atStart => exact ⟨0, [], Nat.zero_le _, rfl, rfl, HP.out, rfl, Nat.le_refl _, hE, hT, own_nil _ _ _ _ _⟩
        case round =>
          clear hE hT
          obtain ⟨x, L, hx, rfl, rfl, hp, hfol, hL, hE, hT, hown⟩ := hrel
          have HFOL := Lib.hid hfol
          have HMORE := Lib.hid (follow_more HG.out x hx hp)
          have HEND := Lib.hid (follow_end (n := ts.length) (T := T) x hx)
          obtain ⟨z0, z1, z2, z3⟩ := tab_at hT (x := x) (by omega)
          clear hfol hp
          by_cases hneg : (T.getD x Pl.zero).first < 0
          · have HF2 : Hid (L = follow T (ts.length + 1) 0) := by have := HFOL.out; rw [HEND.out hneg, List.append_nil] at this; exact this
            generalize T.getD x Pl.zero = R at *
            go_wp2_with fail
            go_ret2
            exact .inl ⟨_, _, HV.out, rfl, by rw [← HF2.out]; exact own_base hown (by omega), hE⟩
          · obtain ⟨hm1, hm2, hm3, hm4⟩ := HMORE.out (by omega)
            have HM1 := Lib.hid hm1
            have HM4 := Lib.hid hm4
            have hz := hT.lt
            have hzz := hE.size
            clear hm1 hm4 HMORE HEND
            obtain ⟨z, hzv⟩ : ∃ z : Nat, (T.getD x Pl.zero).first = z := ⟨(T.getD x Pl.zero).first.toNat, by omega⟩
            rw [hzv] at z3 hm2 hm3 HM1 HM4
            rw [Int.toNat_natCast] at HM1 HM4
            clear hneg
            have HZ := Lib.hid hzv
            clear hzv
            go_wp2_with (at_builtin; refine wpList_push Iv 1 8 Iv.len Iv.one (by omega) rfl _ _ _ rfl (gT + 1) 3 Try.underlying33 (by kernel_rfl) u15 L (z : Int) rfl hown rfl (by unfold maxLen; omega) (by omega) (by omega) ?_; intro v' w6 hown6 hg6; have hT6 := hT.grownRow hg6 (own_far hown (Nat.lt_succ_self _)); obtain ⟨y0, y1, y2, y3⟩ := tab_at hT6 (x := x) (by omega); rw [HZ.out] at y3)
            have hE6 : Ext w w6 := Ext.own hE hown (by omega) hg6
            go_roundg (ts.length - (z + 1))
            case measure => omega
            case rel => exact ⟨z + 1, L ++ [(z : Int)], by omega, by go_num, rfl, HM4.out, by rw [List.append_assoc, List.singleton_append, ← HM1.out]; exact HFOL.out, by simp; omega, hE6, hT6, hown6⟩
end Go.Proofs.Ytddcgholnhhcoaa
