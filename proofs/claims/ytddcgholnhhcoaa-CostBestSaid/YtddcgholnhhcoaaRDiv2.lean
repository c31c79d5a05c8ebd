/- Chapter 38: the reference's divide. No statement of the seat is proved here. -/
import Derived.Test.YtddcgholnhhcoaaRDivInv
namespace Go.Proofs.Ytddcgholnhhcoaa
open Go.RowKit
set_option linter.unusedVariables false

theorem cell_ext {w w' : World} {a : Addr} {v : Value} (hE : Ext w w') (h : w.cell? a = some v) : w'.cell? a = some v := (hE.cell (World.block_lt_of_cell? w _ h)).trans h
theorem keep10 {w w' : World} (hE : Ext w w') {a0 a1 a2 a3 a4 a5 a6 : Addr} {v0 v1 v2 v3 v4 v5 v6 : Value}
    (h : w.cell? a0 = some v0 ∧ w.cell? a1 = some v1 ∧ w.cell? a2 = some v2 ∧ w.cell? a3 = some v3 ∧ w.cell? a4 = some v4 ∧ w.cell? a5 = some v5 ∧ w.cell? a6 = some v6 ∧ w.frozen? a0 = false ∧ w.frozen? a1 = false ∧ w.frozen? a2 = false) :
    w'.cell? a0 = some v0 ∧ w'.cell? a1 = some v1 ∧ w'.cell? a2 = some v2 ∧ w'.cell? a3 = some v3 ∧ w'.cell? a4 = some v4 ∧ w'.cell? a5 = some v5 ∧ w'.cell? a6 = some v6 ∧ w'.frozen? a0 = false ∧ w'.frozen? a1 = false ∧ w'.frozen? a2 = false := by
  obtain ⟨h0, h1, h2, h3, h4, h5, h6, f0, f1, f2⟩ := h
  exact ⟨cell_ext hE h0, cell_ext hE h1, cell_ext hE h2, cell_ext hE h3, cell_ext hE h4, cell_ext hE h5, cell_ext hE h6, (hE.frozen (World.block_lt_of_cell? w _ h0)).trans f0, (hE.frozen (World.block_lt_of_cell? w _ h1)).trans f1, (hE.frozen (World.block_lt_of_cell? w _ h2)).trans f2⟩
theorem keep4 {w w' : World} (hE : Ext w w') {a3 a4 a5 a6 : Addr} {v3 v4 v5 v6 : Value} (h : w.cell? a3 = some v3 ∧ w.cell? a4 = some v4 ∧ w.cell? a5 = some v5 ∧ w.cell? a6 = some v6) :
    w'.cell? a3 = some v3 ∧ w'.cell? a4 = some v4 ∧ w'.cell? a5 = some v5 ∧ w'.cell? a6 = some v6 := by
  obtain ⟨h3, h4, h5, h6⟩ := h
  exact ⟨cell_ext hE h3, cell_ext hE h4, cell_ext hE h5, cell_ext hE h6⟩
theorem keep4s {w : World} {g o x tb z : Nat} {u0 u1 u2 v3 v4 v5 v6 : Value} (hl : o + 3 ≤ x) (hne : tb ≠ g) (h : w.cell? ⟨g, x, none⟩ = some v3 ∧ w.cell? ⟨g, x + 1, none⟩ = some v4 ∧ w.cell? ⟨g, x + 2, none⟩ = some v5 ∧ w.cell? ⟨tb, z, none⟩ = some v6) :
    (((w.setCell ⟨g, o, none⟩ u0).setCell ⟨g, o + 1, none⟩ u1).setCell ⟨g, o + 2, none⟩ u2).cell? ⟨g, x, none⟩ = some v3 ∧ (((w.setCell ⟨g, o, none⟩ u0).setCell ⟨g, o + 1, none⟩ u1).setCell ⟨g, o + 2, none⟩ u2).cell? ⟨g, x + 1, none⟩ = some v4 ∧ (((w.setCell ⟨g, o, none⟩ u0).setCell ⟨g, o + 1, none⟩ u1).setCell ⟨g, o + 2, none⟩ u2).cell? ⟨g, x + 2, none⟩ = some v5 ∧ (((w.setCell ⟨g, o, none⟩ u0).setCell ⟨g, o + 1, none⟩ u1).setCell ⟨g, o + 2, none⟩ u2).cell? ⟨tb, z, none⟩ = some v6 := by
  obtain ⟨h3, h4, h5, h6⟩ := h
  have e : ((w.setCell ⟨g, o, none⟩ u0).setCell ⟨g, o + 1, none⟩ u1).setCell ⟨g, o + 2, none⟩ u2 = w.setCells g o [u0, u1, u2] := rfl
  rw [e]
  refine ⟨?_, ?_, ?_, ?_⟩
  · rw [World.cell?_setCells_out _ _ _ _ _ (fun _ _ => .inr hl)]; exact h3
  · rw [World.cell?_setCells_out _ _ _ _ _ (fun _ _ => .inr (by show o + 3 ≤ x + 1; omega))]; exact h4
  · rw [World.cell?_setCells_out _ _ _ _ _ (fun _ _ => .inr (by show o + 3 ≤ x + 2; omega))]; exact h5
  · rw [World.cell?_setCells_out _ _ _ _ _ (fun h _ => absurd h hne)]; exact h6
def RDivPost (ts : List Tk) (M : Int) (w : World) (e : Ending) (w' : World) : Prop :=
  ∃ p : RP, e = .returned p.val ∧ IntSeg w' p.A p.L ∧ p.L.length ≤ 64 ∧ Ext w w' ∧ ((p.there = true ∧ divideV ts M = some p.L) ∨ (p.there = false ∧ divideV ts M = none))
def OutR (w : World) (ts : List Tk) (M : Int) (gT : Nat) (g : Nat) (i : Value) (wr : World) : Prop :=
  ∃ (k : Nat) (T : List RP), k ≤ ts.length ∧ i = .int .i64 ((ts.length : Int) - k - 1) ∧ g = ts.length - k ∧ TabOk w gT ts.length wr T ∧ Blk wr (gT - 1) 67 #[.bool false, .int .i64 0, .slice none 0 0] ∧ SolAbove ts M (ts.length - k) T ∧ ZeroBelow (ts.length - k) T
def InR (w : World) (ts : List Tk) (M : Int) (gT i : Nat) (g : Nat) (wk jv : Value) (wr : World) : Prop :=
  ∃ (d : Nat) (T : List RP), i + d ≤ ts.length ∧ jv = .int .i64 ((i + d : Nat) : Int) ∧ wk = .int .i64 (lenIn ts i d).1 ∧ g = ts.length - (i + d) ∧ TabOk w gT ts.length wr T ∧ Blk wr (gT - 1) 67 #[.bool false, .int .i64 0, .slice none 0 0] ∧ SolAbove ts M (i + 1) T ∧ ZeroBelow i T ∧
    (T.getD i RP.zero).sol ts M i (Ahead ts.length (i + d) (decide (i + d = ts.length)))
def CutR (w : World) (ts : List Tk) (M : Int) (gT i d : Nat) (wk : Value) (wr : World) : Prop :=
  ∃ (T : List RP), wk = .int .i64 (lenIn ts i (d + 1)).1 ∧ TabOk w gT ts.length wr T ∧ Blk wr (gT - 1) 67 #[.bool false, .int .i64 0, .slice none 0 0] ∧ SolAbove ts M (i + 1) T ∧ ZeroBelow i T ∧
    (T.getD i RP.zero).sol ts M i (Ahead ts.length (i + d) (decide (i + d + 1 = ts.length)))
theorem SolAbove.put {ts : List Tk} {M : Int} {lo i : Nat} {T : List RP} (h : SolAbove ts M lo T) (hi : i < lo) (p : RP) : SolAbove ts M lo (T.set i p) := fun x h1 h2 => by
  rw [getD_set_ne _ _ _ _ _ (by omega)]
  exact h x h1 h2
theorem ZeroBelow.put {hi i : Nat} {T : List RP} (h : ZeroBelow hi T) (hi' : hi ≤ i) (p : RP) : ZeroBelow hi (T.set i p) := fun x h1 => by
  rw [getD_set_ne _ _ _ _ _ (by omega)]
  exact h x h1
theorem SolAbove.down {ts : List Tk} {M : Int} {i : Nat} {T : List RP} (h : SolAbove ts M (i + 1) T) (hi : (T.getD i RP.zero).sol ts M i (fun _ => True)) : SolAbove ts M i T := fun x h1 h2 => by
  by_cases e : x = i
  · subst e; exact hi
  · exact h x (by omega) h2

set_option maxRecDepth 100000 in
set_option maxHeartbeats 12800000 in
theorem rdivide_any (A : Option Addr) (c : Nat) (ts : List Tk) (M : Int) (w : World) (hs : TkSeg w A ts) (hn : ts.length ≤ 64) (hf : AllFine ts) (hM : 0 ≤ M) :
    Calls Try.prog 46 #[.slice A ts.length c, .int .i64 M] w (RDivPost ts M w) := by
  have hn64 : (ts.length : Int) ≤ 64 := by omega
  have HF := Lib.hid hf
  have HM := Lib.hid hM
  clear hf hM
  obtain ⟨W0, hW0⟩ : ∃ W0, w.alloc (.cells #[.bool false, .int .i64 0, .slice none 0 0] 67) = W0 := ⟨_, rfl⟩
  have hR0 : Blk W0 w.heap.size 67 #[.bool false, .int .i64 0, .slice none 0 0] := by rw [← hW0]; exact Blk.new w _ _
  have hX0 : Ext w W0 := by rw [← hW0]; exact (Ext.refl w).allocs _
  have hz0 : W0.heap.size = w.heap.size + 1 := by rw [← hW0]; simp
  have hmk := mk_rtab ts.length (by omega) W0
  have hB0 := Blk.newAt (w := W0) (g := w.heap.size + 1) (t := 67) (cs := ((List.replicate (ts.length + 1) RP.zero).flatMap RP.cells).toArray) hz0
  have hR1 := hR0.allocs (.cells ((List.replicate (ts.length + 1) RP.zero).flatMap RP.cells).toArray 67)
  have hX1 := hX0.allocs (.cells ((List.replicate (ts.length + 1) RP.zero).flatMap RP.cells).toArray 67)
  rw [hz0] at hmk
  obtain ⟨W1, hW1⟩ : ∃ W1, W0.alloc (.cells ((List.replicate (ts.length + 1) RP.zero).flatMap RP.cells).toArray 67) = W1 := ⟨_, rfl⟩
  rw [hW1] at hmk hB0 hR1 hX1
  have HW0 := Lib.hid hW0
  clear hW1 hW0 hR0 hX0 hz0
  obtain ⟨gT, hgT⟩ : ∃ gT, w.heap.size + 1 = gT := ⟨_, rfl⟩
  have hg1 : w.heap.size = gT - 1 := by omega
  rw [hgT] at hmk hB0
  have HT0 : Hid (TabOk w gT ts.length W1 (List.replicate (ts.length + 1) RP.zero)) :=
    ⟨hX1, by omega, hB0, by simp, fun x hx => by
      rw [show (List.replicate (ts.length + 1) RP.zero).getD x RP.zero = RP.zero by rw [List.getD_eq_getElem?_getD, List.getElem?_replicate]; split <;> rfl]
      exact ⟨Seg.nil, fun ad h => by cases h⟩⟩
  have HT1 : Hid (TabOk w gT ts.length (W1.setCells gT (ts.length * 3) RP.last.cells) ((List.replicate (ts.length + 1) RP.zero).set ts.length RP.last)) := TabOk.put HT0.out (Nat.le_refl _) ⟨Seg.nil, fun ad h => by cases h⟩
  have HR1 : Hid (Blk (W1.setCells gT (ts.length * 3) RP.last.cells) (gT - 1) 67 #[.bool false, .int .i64 0, .slice none 0 0]) := by
    rw [hg1] at hR1
    exact hR1.setOther _ _ (by omega)
  obtain ⟨c0, c1, c2⟩ := rtab_at hB0 (x := ts.length) (by simp)
  have f0 := hB0.frozen (ts.length * 3)
  have f1 := hB0.frozen (ts.length * 3 + 1)
  have f2 := hB0.frozen (ts.length * 3 + 2)
  generalize (List.replicate (ts.length + 1) RP.zero).getD ts.length RP.zero = z at c0 c1 c2
  have HG := Lib.hid hgT
  clear hB0 hX1 hR1 hgT
  have HE0 := HW0.out
  clear HW0
  go_enter Try.func46, Try.ntmps46
  go_upto_region 1 with fail
  try rw [HE0]
  try rw [hg1]
  clear HE0
  go_wp2_with fail
  go_loopg [7] ts.length (fun g i wr => OutR w ts M gT g i wr)
  case atStart =>
    refine ⟨0, _, Nat.zero_le _, by go_num, rfl, HT1.out, HR1.out, ?_, ?_⟩
    · intro x h1 h2
      obtain rfl : x = ts.length := by omega
      rw [getD_set_self _ _ _ _ (by simp)]
      exact sol_end M HM.out
    · intro x h1
      rw [getD_set_ne _ _ _ _ _ (by omega), List.getD_eq_getElem?_getD, List.getElem?_replicate]
      split <;> rfl
  case round =>
    clear hmk c0 c1 c2 f0 f1 f2 HT1 HR1 HT0
    obtain ⟨k, T, hk, rfl, rfl, hT, hR, hA, hZ⟩ := hrel
    by_cases hlt : k < ts.length
    · obtain ⟨i, hi⟩ : ∃ i, ts.length - (k + 1) = i := ⟨_, rfl⟩
      have hil : i < ts.length := by omega
      rw [show ts.length - k = i + 1 by omega] at hA hZ
      rw [show ((ts.length : Int) - (k : Int) - 1) = (i : Int) by omega]
      have HI := Lib.hid hi
      clear hi
      have HS0 : Hid ((T.getD i RP.zero).sol ts M i (Ahead ts.length (i + 0) (decide (i + 0 = ts.length)))) := by
        rw [hZ i (by omega), decide_eq_false (by omega)]
        exact sol_none ts M i
      go_wp2_with fail
      go_loopg [8, 9] (ts.length - i) (fun g wk jv wr => InR w ts M gT i g wk jv wr)
      case atStart => exact ⟨0, T, by omega, rfl, rfl, rfl, hT, hR, hA, fun x hx => hZ x (by omega), HS0.out⟩
      case round =>
        clear hT hR hA hZ HS0
        obtain ⟨d, T, hd, rfl, rfl, rfl, hT, hR, hA, hZ, hS⟩ := hrel
        by_cases hjl : i + d < ts.length
        · have HL : Hid ((lenIn ts i (d + 1)).1 = (lenIn ts i d).1 + (ts.getD (i + d) noTk).work) := rfl
          have hlb := lenIn_bd ts i HF.out d hd
          have hsd := decide_eq_false (p := i + d = ts.length) (by omega)
          rw [hsd] at hS
          clear hsd
          have HS := Lib.hid hS
          have HA := Lib.hid hA
          have HZ := Lib.hid hZ
          have HT := Lib.hid hT
          obtain ⟨hE, _, hB, hTl, hfi⟩ := hT
          have HFI := Lib.hid hfi
          have HSB := Lib.hid (hS.bd HF.out (by omega))
          clear hS hA hZ hfi
          obtain ⟨j, hj⟩ : ∃ j, i + d = j := ⟨_, rfl⟩
          have HJ := Lib.hid hj
          rw [hj] at hjl ⊢
          have ht := HF.out j hjl
          obtain ⟨tb, toff, rfl, P0, P1⟩ := Tk.at_ hs hjl
          rw [← getD_at ts j noTk hjl] at P0 P1
          have p0 := cell_ext hE P0
          obtain ⟨y0, y1, y2⟩ := rtab_at hB (x := i) (by omega)
          have f0 := hB.frozen (i * 3)
          have f1 := hB.frozen (i * 3 + 1)
          have f2 := hB.frozen (i * 3 + 2)
          have hij : i ≤ j := by omega
          have hdj : d ≤ j := by omega
          rw [hj] at HL
          clear hj hd
          obtain ⟨t, ht0⟩ : ∃ t, ts.getD j noTk = t := ⟨_, rfl⟩
          rw [ht0] at ht HL p0 P1
          have HP1 := Lib.hid P1
          clear P0 P1
          have HTK := Lib.hid ht0
          clear ht0
          obtain ⟨p, hp⟩ : ∃ p, T.getD i RP.zero = p := ⟨_, rfl⟩
          rw [hp] at HS HSB y0 y1 y2
          have HP := Lib.hid hp
          clear hp
          go_upto_region 12 with fail
          have hlb1 := lenIn_bd ts i HF.out (d + 1) (by (have := HJ.out); omega)
          try rw [show wrap64 ((lenIn ts i d).1 + t.work) = (lenIn ts i d).1 + t.work from IntWalk.i64_in _ (by omega)]
          rw [← HL.out]
          obtain ⟨len, hl⟩ : ∃ len, (lenIn ts i (d + 1)).1 = len := ⟨_, rfl⟩
          rw [hl] at hlb1 ⊢
          have HLE := Lib.hid hl
          clear hl
          obtain ⟨bb, hbb⟩ : ∃ bb : Bool, decide (j + 1 = ts.length ∧ len ≤ M) = bb := ⟨_, rfl⟩
          have HBB := Lib.hid hbb
          clear hbb
          obtain ⟨w5, hw5⟩ : ∃ w5, wr = w5 := ⟨_, rfl⟩
          subst hw5
          go_cut [46] from 26 to 102 (fun s46 wx => s46 = .bool bb ∧ wx = wr)
          case first =>
            have hw1 : IntKind.i64.wrap ((ts.length : Int) - 1) = (ts.length : Int) - 1 := IntWalk.i64_in _ (by omega)
            by_cases hjn : j + 1 = ts.length
            · have hq : ((j : Int) == (ts.length : Int) - 1) = true := by simp; omega
              by_cases hle : len ≤ M
              · have HB' : Hid (bb = true) := by show bb = true; rw [← HBB.out]; simp [hjn, hle]
                go_wp2_with fail
                go_meet
                exact ⟨by rw [HB'.out], rfl⟩
              · have HB' : Hid (bb = false) := by show bb = false; rw [← HBB.out]; simp [hjn, hle]
                go_wp2_with fail
                go_meet
                exact ⟨by rw [HB'.out], rfl⟩
            · have hq : ((j : Int) == (ts.length : Int) - 1) = false := by simp; omega
              have HB' : Hid (bb = false) := by show bb = false; rw [← HBB.out]; simp [hjn]
              go_wp2_with fail
              go_meet
              exact ⟨by rw [HB'.out], rfl⟩
          case rest =>
            obtain ⟨rfl, rfl⟩ := hcut
            go_upto_if 46 with fail
            go_cut [8] from 26 to 102 (fun wk wr => CutR w ts M gT i d wk wr)
            case first =>
              have HBF : Hid (bb = false → p.sol ts M i (Ahead ts.length (i + d) (decide (i + d + 1 = ts.length)))) := by
                intro hb
                have hj := HJ.out
                have hbb := HBB.out
                rw [hb] at hbb
                have hbb := of_decide_eq_false hbb
                by_cases hjn : i + d + 1 = ts.length
                · rw [decide_eq_true hjn]
                  refine sol_long HS.out ?_
                  rw [show ts.length - i = d + 1 by omega, HLE.out]
                  exact fun h => hbb ⟨by omega, h⟩
                · rw [decide_eq_false hjn]
                  exact HS.out
              have HBT : Hid (bb = true → i + d + 1 = ts.length ∧ (lenIn ts i (ts.length - i)).1 ≤ M) := by
                intro hb
                have hj := HJ.out
                have hbb := HBB.out
                rw [hb] at hbb
                obtain ⟨h1, h2⟩ := of_decide_eq_true hbb
                refine ⟨by omega, ?_⟩
                rw [show ts.length - i = d + 1 by omega, HLE.out]
                exact h2
              have hpf := HFI.out i (by omega)
              rw [HP.out] at hpf
              have HPF := Lib.hid hpf
              have HSL := HSB.out.2
              have hij' : ((i : Nat) : Int) ≤ (ts.length : Int) := by omega
              cases bb
              · clear HBT y0 y1 y2 f0 f1 f2
                go_wp2_with fail
                go_meet
                exact ⟨T, by rw [HLE.out], HT.out, hR, HA.out, HZ.out, by rw [HP.out]; exact HBF.out (by simp)⟩
              · have HSOL := Lib.hid (sol_last HF.out (by omega) HS.out (HBT.out (by simp)).2)
                have HC := Lib.hid (fun w' (h : Ext wc w') => rbetter_any p.A none p.c 0 p.there true p.cost 0 p.L [] w' (HPF.out.1.ext h) Seg.nil (by omega) (by simp))
                obtain ⟨v, hv⟩ : ∃ v, rbV p.there p.cost p.L true 0 [] = v := ⟨_, rfl⟩
                rw [hv] at HC HSOL
                clear hv
                rcases v with _ | _
                · go_wp2_with fail
                  refine (HC.out _ (Ext.refl _)).mono ?_
                  rintro e w4 ⟨rfl, hE4⟩
                  have hT4 := HT.out.ext hE4
                  have HT5 := Lib.hid (hT4.put (i := i) (by omega) (HPF.out.ext hE4))
                  have hB4 := hT4.2.2.1
                  have hR4 := hR.ext hE4
                  have HR5 := Lib.hid (hR4.setOther (i * 3) p.cells (g' := gT) (by have := HG.out; omega))
                  clear y0 y1 y2 f0 f1 f2 HBF
                  obtain ⟨y0, y1, y2⟩ := rtab_at hB4 (x := i) (by omega)
                  rw [HP.out] at y0 y1 y2
                  have f0 := hB4.frozen (i * 3)
                  have f1 := hB4.frozen (i * 3 + 1)
                  have f2 := hB4.frozen (i * 3 + 2)
                  clear hT4 hB4 hR4 hE4 HC
                  go_wp2_with fail
                  go_meet
                  exact ⟨T.set i p, by rw [HLE.out], HT5.out, HR5.out, HA.out.put (by omega) _, HZ.out.put (Nat.le_refl _) _, by rw [getD_set_self _ _ _ _ (by omega), decide_eq_true (HBT.out (by simp)).1]; exact HSOL.out⟩
                · go_wp2_with fail
                  refine (HC.out _ (Ext.refl _)).mono ?_
                  rintro e w4 ⟨rfl, hE4⟩
                  have hT4 := HT.out.ext hE4
                  have HT5 := Lib.hid (hT4.put (i := i) (by omega) (p := RP.last) ⟨Seg.nil, fun ad h => by cases h⟩)
                  have hB4 := hT4.2.2.1
                  have hR4 := hR.ext hE4
                  have HR5 := Lib.hid (hR4.setOther (i * 3) RP.last.cells (g' := gT) (by have := HG.out; omega))
                  clear y0 y1 y2 f0 f1 f2 HBF
                  obtain ⟨y0, y1, y2⟩ := rtab_at hB4 (x := i) (by omega)
                  rw [HP.out] at y0 y1 y2
                  have f0 := hB4.frozen (i * 3)
                  have f1 := hB4.frozen (i * 3 + 1)
                  have f2 := hB4.frozen (i * 3 + 2)
                  clear hT4 hB4 hR4 hE4 HC
                  go_wp2_with fail
                  go_meet
                  exact ⟨T.set i RP.last, by rw [HLE.out], HT5.out, HR5.out, HA.out.put (by omega) _, HZ.out.put (Nat.le_refl _) _, by rw [getD_set_self _ _ _ _ (by omega), decide_eq_true (HBT.out (by simp)).1]; exact HSOL.out⟩
            case rest =>
              clear HS HSB HP HT HA HZ HFI hB hTl y0 y1 y2 f0 f1 f2 hR hE p0 p HBB
              obtain ⟨T1, rfl, hT, hR, hA, hZ, hS⟩ := hcut
              rw [HLE.out]
              have HRS := Lib.hid (hA (i + d + 1) (by (have := HJ.out); omega) (by (have := HJ.out); omega))
              have HRB := HRS.out.bd HF.out (by (have := HJ.out); omega)
              have HPB := hS.bd HF.out (by omega)
              have HS := Lib.hid hS
              have HA := Lib.hid hA
              have HZ := Lib.hid hZ
              have HT := Lib.hid hT
              obtain ⟨hE, _, hB, hTl, hfi⟩ := hT
              have HRF := Lib.hid (hfi (i + d + 1) (by (have := HJ.out); omega))
              have HPF := Lib.hid (hfi i (by omega))
              clear hS hA hZ hfi
              have p1 := cell_ext hE HP1.out
              obtain ⟨y0, y1, y2⟩ := rtab_at hB (x := i) (by omega)
              obtain ⟨r0, r1, r2⟩ := rtab_at hB (x := i + d + 1) (by (have := HJ.out); omega)
              have f0 := hB.frozen (i * 3)
              have f1 := hB.frozen (i * 3 + 1)
              have f2 := hB.frozen (i * 3 + 2)
              have HSK := Lib.hid (fun h => sol_skip (d := d) HS.out HRS.out h)
              have HPL := Lib.hid (fun hl (hs : Sol ts M (i + d + 1) (fun _ => True) true (T1.getD (i + d + 1) RP.zero).cost (T1.getD (i + d + 1) RP.zero).L) => sol_place (d := d) HS.out (by (have := HJ.out); omega) hl hs)
              obtain ⟨R, hRe⟩ : ∃ R, T1.getD (i + d + 1) RP.zero = R := ⟨_, rfl⟩
              obtain ⟨p, hpe⟩ : ∃ p, T1.getD i RP.zero = p := ⟨_, rfl⟩
              rw [hRe] at HRS HRB HRF r0 r1 r2 HSK HPL
              rw [hpe] at HS HPB HPF y0 y1 y2 HSK HPL
              have HRE := Lib.hid hRe
              have HPE := Lib.hid hpe
              clear hRe hpe
              rw [HJ.out, HTK.out, HLE.out] at HSK HPL
              rw [HJ.out] at HRS HRB HRE r0 r1 r2
              obtain ⟨⟨hp0, hp1⟩, hp2⟩ := HPB
              obtain ⟨⟨hr0, hr1⟩, hr2⟩ := HRB
              have hr1' : R.cost ≤ 67108864 := by omega
              have hlen' : len ≤ 67108864 := by omega
              have hlen0 : 0 ≤ len := by omega
              obtain ⟨⟨_, _⟩, htc0, htc1⟩ := ht
              have hr2' : R.L.length ≤ 64 := by omega
              have hp2' : p.L.length ≤ 64 := by omega
              clear hr1 hp1 hr2 hp2 hlb1 hlb
              by_cases hle : len + t.cost ≤ M
              · rcases hRt : R.there with _ | _
                · rw [hRt] at r0
                  have HRT := Lib.hid hRt
                  clear hRt
                  go_wp2_with fail
                  go_roundg (ts.length - (j + 1))
                  case measure => (have := HJ.out); omega
                  case rel => exact ⟨d + 1, T1, by have := HJ.out; omega, by rw [← HJ.out]; go_num, by rw [HLE.out], by rw [← HJ.out]; rfl, HT.out, hR, HA.out, HZ.out, by rw [HPE.out, ← Nat.add_assoc, HJ.out]; exact HSK.out (by simp [HRT.out])⟩
                · rw [hRt] at r0
                  have HRS1 : Hid (Sol ts M (j + 1) (fun _ => True) true R.cost R.L) := by have h := HRS.out; unfold RP.sol at h; rw [hRt] at h; exact h
                  have HSOL := Lib.hid (HPL.out hle HRS1.out)
                  clear hRt
                  have HC := Lib.hid (fun A' c' w' (hseg : IntSeg w' A' ((j : Int) :: R.L)) (hp : IntSeg w' p.A p.L) => rbetter_any p.A A' p.c c' p.there true p.cost (t.cost + R.cost) p.L ((j : Int) :: R.L) w' hp hseg (by omega) (by rw [List.length_cons]; omega))
                  obtain ⟨v, hv⟩ : ∃ v, rbV p.there p.cost p.L true (t.cost + R.cost) ((j : Int) :: R.L) = v := ⟨_, rfl⟩
                  rw [hv] at HC HSOL
                  clear hv
                  have hw1 : IntKind.i64.wrap (t.cost + R.cost) = t.cost + R.cost := IntWalk.i64_in _ (by omega)
                  have hw2 : IntKind.i64.wrap ((j : Int) + 1) = (j : Int) + 1 := IntWalk.i64_in _ (by omega)
                  have hH := And.intro y0 (And.intro y1 (And.intro y2 (And.intro r0 (And.intro r1 (And.intro r2 (And.intro p1 (And.intro f0 (And.intro f1 f2))))))))
                  have hH4 := And.intro r0 (And.intro r1 (And.intro r2 p1))
                  have h3ij : i * 3 + 3 ≤ (j + 1) * 3 := by omega
                  have hnet : tb ≠ gT := by have := World.block_lt_of_cell? w _ HP1.out; (have := HG.out); simp only at *; omega
                  have hbi0 : (0 : Int) ≤ (i : Int) := by omega
                  have hbi1 : (i : Int) < (ts.length : Int) + 1 := by omega
                  have hbj0 : (0 : Int) ≤ (j : Int) := by omega
                  have hbj1 : (j : Int) < (ts.length : Int) := by omega
                  have hbj2 : (0 : Int) ≤ (j : Int) + 1 := by omega
                  have hbj3 : (j : Int) + 1 < (ts.length : Int) + 1 := by omega
                  go_upto_region 15 with fail
                  refine act_fn rfl ?_
                  intro x hx
                  have x0 : x 0 = .slice (some ⟨tb, toff, none⟩) ts.length c := hx 0
                  have x1 : x 1 = .int .i64 M := hx 1
                  have x4 : x 4 = .pointer (some ⟨gT - 1, 0, none⟩) := hx 4
                  have x5 : x 5 = .int .i64 ts.length := hx 5
                  have x6 : x 6 = .slice (some ⟨gT, 0, none⟩) (ts.length + 1) (ts.length + 1) := hx 6
                  have x7 : x 7 = .int .i64 (i : Int) := hx 7
                  have x8 : x 8 = .int .i64 len := hx 8
                  have x9 : x 9 = .int .i64 (j : Int) := hx 9
                  have HX := Lib.hid hx
                  clear hx
                  refine wp_region_steps (by kernel_rfl) (by kernel_rfl) (RI wc x ts.length gT i j tb toff c t.cost p R v) ?start ?fin ?steps
                  case start => exact ⟨x, 0, none, 0, rfl, by simp, by simp, by simp, by simp, fun _ => ⟨Below.drew (Ext.refl wc), by simp, by simp⟩, by simp⟩
                  case fin =>
                    rintro m ac wr ⟨y, g, A', c', rfl, hy, h30, h27, h28, hpre, hpost⟩ hall
                    obtain ⟨w7, hE7, hs7, hn7, rfl⟩ := hpost (hall 30 (by simp))
                    clear hy h30 h27 h28 hpre hpost hall y0 y1 y2 r0 r1 r2 p1 f0 f1 f2 hH hH4 HC
                    unfold vec
                    rw [x0, x1, x4, x5, x6, x7, x8, x9]
                    clear x0 x1 x4 x5 x6 x7 x8 x9
                    obtain rfl : x = _ := funext HX.out
                    clear HX
                    rcases v with _ | _
                    · have HT5 := Lib.hid ((HT.out.ext hE7).put (i := i) (by omega) (p := p) (HPF.out.ext hE7))
                      have HR5 := Lib.hid ((hR.ext hE7).setOther (i * 3) (RP.cells p) (g' := gT) (by have := HG.out; omega))
                      go_wp2_with fail
                      go_roundg (ts.length - (j + 1))
                      case measure => (have := HJ.out); omega
                      case rel => exact ⟨d + 1, T1.set i p, by have := HJ.out; omega, by rw [← HJ.out]; go_num, by rw [HLE.out], by rw [← HJ.out]; rfl, HT5.out, HR5.out, HA.out.put (by omega) _, HZ.out.put (Nat.le_refl _) _, by rw [getD_set_self _ _ _ _ (by omega), ← Nat.add_assoc, HJ.out]; exact HSOL.out⟩
                    · have HT5 := Lib.hid ((HT.out.ext hE7).put (i := i) (by omega) (p := ⟨true, t.cost + R.cost, A', (j : Int) :: R.L, c'⟩) (⟨hs7, fun ad h => Nat.lt_of_lt_of_le hB.lt (hn7 ad h)⟩ : RP.fine w7 gT ⟨true, t.cost + R.cost, A', (j : Int) :: R.L, c'⟩))
                      have HR5 := Lib.hid ((hR.ext hE7).setOther (i * 3) (RP.cells ⟨true, t.cost + R.cost, A', (j : Int) :: R.L, c'⟩) (g' := gT) (by have := HG.out; omega))
                      go_wp2_with fail
                      go_roundg (ts.length - (j + 1))
                      case measure => (have := HJ.out); omega
                      case rel => exact ⟨d + 1, T1.set i ⟨true, t.cost + R.cost, A', (j : Int) :: R.L, c'⟩, by have := HJ.out; omega, by rw [← HJ.out]; go_num, by rw [HLE.out], by rw [← HJ.out]; rfl, HT5.out, HR5.out, HA.out.put (by omega) _, HZ.out.put (Nat.le_refl _) _, by rw [getD_set_self _ _ _ _ (by omega), ← Nat.add_assoc, HJ.out]; exact HSOL.out⟩
                  case steps =>
                      refine ⟨?s0, ?s1, ?s2, ?s3, ?s4, ?s5, ?s6, ?s7, ?s8, ?s9, ?s10, ?s11, ?s12, ?s13, ?s14, ?s15, ?s16, ?s17, ?s18, ?s19, ?s20, ?s21, ?s22, ?s23, ?s24, ?s25, ?s26, ?s27, ?s28, ?s29, ?s30, trivial⟩
                      case s0 =>
                        rintro m ac wr ⟨y, g, A', c', rfl, hy, h30, h27, h28, hpre, hpost⟩ hl he
                        have hm30 := RI.open30 (by omega) hl h30
                        have hEx := (hpre hm30).1
                        have HD := Lib.hid (fun wr' t hE ht => RI.read (x := x) (wr' := wr') (t := t) 0 (by omega) (by omega) (by omega) hl hy h30 h27 h28 hpre hE (by omega) (by omega) ht)
                        clear he hy h30 h27 h28 hpre hpost hl hm30 hEx y0 y1 y2 r0 r1 r2 p1 f0 f1 f2 hH hH4 HC HSOL
                        unfold vec
                        go_wp2_with fail
                        exact HD.out _ _ (Ext.refl _) (by simp [vec, rval, x0, x1, x4, x5, x6, x7, x8, x9])
                      case s1 =>
                        rintro m ac wr ⟨y, g, A', c', rfl, hy, h30, h27, h28, hpre, hpost⟩ hl he
                        have hm30 := RI.open30 (by omega) hl h30
                        have hEx := (hpre hm30).1
                        have HD := Lib.hid (fun wr' t hE ht => RI.read (x := x) (wr' := wr') (t := t) 1 (by omega) (by omega) (by omega) hl hy h30 h27 h28 hpre hE (by omega) (by omega) ht)
                        clear he hy h30 h27 h28 hpre hpost hl hm30 hEx y0 y1 y2 r0 r1 r2 p1 f0 f1 f2 hH hH4 HC HSOL
                        unfold vec
                        go_wp2_with fail
                        exact HD.out _ _ (Ext.refl _) (by simp [vec, rval, x0, x1, x4, x5, x6, x7, x8, x9])
                      case s2 =>
                        rintro m ac wr ⟨y, g, A', c', rfl, hy, h30, h27, h28, hpre, hpost⟩ hl he
                        have hm30 := RI.open30 (by omega) hl h30
                        have hEx := (hpre hm30).1
                        have HD := Lib.hid (fun wr' t hE ht => RI.read (x := x) (wr' := wr') (t := t) 2 (by omega) (by omega) (by omega) hl hy h30 h27 h28 hpre hE (by omega) (by omega) ht)
                        clear he hy h30 h27 h28 hpre hpost hl hm30 hEx y0 y1 y2 r0 r1 r2 p1 f0 f1 f2 hH hH4 HC HSOL
                        unfold vec
                        go_wp2_with fail
                        exact HD.out _ _ (Ext.refl _) (by simp [vec, rval, x0, x1, x4, x5, x6, x7, x8, x9])
                      case s3 =>
                        rintro m ac wr ⟨y, g, A', c', rfl, hy, h30, h27, h28, hpre, hpost⟩ hl he
                        have hm30 := RI.open30 (by omega) hl h30
                        have hEx := (hpre hm30).1
                        have HD := Lib.hid (fun wr' t hE ht => RI.read (x := x) (wr' := wr') (t := t) 3 (by omega) (by omega) (by omega) hl hy h30 h27 h28 hpre hE (by omega) (by omega) ht)
                        clear he hy h30 h27 h28 hpre hpost hl hm30 hEx y0 y1 y2 r0 r1 r2 p1 f0 f1 f2 hH hH4 HC HSOL
                        unfold vec
                        go_wp2_with fail
                        exact HD.out _ _ (Ext.refl _) (by simp [vec, rval, x0, x1, x4, x5, x6, x7, x8, x9])
                      case s4 =>
                        rintro m ac wr ⟨y, g, A', c', rfl, hy, h30, h27, h28, hpre, hpost⟩ hl he
                        simp [Region.binds] at he
                        have e75 : y 75 = .slice (some ⟨gT, 0, none⟩) (ts.length + 1) (ts.length + 1) := hy 2 (by omega) he.1
                        have e76 : y 76 = .int .i64 (i : Int) := hy 3 (by omega) he.2
                        have hm30 := RI.open30 (by omega) hl h30
                        have hEx := (hpre hm30).1
                        have HD := Lib.hid (fun wr' t hE ht => RI.read (x := x) (wr' := wr') (t := t) 4 (by omega) (by omega) (by omega) hl hy h30 h27 h28 hpre hE (by omega) (by omega) ht)
                        clear he hy h30 h27 h28 hpre hpost hl hm30 hEx y0 y1 y2 r0 r1 r2 p1 f0 f1 f2 hH hH4 HC HSOL
                        unfold vec
                        go_wp2_with fail
                        exact HD.out _ _ (Ext.refl _) (by simp [vec, rval, e75, e76, x0, x1, x4, x5, x6, x7, x8, x9])
                      case s5 =>
                        rintro m ac wr ⟨y, g, A', c', rfl, hy, h30, h27, h28, hpre, hpost⟩ hl he
                        simp [Region.binds] at he
                        have e77 : y 77 = .pointer (some ⟨gT, i * 3, none⟩) := hy 4 (by omega) he
                        have hm30 := RI.open30 (by omega) hl h30
                        have hEx := (hpre hm30).1
                        obtain ⟨z0, z1, z2, z3, z4, z5, z6, _, _, _⟩ := keep10 hEx hH
                        have HD := Lib.hid (fun wr' t hE ht => RI.read (x := x) (wr' := wr') (t := t) 5 (by omega) (by omega) (by omega) hl hy h30 h27 h28 hpre hE (by omega) (by omega) ht)
                        clear he hy h30 h27 h28 hpre hpost hl hm30 hEx y0 y1 y2 r0 r1 r2 p1 f0 f1 f2 hH hH4 HC HSOL
                        unfold vec
                        go_wp2_with fail
                        exact HD.out _ _ (Ext.refl _) (by simp [vec, rval, e77, x0, x1, x4, x5, x6, x7, x8, x9])
                      case s6 =>
                        rintro m ac wr ⟨y, g, A', c', rfl, hy, h30, h27, h28, hpre, hpost⟩ hl he
                        have hm30 := RI.open30 (by omega) hl h30
                        have hEx := (hpre hm30).1
                        have HD := Lib.hid (fun wr' t hE ht => RI.read (x := x) (wr' := wr') (t := t) 6 (by omega) (by omega) (by omega) hl hy h30 h27 h28 hpre hE (by omega) (by omega) ht)
                        clear he hy h30 h27 h28 hpre hpost hl hm30 hEx y0 y1 y2 r0 r1 r2 p1 f0 f1 f2 hH hH4 HC HSOL
                        unfold vec
                        go_wp2_with fail
                        exact HD.out _ _ (Ext.refl _) (by simp [vec, rval, x0, x1, x4, x5, x6, x7, x8, x9])
                      case s7 =>
                        rintro m ac wr ⟨y, g, A', c', rfl, hy, h30, h27, h28, hpre, hpost⟩ hl he
                        have hm30 := RI.open30 (by omega) hl h30
                        have hEx := (hpre hm30).1
                        have HD := Lib.hid (fun wr' t hE ht => RI.read (x := x) (wr' := wr') (t := t) 7 (by omega) (by omega) (by omega) hl hy h30 h27 h28 hpre hE (by omega) (by omega) ht)
                        clear he hy h30 h27 h28 hpre hpost hl hm30 hEx y0 y1 y2 r0 r1 r2 p1 f0 f1 f2 hH hH4 HC HSOL
                        unfold vec
                        go_wp2_with fail
                        exact HD.out _ _ (Ext.refl _) (by simp [vec, rval, x0, x1, x4, x5, x6, x7, x8, x9])
                      case s8 =>
                        rintro m ac wr ⟨y, g, A', c', rfl, hy, h30, h27, h28, hpre, hpost⟩ hl he
                        simp [Region.binds] at he
                        have e79 : y 79 = .slice (some ⟨tb, toff, none⟩) ts.length c := hy 6 (by omega) he.1
                        have e80 : y 80 = .int .i64 (j : Int) := hy 7 (by omega) he.2
                        have hm30 := RI.open30 (by omega) hl h30
                        have hEx := (hpre hm30).1
                        have HD := Lib.hid (fun wr' t hE ht => RI.read (x := x) (wr' := wr') (t := t) 8 (by omega) (by omega) (by omega) hl hy h30 h27 h28 hpre hE (by omega) (by omega) ht)
                        clear he hy h30 h27 h28 hpre hpost hl hm30 hEx y0 y1 y2 r0 r1 r2 p1 f0 f1 f2 hH hH4 HC HSOL
                        unfold vec
                        go_wp2_with fail
                        exact HD.out _ _ (Ext.refl _) (by simp [vec, rval, e79, e80, x0, x1, x4, x5, x6, x7, x8, x9])
                      case s9 =>
                        rintro m ac wr ⟨y, g, A', c', rfl, hy, h30, h27, h28, hpre, hpost⟩ hl he
                        simp [Region.binds] at he
                        have e81 : y 81 = .pointer (some ⟨tb, toff + j * 2, none⟩) := hy 8 (by omega) he
                        have hm30 := RI.open30 (by omega) hl h30
                        have hEx := (hpre hm30).1
                        have HD := Lib.hid (fun wr' t hE ht => RI.read (x := x) (wr' := wr') (t := t) 9 (by omega) (by omega) (by omega) hl hy h30 h27 h28 hpre hE (by omega) (by omega) ht)
                        clear he hy h30 h27 h28 hpre hpost hl hm30 hEx y0 y1 y2 r0 r1 r2 p1 f0 f1 f2 hH hH4 HC HSOL
                        unfold vec
                        go_wp2_with fail
                        exact HD.out _ _ (Ext.refl _) (by simp [vec, rval, e81, x0, x1, x4, x5, x6, x7, x8, x9])
                      case s10 =>
                        rintro m ac wr ⟨y, g, A', c', rfl, hy, h30, h27, h28, hpre, hpost⟩ hl he
                        simp [Region.binds] at he
                        have e82 : y 82 = .pointer (some ⟨tb, toff + j * 2 + 1, none⟩) := hy 9 (by omega) he
                        have hm30 := RI.open30 (by omega) hl h30
                        have hEx := (hpre hm30).1
                        obtain ⟨z0, z1, z2, z3, z4, z5, z6, _, _, _⟩ := keep10 hEx hH
                        have HD := Lib.hid (fun wr' t hE ht => RI.read (x := x) (wr' := wr') (t := t) 10 (by omega) (by omega) (by omega) hl hy h30 h27 h28 hpre hE (by omega) (by omega) ht)
                        clear he hy h30 h27 h28 hpre hpost hl hm30 hEx y0 y1 y2 r0 r1 r2 p1 f0 f1 f2 hH hH4 HC HSOL
                        unfold vec
                        go_wp2_with fail
                        exact HD.out _ _ (Ext.refl _) (by simp [vec, rval, e82, x0, x1, x4, x5, x6, x7, x8, x9])
                      case s11 =>
                        rintro m ac wr ⟨y, g, A', c', rfl, hy, h30, h27, h28, hpre, hpost⟩ hl he
                        have hm30 := RI.open30 (by omega) hl h30
                        have hEx := (hpre hm30).1
                        have HD := Lib.hid (fun wr' t hE ht => RI.read (x := x) (wr' := wr') (t := t) 11 (by omega) (by omega) (by omega) hl hy h30 h27 h28 hpre hE (by omega) (by omega) ht)
                        clear he hy h30 h27 h28 hpre hpost hl hm30 hEx y0 y1 y2 r0 r1 r2 p1 f0 f1 f2 hH hH4 HC HSOL
                        unfold vec
                        go_wp2_with fail
                        exact HD.out _ _ (Ext.refl _) (by simp [vec, rval, x0, x1, x4, x5, x6, x7, x8, x9])
                      case s12 =>
                        rintro m ac wr ⟨y, g, A', c', rfl, hy, h30, h27, h28, hpre, hpost⟩ hl he
                        have hm30 := RI.open30 (by omega) hl h30
                        have hEx := (hpre hm30).1
                        have HD := Lib.hid (fun wr' t hE ht => RI.read (x := x) (wr' := wr') (t := t) 12 (by omega) (by omega) (by omega) hl hy h30 h27 h28 hpre hE (by omega) (by omega) ht)
                        clear he hy h30 h27 h28 hpre hpost hl hm30 hEx y0 y1 y2 r0 r1 r2 p1 f0 f1 f2 hH hH4 HC HSOL
                        unfold vec
                        go_wp2_with fail
                        exact HD.out _ _ (Ext.refl _) (by simp [vec, rval, x0, x1, x4, x5, x6, x7, x8, x9])
                      case s13 =>
                        rintro m ac wr ⟨y, g, A', c', rfl, hy, h30, h27, h28, hpre, hpost⟩ hl he
                        simp [Region.binds] at he
                        have e85 : y 85 = .int .i64 (j : Int) := hy 12 (by omega) he
                        have hm30 := RI.open30 (by omega) hl h30
                        have hEx := (hpre hm30).1
                        have HD := Lib.hid (fun wr' t hE ht => RI.read (x := x) (wr' := wr') (t := t) 13 (by omega) (by omega) (by omega) hl hy h30 h27 h28 hpre hE (by omega) (by omega) ht)
                        clear he hy h30 h27 h28 hpre hpost hl hm30 hEx y0 y1 y2 r0 r1 r2 p1 f0 f1 f2 hH hH4 HC HSOL
                        unfold vec
                        go_wp2_with fail
                        exact HD.out _ _ (Ext.refl _) (by simp [vec, rval, e85, x0, x1, x4, x5, x6, x7, x8, x9])
                      case s14 =>
                        rintro m ac wr ⟨y, g, A', c', rfl, hy, h30, h27, h28, hpre, hpost⟩ hl he
                        simp [Region.binds] at he
                        have e84 : y 84 = .slice (some ⟨gT, 0, none⟩) (ts.length + 1) (ts.length + 1) := hy 11 (by omega) he.1
                        have e86 : y 86 = .int .i64 ((j : Int) + 1) := hy 13 (by omega) he.2
                        have hm30 := RI.open30 (by omega) hl h30
                        have hEx := (hpre hm30).1
                        have HD := Lib.hid (fun wr' t hE ht => RI.read (x := x) (wr' := wr') (t := t) 14 (by omega) (by omega) (by omega) hl hy h30 h27 h28 hpre hE (by omega) (by omega) ht)
                        clear he hy h30 h27 h28 hpre hpost hl hm30 hEx y0 y1 y2 r0 r1 r2 p1 f0 f1 f2 hH hH4 HC HSOL
                        unfold vec
                        go_wp2_with fail
                        exact HD.out _ _ (Ext.refl _) (by simp [vec, rval, e84, e86, x0, x1, x4, x5, x6, x7, x8, x9])
                      case s15 =>
                        rintro m ac wr ⟨y, g, A', c', rfl, hy, h30, h27, h28, hpre, hpost⟩ hl he
                        simp [Region.binds] at he
                        have e87 : y 87 = .pointer (some ⟨gT, (j + 1) * 3, none⟩) := hy 14 (by omega) he
                        have hm30 := RI.open30 (by omega) hl h30
                        have hEx := (hpre hm30).1
                        have HD := Lib.hid (fun wr' t hE ht => RI.read (x := x) (wr' := wr') (t := t) 15 (by omega) (by omega) (by omega) hl hy h30 h27 h28 hpre hE (by omega) (by omega) ht)
                        clear he hy h30 h27 h28 hpre hpost hl hm30 hEx y0 y1 y2 r0 r1 r2 p1 f0 f1 f2 hH hH4 HC HSOL
                        unfold vec
                        go_wp2_with fail
                        exact HD.out _ _ (Ext.refl _) (by simp [vec, rval, e87, x0, x1, x4, x5, x6, x7, x8, x9])
                      case s16 =>
                        rintro m ac wr ⟨y, g, A', c', rfl, hy, h30, h27, h28, hpre, hpost⟩ hl he
                        simp [Region.binds] at he
                        have e88 : y 88 = .pointer (some ⟨gT, (j + 1) * 3 + 1, none⟩) := hy 15 (by omega) he
                        have hm30 := RI.open30 (by omega) hl h30
                        have hEx := (hpre hm30).1
                        obtain ⟨z0, z1, z2, z3, z4, z5, z6, _, _, _⟩ := keep10 hEx hH
                        have HD := Lib.hid (fun wr' t hE ht => RI.read (x := x) (wr' := wr') (t := t) 16 (by omega) (by omega) (by omega) hl hy h30 h27 h28 hpre hE (by omega) (by omega) ht)
                        clear he hy h30 h27 h28 hpre hpost hl hm30 hEx y0 y1 y2 r0 r1 r2 p1 f0 f1 f2 hH hH4 HC HSOL
                        unfold vec
                        go_wp2_with fail
                        exact HD.out _ _ (Ext.refl _) (by simp [vec, rval, e88, x0, x1, x4, x5, x6, x7, x8, x9])
                      case s17 =>
                        rintro m ac wr ⟨y, g, A', c', rfl, hy, h30, h27, h28, hpre, hpost⟩ hl he
                        simp [Region.binds] at he
                        have e83 : y 83 = .int .i64 t.cost := hy 10 (by omega) he.1
                        have e89 : y 89 = .int .i64 R.cost := hy 16 (by omega) he.2
                        have hm30 := RI.open30 (by omega) hl h30
                        have hEx := (hpre hm30).1
                        have HD := Lib.hid (fun wr' t hE ht => RI.read (x := x) (wr' := wr') (t := t) 17 (by omega) (by omega) (by omega) hl hy h30 h27 h28 hpre hE (by omega) (by omega) ht)
                        clear he hy h30 h27 h28 hpre hpost hl hm30 hEx y0 y1 y2 r0 r1 r2 p1 f0 f1 f2 hH hH4 HC HSOL
                        unfold vec
                        go_wp2_with fail
                        exact HD.out _ _ (Ext.refl _) (by simp [vec, rval, e83, e89, x0, x1, x4, x5, x6, x7, x8, x9])
                      case s18 =>
                        rintro m ac wr ⟨y, g, A', c', rfl, hy, h30, h27, h28, hpre, hpost⟩ hl he
                        have hm30 := RI.open30 (by omega) hl h30
                        have hEx := (hpre hm30).1
                        have HD := Lib.hid (fun wr' t hE ht => RI.read (x := x) (wr' := wr') (t := t) 18 (by omega) (by omega) (by omega) hl hy h30 h27 h28 hpre hE (by omega) (by omega) ht)
                        clear he hy h30 h27 h28 hpre hpost hl hm30 hEx y0 y1 y2 r0 r1 r2 p1 f0 f1 f2 hH hH4 HC HSOL
                        unfold vec
                        go_wp2_with fail
                        exact HD.out _ _ (Ext.refl _) (by simp [vec, rval, x0, x1, x4, x5, x6, x7, x8, x9])
                      case s19 =>
                        rintro m ac wr ⟨y, g, A', c', rfl, hy, h30, h27, h28, hpre, hpost⟩ hl he
                        simp [Region.binds] at he
                        have e91 : y 91 = .int .i64 (j : Int) := hy 18 (by omega) he
                        have hm30 := RI.open30 (by omega) hl h30
                        have hEx := (hpre hm30).1
                        have HD := Lib.hid (fun wr' t g' hE hg hb ht => RI.built (x := x) (wr' := wr') (g' := g') (t := t) hl hy h30 h27 h28 hpre hE hg hb ht)
                        clear he hy h30 h27 h28 hpre hpost hl hm30 hEx y0 y1 y2 r0 r1 r2 p1 f0 f1 f2 hH hH4 HC HSOL
                        unfold vec
                        go_wp2_with fail
                        exact HD.out _ _ _ ((Ext.refl wr).allocs _) rfl (Blk.new _ _ _) (by simp [vec, e91, x0, x1, x4, x5, x6, x7, x8, x9])
                      case s20 =>
                        rintro m ac wr ⟨y, g, A', c', rfl, hy, h30, h27, h28, hpre, hpost⟩ hl he
                        have hm30 := RI.open30 (by omega) hl h30
                        have hEx := (hpre hm30).1
                        have HD := Lib.hid (fun wr' t hE ht => RI.read (x := x) (wr' := wr') (t := t) 20 (by omega) (by omega) (by omega) hl hy h30 h27 h28 hpre hE (by omega) (by omega) ht)
                        clear he hy h30 h27 h28 hpre hpost hl hm30 hEx y0 y1 y2 r0 r1 r2 p1 f0 f1 f2 hH hH4 HC HSOL
                        unfold vec
                        go_wp2_with fail
                        exact HD.out _ _ (Ext.refl _) (by simp [vec, rval, x0, x1, x4, x5, x6, x7, x8, x9])
                      case s21 =>
                        rintro m ac wr ⟨y, g, A', c', rfl, hy, h30, h27, h28, hpre, hpost⟩ hl he
                        have hm30 := RI.open30 (by omega) hl h30
                        have hEx := (hpre hm30).1
                        have HD := Lib.hid (fun wr' t hE ht => RI.read (x := x) (wr' := wr') (t := t) 21 (by omega) (by omega) (by omega) hl hy h30 h27 h28 hpre hE (by omega) (by omega) ht)
                        clear he hy h30 h27 h28 hpre hpost hl hm30 hEx y0 y1 y2 r0 r1 r2 p1 f0 f1 f2 hH hH4 HC HSOL
                        unfold vec
                        go_wp2_with fail
                        exact HD.out _ _ (Ext.refl _) (by simp [vec, rval, x0, x1, x4, x5, x6, x7, x8, x9])
                      case s22 =>
                        rintro m ac wr ⟨y, g, A', c', rfl, hy, h30, h27, h28, hpre, hpost⟩ hl he
                        simp [Region.binds] at he
                        have e94 : y 94 = .int .i64 (j : Int) := hy 21 (by omega) he
                        have hm30 := RI.open30 (by omega) hl h30
                        have hEx := (hpre hm30).1
                        have HD := Lib.hid (fun wr' t hE ht => RI.read (x := x) (wr' := wr') (t := t) 22 (by omega) (by omega) (by omega) hl hy h30 h27 h28 hpre hE (by omega) (by omega) ht)
                        clear he hy h30 h27 h28 hpre hpost hl hm30 hEx y0 y1 y2 r0 r1 r2 p1 f0 f1 f2 hH hH4 HC HSOL
                        unfold vec
                        go_wp2_with fail
                        exact HD.out _ _ (Ext.refl _) (by simp [vec, rval, e94, x0, x1, x4, x5, x6, x7, x8, x9])
                      case s23 =>
                        rintro m ac wr ⟨y, g, A', c', rfl, hy, h30, h27, h28, hpre, hpost⟩ hl he
                        simp [Region.binds] at he
                        have e93 : y 93 = .slice (some ⟨gT, 0, none⟩) (ts.length + 1) (ts.length + 1) := hy 20 (by omega) he.1
                        have e95 : y 95 = .int .i64 ((j : Int) + 1) := hy 22 (by omega) he.2
                        have hm30 := RI.open30 (by omega) hl h30
                        have hEx := (hpre hm30).1
                        have HD := Lib.hid (fun wr' t hE ht => RI.read (x := x) (wr' := wr') (t := t) 23 (by omega) (by omega) (by omega) hl hy h30 h27 h28 hpre hE (by omega) (by omega) ht)
                        clear he hy h30 h27 h28 hpre hpost hl hm30 hEx y0 y1 y2 r0 r1 r2 p1 f0 f1 f2 hH hH4 HC HSOL
                        unfold vec
                        go_wp2_with fail
                        exact HD.out _ _ (Ext.refl _) (by simp [vec, rval, e93, e95, x0, x1, x4, x5, x6, x7, x8, x9])
                      case s24 =>
                        rintro m ac wr ⟨y, g, A', c', rfl, hy, h30, h27, h28, hpre, hpost⟩ hl he
                        simp [Region.binds] at he
                        have e96 : y 96 = .pointer (some ⟨gT, (j + 1) * 3, none⟩) := hy 23 (by omega) he
                        have hm30 := RI.open30 (by omega) hl h30
                        have hEx := (hpre hm30).1
                        have HD := Lib.hid (fun wr' t hE ht => RI.read (x := x) (wr' := wr') (t := t) 24 (by omega) (by omega) (by omega) hl hy h30 h27 h28 hpre hE (by omega) (by omega) ht)
                        clear he hy h30 h27 h28 hpre hpost hl hm30 hEx y0 y1 y2 r0 r1 r2 p1 f0 f1 f2 hH hH4 HC HSOL
                        unfold vec
                        go_wp2_with fail
                        exact HD.out _ _ (Ext.refl _) (by simp [vec, rval, e96, x0, x1, x4, x5, x6, x7, x8, x9])
                      case s25 =>
                        rintro m ac wr ⟨y, g, A', c', rfl, hy, h30, h27, h28, hpre, hpost⟩ hl he
                        simp [Region.binds] at he
                        have e97 : y 97 = .pointer (some ⟨gT, (j + 1) * 3 + 2, none⟩) := hy 24 (by omega) he
                        have hm30 := RI.open30 (by omega) hl h30
                        have hEx := (hpre hm30).1
                        obtain ⟨z0, z1, z2, z3, z4, z5, z6, _, _, _⟩ := keep10 hEx hH
                        have HD := Lib.hid (fun wr' t hE ht => RI.read (x := x) (wr' := wr') (t := t) 25 (by omega) (by omega) (by omega) hl hy h30 h27 h28 hpre hE (by omega) (by omega) ht)
                        clear he hy h30 h27 h28 hpre hpost hl hm30 hEx y0 y1 y2 r0 r1 r2 p1 f0 f1 f2 hH hH4 HC HSOL
                        unfold vec
                        go_wp2_with fail
                        exact HD.out _ _ (Ext.refl _) (by simp [vec, rval, e97, x0, x1, x4, x5, x6, x7, x8, x9])
                      case s26 =>
                        rintro m ac wr ⟨y, g, A', c', rfl, hy, h30, h27, h28, hpre, hpost⟩ hl he
                        simp [Region.binds] at he
                        have e92 : y 92 = .slice (some ⟨g, 0, none⟩) 1 1 := hy 19 (by omega) he.1
                        have e98 : y 98 = .slice R.A R.L.length R.c := hy 25 (by omega) he.2
                        have hm30 := RI.open30 (by omega) hl h30
                        have hEx := (hpre hm30).1
                        have hb := ((hpre hm30).2.1 he.1).2 hl
                        have hg := ((hpre hm30).2.1 he.1).1
                        refine wpList_plain rfl fun K hK => wp_cons wc wr (.tmp 92) (.tmp 98) rfl (j : Int) R.L g R.A R.c (by simp [Act.eval, vec, e92]) (by simp [Act.eval, vec, e98]) hb (HRF.out.1.ext hEx) (by omega) hEx hg (fun A2 c2 w2 q1 q2 q3 => hK _ _ ?_)
                        exact RI.appended (A2 := A2) (c2 := c2) hl he.1 hy h30 h27 h28 hpre q1 q2 q3 (by simp [vec])
                      case s27 =>
                        rintro m ac wr ⟨y, g, A', c', rfl, hy, h30, h27, h28, hpre, hpost⟩ hl he
                        simp [Region.binds] at he
                        have e90 : y 90 = .int .i64 (t.cost + R.cost) := hy 17 (by omega) he.1
                        have e99 : y 99 = .slice A' (R.L.length + 1) c' := hy 26 (by omega) he.2
                        have hm30 := RI.open30 (by omega) hl h30
                        have hEx := (hpre hm30).1
                        have HD := Lib.hid (fun wr' t hE ht => RI.read (x := x) (wr' := wr') (t := t) 27 (by omega) (by omega) (by omega) hl hy h30 h27 h28 hpre hE (fun _ => he.2) (by omega) ht)
                        clear he hy h30 h27 h28 hpre hpost hl hm30 hEx y0 y1 y2 r0 r1 r2 p1 f0 f1 f2 hH hH4 HC HSOL
                        unfold vec
                        go_wp2_with fail
                        exact HD.out _ _ (Ext.refl _) (by simp [vec, rval, e90, e99, x0, x1, x4, x5, x6, x7, x8, x9])
                      case s28 =>
                        rintro m ac wr ⟨y, g, A', c', rfl, hy, h30, h27, h28, hpre, hpost⟩ hl he
                        simp [Region.binds] at he
                        have e78 : y 78 = p.val := hy 5 (by omega) he.1
                        have e100 : y 100 = .agg #[.bool true, .int .i64 (t.cost + R.cost), .slice A' (R.L.length + 1) c'] := hy 27 (by omega) he.2.1
                        have hm30 := RI.open30 (by omega) hl h30
                        have hEx := (hpre hm30).1
                        have HD := Lib.hid (fun wr' t hE ht => RI.read (x := x) (wr' := wr') (t := t) 28 (by omega) (by omega) (by omega) hl hy h30 h27 h28 hpre hE (by omega) (fun _ => he.2.1) ht)
                        have hsg := ((hpre hm30).2.2 (h27 he.2.1)).1
                        clear he hy h30 h27 h28 hpre hpost hl hm30 y0 y1 y2 r0 r1 r2 p1 f0 f1 f2 hH hH4 HSOL
                        unfold vec
                        rcases v with _ | _
                        · go_wp2_with (go_at_call 57; refine (HC.out _ _ _ hsg (HPF.out.1.ext hEx)).mono ?_; rintro e w7 ⟨rfl, hE7⟩)
                          exact HD.out _ _ hE7 (by simp [vec, rval, e78, e100, x0, x1, x4, x5, x6, x7, x8, x9])
                        · go_wp2_with (go_at_call 57; refine (HC.out _ _ _ hsg (HPF.out.1.ext hEx)).mono ?_; rintro e w7 ⟨rfl, hE7⟩)
                          exact HD.out _ _ hE7 (by simp [vec, rval, e78, e100, x0, x1, x4, x5, x6, x7, x8, x9])
                      case s29 =>
                        rintro m ac wr ⟨y, g, A', c', rfl, hy, h30, h27, h28, hpre, hpost⟩ hl he
                        simp [Region.binds] at he
                        have e73 : y 73 = .slice (some ⟨gT, 0, none⟩) (ts.length + 1) (ts.length + 1) := hy 0 (by omega) he.1
                        have e74 : y 74 = .int .i64 (i : Int) := hy 1 (by omega) he.2.1
                        have hm30 := RI.open30 (by omega) hl h30
                        have hEx := (hpre hm30).1
                        have HD := Lib.hid (fun wr' t hE ht => RI.read (x := x) (wr' := wr') (t := t) 29 (by omega) (by omega) (by omega) hl hy h30 h27 h28 hpre hE (by omega) (by omega) ht)
                        clear he hy h30 h27 h28 hpre hpost hl hm30 hEx y0 y1 y2 r0 r1 r2 p1 f0 f1 f2 hH hH4 HC HSOL
                        unfold vec
                        go_wp2_with fail
                        exact HD.out _ _ (Ext.refl _) (by simp [vec, rval, e73, e74, x0, x1, x4, x5, x6, x7, x8, x9])
                      case s30 =>
                        rintro m ac wr ⟨y, g, A', c', rfl, hy, h30, h27, h28, hpre, hpost⟩ hl he
                        simp [Region.binds] at he
                        have hall : ∀ k, k ≤ 29 → m k = true := by
                          intro k hk
                          rcases (show k = 0 ∨ k = 1 ∨ k = 2 ∨ k = 3 ∨ k = 4 ∨ k = 5 ∨ k = 6 ∨ k = 7 ∨ k = 8 ∨ k = 9 ∨ k = 10 ∨ k = 11 ∨ k = 12 ∨ k = 13 ∨ k = 14 ∨ k = 15 ∨ k = 16 ∨ k = 17 ∨ k = 18 ∨ k = 19 ∨ k = 20 ∨ k = 21 ∨ k = 22 ∨ k = 23 ∨ k = 24 ∨ k = 25 ∨ k = 26 ∨ k = 27 ∨ k = 28 ∨ k = 29 by omega) with rfl | rfl | rfl | rfl | rfl | rfl | rfl | rfl | rfl | rfl | rfl | rfl | rfl | rfl | rfl | rfl | rfl | rfl | rfl | rfl | rfl | rfl | rfl | rfl | rfl | rfl | rfl | rfl | rfl | rfl <;> simp [he]
                        have e102 : y 102 = .pointer (some ⟨gT, i * 3, none⟩) := hy 29 (by omega) (hall 29 (by omega))
                        have e101 : y 101 = (if v then .agg #[.bool true, .int .i64 (t.cost + R.cost), .slice A' (R.L.length + 1) c'] else p.val) := hy 28 (by omega) (hall 28 (by omega))
                        have hEx := (hpre hl).1
                        obtain ⟨z0, z1, z2, _, _, _, _, g0, g1, g2⟩ := keep10 hEx hH
                        have HD := Lib.hid (fun wr' t hw ht => RI.stored (x := x) (wr' := wr') (t := t) hl hall hy h30 h27 h28 hpre hw ht)
                        clear he hall hy h30 h27 h28 hpre hpost hl hEx y0 y1 y2 r0 r1 r2 p1 f0 f1 f2 hH hH4 HC HSOL
                        unfold vec
                        cases v
                        · rw [show (if false = true then (.agg #[.bool true, .int .i64 (t.cost + R.cost), .slice A' (R.L.length + 1) c'] : Value) else p.val) = p.val from rfl] at e101
                          go_wp2_with fail
                          exact HD.out _ _ rfl (by simp [vec, e101, e102, x0, x1, x4, x5, x6, x7, x8, x9])
                        · rw [show (if true = true then (.agg #[.bool true, .int .i64 (t.cost + R.cost), .slice A' (R.L.length + 1) c'] : Value) else p.val) = .agg #[.bool true, .int .i64 (t.cost + R.cost), .slice A' (R.L.length + 1) c'] from rfl] at e101
                          go_wp2_with fail
                          exact HD.out _ _ rfl (by simp [vec, e101, e102, x0, x1, x4, x5, x6, x7, x8, x9])
              · go_wp2_with fail
                go_roundg (ts.length - (j + 1))
                case measure => (have := HJ.out); omega
                case rel => exact ⟨d + 1, T1, by have := HJ.out; omega, by rw [← HJ.out]; go_num, by rw [HLE.out], by rw [← HJ.out]; rfl, HT.out, hR, HA.out, HZ.out, by rw [HPE.out, ← Nat.add_assoc, HJ.out]; exact HSK.out (fun h => by have := h.1; omega)⟩
        · have hdn : i + d = ts.length := by omega
          rw [decide_eq_true hdn, hdn] at hS
          have HD := Lib.hid (hA.down (sol_all hS))
          have hnij : ¬ i + d < ts.length := by omega
          go_wp2_with fail
          go_roundg (ts.length - (k + 1))
          case measure => omega
          case rel => exact ⟨k + 1, T, by omega, by (have := HI.out); congr 1; push_cast; omega, rfl, hT, hR, by rw [HI.out]; exact HD.out, by rw [HI.out]; exact hZ⟩
    · obtain rfl : k = ts.length := by omega
      rw [Nat.sub_self] at hA
      rw [show ((ts.length : Int) - (ts.length : Int) - 1) = -1 by omega]
      have hS := hA 0 (Nat.le_refl _) (Nat.zero_le _)
      have HV := Lib.hid (sol_divide HF.out HM.out hS)
      have HSB := Lib.hid (hS.bd HF.out (Nat.zero_le _))
      obtain ⟨hE, _, hB, hTl, hfi⟩ := hT
      have hfi0 := Lib.hid (hfi 0 (Nat.zero_le _))
      obtain ⟨y0, y1, y2⟩ := rtab_at hB (x := 0) (by omega)
      rw [Nat.zero_mul] at y0 y1 y2
      generalize T.getD 0 RP.zero = p at *
      have HR5 := Lib.hid (Blk.set3 hR (.bool p.there) (.int .i64 p.cost) (.slice p.A p.L.length p.c))
      have HE5 := Lib.hid (Ext.setCells (g := gT - 1) (by omega) p.cells 0 _ hE)
      have HS5 : Hid (IntSeg (wr.setCells (gT - 1) 0 p.cells) p.A p.L) := hfi0.out.1.keep (by rw [setCells_size]; omega) fun _ ad ha hlt => World.heap_setCells_other wr _ _ _ hlt (by have := hfi0.out.2 ad ha; omega)
      clear hA hZ hS hfi hB
      obtain ⟨r0, r1, r2, q0, q1, q2⟩ := blk3 hR
      go_wp2_with fail
      have hY := HR5.out
      have hE6 : Ext w (((wr.setCell ⟨gT - 1, 0, none⟩ (.bool p.there)).setCell ⟨gT - 1, 1, none⟩ (.int .i64 p.cost)).setCell ⟨gT - 1, 2, none⟩ (.slice p.A p.L.length p.c)) := HE5.out
      have hS6 : IntSeg (((wr.setCell ⟨gT - 1, 0, none⟩ (.bool p.there)).setCell ⟨gT - 1, 1, none⟩ (.int .i64 p.cost)).setCell ⟨gT - 1, 2, none⟩ (.slice p.A p.L.length p.c)) p.A p.L := HS5.out
      clear y0 y1 y2 r0 r1 r2 q0 q1 q2 HR5 HE5 HS5
      generalize ((wr.setCell ⟨gT - 1, 0, none⟩ (.bool p.there)).setCell ⟨gT - 1, 1, none⟩ (.int .i64 p.cost)).setCell ⟨gT - 1, 2, none⟩ (.slice p.A p.L.length p.c) = W5 at hY hE6 hS6 ⊢
      obtain ⟨y0, y1, y2, _⟩ := blk3 hY
      refine bodyPost_ret (v := p.val) (by simp [results, Try.results46, go_sem, y0, y1, y2]) rfl ?_
      exact ⟨p, rfl, hS6, by have := HSB.out.2; omega, hE6, HV.out⟩
end Go.Proofs.Ytddcgholnhhcoaa
