/- The reference's Merge: the walk. No statement of the seat is proved here. -/
import Derived.Test.YthadaahemhamdaaRMerge1
import Derived.Deep.CutRange
namespace Go.Proofs.Ythadaahemhamdaa
open Go.RowKit Go.Sort
set_option linter.unusedVariables false

abbrev zDt : Dt := ⟨0, 0, ⟨0, 0, 0, 0, 0, 0, 0⟩⟩
def MgRel (w : World) (L : List Dt) (g : Nat) (v iv : Value) (wr : World) : Prop := ∃ i : Nat, i ≤ L.length ∧ iv = .int .i64 i ∧ g = L.length - i ∧ Ext w wr ∧ wr.ownsRow w.heap.size 39 9 v (insAll L i).length ((insAll L i).flatMap Dt.cells)
def BxRel (w : World) (v : Value) (out : List Dt) (x : Dt) (s7 : Value) (wx : World) : Prop := ∃ gB, s7 = .pointer (some ⟨gB, 0, none⟩) ∧ Blk wx gB 39 x.cells.toArray ∧ Ext w wx ∧ wx.ownsRow w.heap.size 39 9 v out.length (out.flatMap Dt.cells) ∧ ∀ q, v.ownBlock = some q → q < gB
def KkRel (wc : World) (out : List Dt) (x : Dt) (g : Nat) (kv : Value) (wr : World) : Prop := ∃ k : Nat, k ≤ out.length ∧ kv = .int .i64 k ∧ k = g ∧ Ext wc wr ∧ insK out x out.length = insK out x k
theorem own_lt {w : World} {base : Nat} {e : TypeId} {s n : Nat} {v : Value} {xs : List Value} (h : w.ownsRow base e s v n xs) : ∀ q, v.ownBlock = some q → q < w.heap.size := fun q hq => (h.lt q hq).2
theorem own_extD {w w' : World} {base : Nat} {e : TypeId} {s n : Nat} {v : Value} {xs : List Value} (h : w.ownsRow base e s v n xs) (hE : Ext w w') : w'.ownsRow base e s v n xs := h.kept (ext_grown hE none) (by cases hq : v.ownBlock <;> simp)
theorem getD_lt {l : List Dt} {i : Nat} (d : Dt) (h : i < l.length) : l.getD i d = l[i] := by rw [List.getD_eq_getElem?_getD, List.getElem?_eq_getElem h]; rfl

theorem run_from (w : World) (g n cap l : Nat) (li : Int) (hli : li = l) (hl : l ≤ n) : (Instr.slice 24 (.slice (some ⟨g, 0, none⟩) n cap) (some (.int .i64 li)) none none).run Try.prog w = .ok (.slice (some (if cap = l then ⟨g, 0, none⟩ else ⟨g, l * 9, none⟩)) (n - l) (cap - l)) w := by
  subst hli
  obtain ⟨i0, hi, hz0, hz1, hz2⟩ := info_parts infoDet
  have h1 : (0 : Int) ≤ (l : Int) := by omega
  have h2 : (l : Int) ≤ (n : Int) := by omega
  by_cases hc : cap = l
  · simp [Instr.slice, Instr.sliceBounds, run_underlying Try.underlying24, go_sem, sizeOf, typeInfo, hi, hz1, h1, h2, hc]
  · simp [Instr.slice, Instr.sliceBounds, run_underlying Try.underlying24, go_sem, sizeOf, typeInfo, hi, hz1, h1, h2, hc]
theorem wpList_pushD {ops : Array Oper} {rest : List Oper} {o : Oper} {ac : Act} {Q : Exit → Act → World → Prop} (W : World) (hgd : o.guard = none) (so xo : Operand) (ho : o.op = .call { callee := .builtin .append, args := #[so, xo], argTypes := #[24, 24] })
    (base : Nat) (v : Value) (out : List Dt) (hso : ac.eval so = v) (hown : W.ownsRow base 39 9 v out.length (out.flatMap Dt.cells)) (hxo : ac.eval xo = .slice (some ⟨W.heap.size, 0, none⟩) 1 1) (hl : out.length ≤ 2000) (hbase : base ≤ W.heap.size)
    (h : ∀ g cap w', w'.ownsRow base 39 9 (.slice (some ⟨g, 0, none⟩) (out.length + 1) cap) (out.length + 1) ((out ++ [zDt]).flatMap Dt.cells) → out.length + 1 ≤ cap → cap ≤ maxLen → W.grownBy w' v.ownBlock → (v.ownBlock = some g ∨ W.heap.size < g) → wpList Try.prog ops Q rest (ac.put o.dst (.slice (some ⟨g, 0, none⟩) (out.length + 1) cap)) w') :
    wpList Try.prog ops Q (o :: rest) ac (W.alloc (.cells zDt.cells.toArray 39)) := by
  obtain ⟨i0, hi, hz0, hz1, hz2⟩ := info_parts infoDet
  have hO := own_extD hown ((Ext.refl W).allocs (.cells zDt.cells.toArray 39))
  have hB := Blk.new W 39 zDt.cells.toArray
  refine wpList_append_own_at (P := Try.prog) _ hgd so xo _ ho base _ i0 _ 9 72 Try.underlying24 hi hz0 hz1 hz2 rfl (by omega) v out.length _ hso hO ⟨W.heap.size, 0, none⟩ 1 1 zDt.cells hxo rfl (fun j u hu => ?_) (Dt.one zDt) (by unfold maxLen; omega) (by omega) (by simp; omega) ?_
  · have hadd : (⟨W.heap.size, 0, none⟩ : Addr).add j = ⟨W.heap.size, j, none⟩ := by unfold Addr.add; split <;> simp_all
    rw [hadd, hB.cell]
    simpa using hu
  · intro v' w' hown' hg' _ hblk
    obtain ⟨A', c', rfl, _, hc, hcm⟩ := own_slice hown'
    obtain ⟨g, rfl⟩ : ∃ g, A' = some ⟨g, 0, none⟩ := by
      rcases hown'.2 with ⟨_, h0⟩ | ⟨g, _, _, hv, _⟩
      · omega
      · injection hv with hv _ _
        exact ⟨g, hv⟩
    refine h g c' w' (by rw [List.flatMap_append]; simpa using hown') hc hcm (grown_trans (ext_grown ((Ext.refl W).allocs _) _) hg') ?_
    rcases hblk with hq | hq
    · exact .inl hq.symm
    · right
      simp only [Value.ownBlock, Option.some.injEq] at hq
      rw [hq]
      simp

set_option maxRecDepth 100000 in
set_option maxHeartbeats 3200000 in
theorem rmerge_any (A B : Option Addr) (ca cb : Nat) (a b : List Dt) (w : World) (ha : DtSeg w A a) (hb : DtSeg w B b) (hla : a.length ≤ 500) (hlb : b.length ≤ 500) :
    Calls Try.prog 26 #[.slice A a.length ca, .slice B b.length cb] w (SegPost (stockV (a ++ b)) w) := by
  have hla' : (a.length : Int) ≤ 500 := by omega
  have hlb' : (b.length : Int) ≤ 500 := by omega
  obtain ⟨L, hL⟩ : ∃ L, a ++ b = L := ⟨_, rfl⟩
  have hLl : L.length = a.length + b.length := by rw [← hL, List.length_append]
  have HL := Lib.hid hL
  rw [hL]
  clear hL
  go_enter Try.func26, Try.ntmps26
  go_wp2_with fail
  go_loopg [5, 6] L.length (fun g v iv wr => MgRel w L g v iv wr)
  case atStart => exact ⟨0, Nat.zero_le _, rfl, rfl, Ext.refl _, World.ownsRow_nil _ _ _ _⟩
  case round =>
    obtain ⟨i, hi, rfl, rfl, hE, hown⟩ := hrel
    by_cases hil : i < L.length
    · have HINS : Hid (insAll L (i + 1) = insV (insAll L i) (L.getD i zDt)) := rfl
      have hol := insAll_len L i
      obtain ⟨out, hout⟩ : ∃ out, insAll L i = out := ⟨_, rfl⟩
      rw [hout] at hown HINS hol
      obtain ⟨x, hx⟩ : ∃ x, L.getD i zDt = x := ⟨_, rfl⟩
      rw [hx] at HINS
      have HX := Lib.hid hx
      have HOWN := Lib.hid hown
      clear hout hx hown
      have hiI : (i : Int) < (a.length : Int) + (b.length : Int) := by omega
      go_upto_if 22 with fail
      go_cut [7] from 9 to 76 (fun s7 wx => BxRel w u5 out x s7 wx)
      case first =>
        by_cases hia : i < a.length
        · have hax : a[i] = x := by
            have := HX.out
            rw [← HL.out, getD_lt zDt (by rw [List.length_append]; omega), List.getElem_append_left hia] at this
            exact this
          obtain ⟨tb, toff, rfl, p0, p1, p2, p3, p4, p5, p6, p7, p8⟩ := Dt.at_ (Seg.alloc (ha.ext hE) (.cells #[.int .i64 0, .int .i64 0, .int .i64 0, .int .i64 0, .int .i64 0, .int .i64 0, .int .i64 0, .int .i64 0, .int .i64 0] 39)) hia
          rw [hax] at p0 p1 p2 p3 p4 p5 p6 p7 p8
          go_wp2_with fail
          go_meet
          exact ⟨wr.heap.size, rfl, Blk.new wr 39 x.cells.toArray, hE.allocs _, own_extD HOWN.out ((Ext.refl wr).allocs _), own_lt HOWN.out⟩
        · have hbx : b[i - a.length]'(by omega) = x := by
            have := HX.out
            rw [← HL.out, getD_lt zDt (by rw [List.length_append]; omega), List.getElem_append_right (by omega)] at this
            exact this
          obtain ⟨j, hj⟩ : ∃ j, i = a.length + j := ⟨i - a.length, by omega⟩
          subst hj
          have hjb : j < b.length := by omega
          obtain ⟨tb, toff, rfl, p0, p1, p2, p3, p4, p5, p6, p7, p8⟩ := Dt.at_ (Seg.alloc (hb.ext hE) (.cells #[.int .i64 0, .int .i64 0, .int .i64 0, .int .i64 0, .int .i64 0, .int .i64 0, .int .i64 0, .int .i64 0, .int .i64 0] 39)) hjb
          have hbx' : b[j] = x := by rw [← hbx]; congr 1; omega
          rw [hbx'] at p0 p1 p2 p3 p4 p5 p6 p7 p8
          go_wp2_with fail
          go_meet
          exact ⟨wr.heap.size, rfl, Blk.new wr 39 x.cells.toArray, hE.allocs _, own_extD HOWN.out ((Ext.refl wr).allocs _), own_lt HOWN.out⟩
      case rest =>
        obtain ⟨gB, rfl, hBx, hEc, hownc, hvq⟩ := hcut
        have HOWC := Lib.hid hownc
        have HVQ := Lib.hid hvq
        clear hownc hvq HOWN hE
        obtain ⟨Av, cv, rfl, hsv, hcv, hcvm⟩ := own_slice HOWC.out
        have hol' : (out.length : Int) ≤ 1000 := by omega
        go_wp2_with fail
        go_loopg [8] out.length (fun g kv wr => KkRel wc out x g kv wr)
        case atStart => exact ⟨out.length, Nat.le_refl _, rfl, rfl, Ext.refl _, rfl⟩
        case round =>
          obtain ⟨k, hk, rfl, rfl, hE2, hins⟩ := hrel
          have HI := Lib.hid hins
          clear hins
          have hB2 := hBx.ext hE2
          obtain ⟨b0, b1, b2, b3, b4, b5, b6, b7, b8⟩ := blk9 hB2
          by_cases hk0 : k = 0
          · have HR : Hid (insK out x out.length = k) := by show insK out x out.length = k; rw [HI.out, hk0]; rfl
            have dk : decide (0 < (k : Int)) = false := decide_eq_false (by omega)
            have dkN : decide (0 < k) = false := decide_eq_false (by omega)
            have dkM : ¬ 0 < k := by omega
            have HNS : Hid (insV out x = out.take k ++ x :: out.drop k) := by
              show insV out x = _
              unfold insV
              rw [HR.out, if_neg (by omega)]
            have HK0 := Lib.hid hk0
            clear hk0
            go_upto_region 10 with fail
            go_quiet (fail)
            go_upto_region 12 with fail
            go_quiet (fail)
            go_upto_region 13 with fail
            clear b0 b1 b2 b3 b4 b5 b6 b7 b8
            go_wp2_with (at_builtin; refine wpList_pushD _ rfl _ _ rfl w.heap.size _ out rfl (own_extD HOWC.out (Ext.drewN hE2 _)) rfl (by omega) (Below.size (Ext.trans hEc (Ext.drewN hE2 _))) ?_; intro g6 cap6 w6 hown6 hc6 hc6m hg6 hblk6)
            have hE6 : Ext w w6 := Ext.own (Ext.trans hEc (Ext.drewN hE2 _)) (own_extD HOWC.out (Ext.drewN hE2 _)) (Nat.le_refl _) hg6
            have hB6 : Blk w6 gB 39 x.cells.toArray := (hg6.block gB (Blk.lt (hBx.ext (Ext.drewN hE2 _))) (fun e => absurd (HVQ.out gB e.symm) (Nat.lt_irrefl _))).trans (hBx.ext (Ext.drewN hE2 _))
            have hne6 : g6 ≠ gB := by
              intro e
              rcases hblk6 with h | h
              · have := HVQ.out g6 h; omega
              · exact absurd (Nat.lt_trans (Blk.lt (hBx.ext hE2)) h) (by rw [e]; exact Nat.lt_irrefl _)
            have hRow6 := (row_of_own hown6).1
            have hgw6 := (row_of_own hown6).2
            obtain ⟨X, hX⟩ : ∃ X, out ++ [zDt] = X := ⟨_, rfl⟩
            have hXl : X.length = out.length + 1 := by rw [← hX, List.length_append]; rfl
            rw [hX] at hown6 hRow6
            have HXE := Lib.hid hX
            clear hX hg6 hblk6
            have hkI : (k : Int) ≤ (out.length : Int) := by omega
            have hkI1 : (k : Int) < (out.length : Int) + 1 := by omega
            have hkI0 : (0 : Int) ≤ (k : Int) := by omega
            have hwk : IntKind.i64.wrap ((k : Int) + 1) = (k : Int) + 1 := IntWalk.i64_in _ (by omega)
            have hkJ : (0 : Int) ≤ (k : Int) + 1 := by omega
            have hkJ1 : (k : Int) + 1 ≤ (out.length : Int) + 1 := by omega
            go_upto_region 14 with fail
            have hR7 : Row w6.drew g6 X := hRow6
            have hB7 : Blk w6.drew gB 39 x.cells.toArray := hB6
            have hE7 : Ext w w6.drew := Below.drew hE6
            have hown7 : w6.drew.ownsRow w.heap.size 39 9 (.slice (some ⟨g6, 0, none⟩) (out.length + 1) cap6) (out.length + 1) (X.flatMap Dt.cells) := hown6
            by_cases hkn : k = out.length
            · have HK : Hid (X.set k x = out.take k ++ x :: out.drop k) := by
                show X.set k x = _
                rw [← HXE.out, hkn, List.take_length, List.drop_length, List.set_append_right _ _ (Nat.le_refl _), Nat.sub_self]
                rfl
              have hsl1 := fun w => run_from w g6 (out.length + 1) cap6 (k + 1) ((k : Int) + 1) (by omega) (by omega)
              have hsl2 := fun w => run_from w g6 (out.length + 1) cap6 k (k : Int) rfl (by omega)
              rw [show out.length + 1 - (k + 1) = 0 by omega] at hsl1
              generalize (if cap6 = k + 1 then (⟨g6, 0, none⟩ : Addr) else ⟨g6, (k + 1) * 9, none⟩) = D1 at hsl1
              generalize (if cap6 = k then (⟨g6, 0, none⟩ : Addr) else ⟨g6, k * 9, none⟩) = S1 at hsl2
              have hcp := fun w d s dc sl sc => run_copy_none w 3 d s dc sl sc
              have HKN := Lib.hid hkn
              clear hkn
              go_still_tail 7, (by kernel_rfl)
              change wpList _ _ _ _ _ w6.drew
              have hkX : k < X.length := by omega
              have HO8 : Hid ((w6.drew.setCells g6 (k * 9) x.cells).ownsRow w.heap.size 39 9 (.slice (some ⟨g6, 0, none⟩) (out.length + 1) cap6) (out.length + 1) ((X.set k x).flatMap Dt.cells)) := by
                have := own_sets hown7 (o := k * 9) (vs := x.cells) (by rw [flat_len Dt.cells 9 Dt.len, Dt.len]; omega)
                rw [setAll_flat Dt.cells 9 (by omega) Dt.len X k x hkX] at this
                exact this
              have HE8 : Hid (Ext w (w6.drew.setCells g6 (k * 9) x.cells)) := Ext.grownRow hE7 hgw6 (grownRow_sets _ _ _ _)
              obtain ⟨c0, c1, c2, c3, c4, c5, c6, c7, c8⟩ := Row.at_ hR7 hkX
              obtain ⟨f0, f1, f2, f3, f4, f5, f6, f7, f8⟩ := Row.frz hR7 hkX
              obtain ⟨t0, t1, t2, t3, t4, t5, t6, t7, t8⟩ := blk9 hB7
              generalize X[k] = zz at c0 c1 c2 c3 c4 c5 c6 c7 c8
              clear hR7 hB7 hE7 hown7 hown6 hRow6 hB6 hE6
              generalize w6.drew = w7 at *
              go_wp2_with fail
              go_roundg (L.length - (i + 1))
              case measure => omega
              case rel => exact ⟨i + 1, by omega, by go_num, rfl, HE8.out, by rw [HINS.out, HNS.out, ← HK.out, List.length_set, hXl]; exact HO8.out⟩
            · have hkn' : k < out.length := by omega
              have HK : Hid ((X.take (k + 1) ++ (X.drop k).take (out.length - k)).set k x = out.take k ++ x :: out.drop k) := by
                show (X.take (k + 1) ++ (X.drop k).take (out.length - k)).set k x = _
                have e1 : (out ++ [zDt]).take (k + 1) = out.take (k + 1) := List.take_append_of_le_length (by omega)
                have e2 : ((out ++ [zDt]).drop k).take (out.length - k) = out.drop k := by rw [List.drop_append_of_le_length (by omega), List.take_append_of_le_length (by rw [List.length_drop]; omega), List.take_of_length_le (by rw [List.length_drop]; omega)]
                rw [← HXE.out, e1, e2]
                exact ins_list x hkn'
              have hsl1 := fun w => run_from w g6 (out.length + 1) cap6 (k + 1) ((k : Int) + 1) (by omega) (by omega)
              have hsl2 := fun w => run_from w g6 (out.length + 1) cap6 k (k : Int) rfl (by omega)
              rw [show out.length + 1 - (k + 1) = out.length - k by omega, if_neg (show ¬ cap6 = k + 1 by omega)] at hsl1
              rw [if_neg (show ¬ cap6 = k by omega)] at hsl2
              have hcp := run_copy_det w6.drew 3 g6 k out.length (cap6 - (k + 1)) (cap6 - k) X hR7 hXl hkn'
              have hYl : ((X.drop k).take (out.length - k)).length = out.length - k := by rw [List.length_take, List.length_drop]; omega
              have hO8 : (w6.drew.setCells g6 ((k + 1) * 9) (((X.drop k).take (out.length - k)).flatMap Dt.cells)).ownsRow w.heap.size 39 9 (.slice (some ⟨g6, 0, none⟩) (out.length + 1) cap6) (out.length + 1) ((X.take (k + 1) ++ (X.drop k).take (out.length - k)).flatMap Dt.cells) := by
                have := own_sets hown7 (o := (k + 1) * 9) (vs := ((X.drop k).take (out.length - k)).flatMap Dt.cells) (by rw [flat_len Dt.cells 9 Dt.len, flat_len Dt.cells 9 Dt.len, hYl]; omega)
                rw [setAll_flats X ((X.drop k).take (out.length - k)) (k + 1) (by rw [hYl]; omega), hYl, show X.drop (k + 1 + (out.length - k)) = [] from List.drop_eq_nil_of_le (by omega), List.append_nil] at this
                exact this
              have hE8 : Ext w (w6.drew.setCells g6 ((k + 1) * 9) (((X.drop k).take (out.length - k)).flatMap Dt.cells)) := Ext.grownRow hE7 hgw6 (grownRow_sets _ _ _ _)
              have hB8 : Blk (w6.drew.setCells g6 ((k + 1) * 9) (((X.drop k).take (out.length - k)).flatMap Dt.cells)) gB 39 x.cells.toArray := (World.heap_setCells_other _ g6 _ _ hB7.lt (fun e => hne6 e.symm)).trans hB7
              obtain ⟨Y, hY⟩ : ∃ Y, X.take (k + 1) ++ (X.drop k).take (out.length - k) = Y := ⟨_, rfl⟩
              have hYY : Y.length = out.length + 1 := by rw [← hY, List.length_append, hYl, List.length_take]; omega
              rw [hY] at HK hO8
              have HKN := Lib.hid hkn
              clear hkn hY hYl
              go_still_tail 7, (by kernel_rfl)
              change wpList _ _ _ _ _ w6.drew
              obtain ⟨w8, hw8⟩ : ∃ w8, w6.drew.setCells g6 ((k + 1) * 9) (((X.drop k).take (out.length - k)).flatMap Dt.cells) = w8 := ⟨_, rfl⟩
              rw [hw8] at hcp hO8 hE8 hB8
              clear hw8
              have hkX : k < Y.length := by omega
              have hR8 := (row_of_own hO8).1
              have HO9 : Hid ((w8.setCells g6 (k * 9) x.cells).ownsRow w.heap.size 39 9 (.slice (some ⟨g6, 0, none⟩) (out.length + 1) cap6) (out.length + 1) ((Y.set k x).flatMap Dt.cells)) := by
                have := own_sets hO8 (o := k * 9) (vs := x.cells) (by rw [flat_len Dt.cells 9 Dt.len, Dt.len]; omega)
                rw [setAll_flat Dt.cells 9 (by omega) Dt.len Y k x hkX] at this
                exact this
              have HE9 : Hid (Ext w (w8.setCells g6 (k * 9) x.cells)) := Ext.grownRow hE8 hgw6 (grownRow_sets _ _ _ _)
              obtain ⟨c0, c1, c2, c3, c4, c5, c6, c7, c8⟩ := Row.at_ hR8 hkX
              obtain ⟨f0, f1, f2, f3, f4, f5, f6, f7, f8⟩ := Row.frz hR8 hkX
              obtain ⟨t0, t1, t2, t3, t4, t5, t6, t7, t8⟩ := blk9 hB8
              generalize Y[k] = zz at c0 c1 c2 c3 c4 c5 c6 c7 c8
              clear hR7 hB7 hE7 hown7 hown6 hRow6 hB6 hE6 hO8 hE8 hB8 hR8
              generalize w6.drew = w7 at *
              go_wp2_with fail
              go_roundg (L.length - (i + 1))
              case measure => omega
              case rel => exact ⟨i + 1, by omega, by go_num, rfl, HE9.out, by rw [HINS.out, HNS.out, ← HK.out, List.length_set, hYY]; exact HO9.out⟩
          · obtain ⟨j, hj⟩ : ∃ j, k = j + 1 := ⟨k - 1, by omega⟩
            subst hj
            obtain ⟨g, rfl⟩ : ∃ g, Av = some ⟨g, 0, none⟩ := by
              rcases HOWC.out.2 with ⟨_, h⟩ | ⟨g, _, _, hv, _⟩
              · omega
              · injection hv with hv _ _
                exact ⟨g, hv⟩
            have hjl : j < out.length := by omega
            obtain ⟨y, hy⟩ : ∃ y, out[j] = y := ⟨_, rfl⟩
            have HSTEP : Hid (insK out x (j + 1) = if 0 < cmpD y x then insK out x j else j + 1) := by
              show insK out x (j + 1) = _
              rw [insK, getD_lt x hjl, hy]
            have hD := hsv.ext hE2
            have fX := fun d os => grownS hD hjl hy d os
            have fB := fun d os => blk9 (hB2.ext (below_regrown wr d os))
            have CXY := Lib.hid (compare_ref y x)
            have hb1 := cmpD_bd y x
            obtain ⟨v1, e1⟩ : ∃ v, cmpD y x = v := ⟨_, rfl⟩
            rw [e1] at CXY hb1 HSTEP
            have HD := Lib.hid hD
            have HB2 := Lib.hid hB2
            have HY := Lib.hid hy
            have hj0 : (0 : Int) ≤ (j : Int) := by omega
            have hj1 : (j : Int) < (out.length : Int) := by omega
            have dk : decide (0 < (j : Int) + 1) = true := decide_eq_true (by omega)
            clear hy hD hB2 b0 b1 b2 b3 b4 b5 b6 b7 b8
            by_cases q1 : 0 < v1
            · have d1 : decide (0 < v1) = true := decide_eq_true q1
              go_upto_region 10 with fail
              refine wp_region_quiet_below (by kernel_rfl) (by kernel_rfl) ?_
              repeat (go_big_quiet_step (first | with_reducible exact call_grownS CXY.out))
              refine wpQuiet_nil ?_
              intro _ hw'
              obtain ⟨⟨dq, osq⟩, hw''⟩ := hw'
              subst hw''
              go_wp2_with fail
              go_roundg j
              case measure => omega
              case rel => exact ⟨j, by omega, by go_num, rfl, Ext.trans hE2 (below_regrown wr dq osq), by rw [HI.out, HSTEP.out, if_pos q1]⟩
            · have d1 : decide (0 < v1) = false := decide_eq_false q1
              have HR : Hid (insK out x out.length = j + 1) := by show insK out x out.length = j + 1; rw [HI.out, HSTEP.out, if_neg q1]
              go_upto_region 10 with fail
              refine wp_region_quiet_below (by kernel_rfl) (by kernel_rfl) ?_
              repeat (go_big_quiet_step (first | with_reducible exact call_grownS CXY.out))
              refine wpQuiet_nil ?_
              intro _ hw'
              obtain ⟨⟨dq, osq⟩, hw''⟩ := hw'
              have hE3 : Ext wr _ := below_regrown wr dq osq
              rw [← hw''] at hE3
              clear hw'' fX fB
              rename World => w3
              have hE23 : Ext wc w3 := Ext.trans hE2 hE3
              obtain ⟨a0, a1, a2, a3, a4, a5, a6, a7, a8⟩ := Dt.cellsS (HD.out.ext hE3) hjl HY.out
              simp only [Nat.zero_add] at a0 a1 a2 a3 a4 a5 a6 a7 a8
              obtain ⟨b0, b1, b2, b3, b4, b5, b6, b7, b8⟩ := blk9 (HB2.out.ext hE3)
              have heq := fun w => eql_det w y x
              unfold Dt.val at heq
              have hgd : out.getD j x = y := by rw [getD_lt x hjl]; exact HY.out
              rcases hsm : y.same x with _ | _
              · have HNS0 : Hid (insV out x = out.take (j + 1) ++ x :: out.drop (j + 1)) := by
                  show insV out x = _
                  unfold insV
                  rw [HR.out, if_neg (fun h => by rw [Nat.add_sub_cancel, hgd, hsm] at h; cases h.2)]
                rw [hsm] at heq
                clear hsm hgd
                go_upto_region 12 with fail
                go_quiet (fail)
                go_upto_region 13 with fail
                clear a0 a1 a2 a3 a4 a5 a6 a7 a8 b0 b1 b2 b3 b4 b5 b6 b7 b8 heq
                obtain ⟨k, hkj⟩ : ∃ k, j + 1 = k := ⟨_, rfl⟩
                try rw [hkj]
                try rw [show ((j : Int) + 1) = (k : Int) by omega]
                rw [hkj] at hk
                have HNS : Hid (insV out x = out.take k ++ x :: out.drop k) := by rw [← hkj]; exact HNS0
                clear HNS0 HR HI HSTEP dk hkj
                go_wp2_with (at_builtin; refine wpList_pushD _ rfl _ _ rfl w.heap.size _ out rfl (own_extD HOWC.out (Ext.drewN hE23 _)) rfl (by omega) (Below.size (Ext.trans hEc (Ext.drewN hE23 _))) ?_; intro g6 cap6 w6 hown6 hc6 hc6m hg6 hblk6)
                have hE6 : Ext w w6 := Ext.own (Ext.trans hEc (Ext.drewN hE23 _)) (own_extD HOWC.out (Ext.drewN hE23 _)) (Nat.le_refl _) hg6
                have hB6 : Blk w6 gB 39 x.cells.toArray := (hg6.block gB (Blk.lt (hBx.ext (Ext.drewN hE23 _))) (fun e => absurd (HVQ.out gB e.symm) (Nat.lt_irrefl _))).trans (hBx.ext (Ext.drewN hE23 _))
                have hne6 : g6 ≠ gB := by
                  intro e
                  rcases hblk6 with h | h
                  · have := HVQ.out g6 h; omega
                  · exact absurd (Nat.lt_trans (Blk.lt (hBx.ext hE23)) h) (by rw [e]; exact Nat.lt_irrefl _)
                have hRow6 := (row_of_own hown6).1
                have hgw6 := (row_of_own hown6).2
                obtain ⟨X, hX⟩ : ∃ X, out ++ [zDt] = X := ⟨_, rfl⟩
                have hXl : X.length = out.length + 1 := by rw [← hX, List.length_append]; rfl
                rw [hX] at hown6 hRow6
                have HXE := Lib.hid hX
                clear hX hg6 hblk6
                have hkI : (k : Int) ≤ (out.length : Int) := by omega
                have hkI1 : (k : Int) < (out.length : Int) + 1 := by omega
                have hkI0 : (0 : Int) ≤ (k : Int) := by omega
                have hwk : IntKind.i64.wrap ((k : Int) + 1) = (k : Int) + 1 := IntWalk.i64_in _ (by omega)
                have hkJ : (0 : Int) ≤ (k : Int) + 1 := by omega
                have hkJ1 : (k : Int) + 1 ≤ (out.length : Int) + 1 := by omega
                go_upto_region 14 with fail
                have hR7 : Row w6.drew g6 X := hRow6
                have hB7 : Blk w6.drew gB 39 x.cells.toArray := hB6
                have hE7 : Ext w w6.drew := Below.drew hE6
                have hown7 : w6.drew.ownsRow w.heap.size 39 9 (.slice (some ⟨g6, 0, none⟩) (out.length + 1) cap6) (out.length + 1) (X.flatMap Dt.cells) := hown6
                by_cases hkn : k = out.length
                · have HK : Hid (X.set k x = out.take k ++ x :: out.drop k) := by
                    show X.set k x = _
                    rw [← HXE.out, hkn, List.take_length, List.drop_length, List.set_append_right _ _ (Nat.le_refl _), Nat.sub_self]
                    rfl
                  have hsl1 := fun w => run_from w g6 (out.length + 1) cap6 (k + 1) ((k : Int) + 1) (by omega) (by omega)
                  have hsl2 := fun w => run_from w g6 (out.length + 1) cap6 k (k : Int) rfl (by omega)
                  rw [show out.length + 1 - (k + 1) = 0 by omega] at hsl1
                  generalize (if cap6 = k + 1 then (⟨g6, 0, none⟩ : Addr) else ⟨g6, (k + 1) * 9, none⟩) = D1 at hsl1
                  generalize (if cap6 = k then (⟨g6, 0, none⟩ : Addr) else ⟨g6, k * 9, none⟩) = S1 at hsl2
                  have hcp := fun w d s dc sl sc => run_copy_none w 3 d s dc sl sc
                  have HKN := Lib.hid hkn
                  clear hkn
                  go_still_tail 7, (by kernel_rfl)
                  change wpList _ _ _ _ _ w6.drew
                  have hkX : k < X.length := by omega
                  have HO8 : Hid ((w6.drew.setCells g6 (k * 9) x.cells).ownsRow w.heap.size 39 9 (.slice (some ⟨g6, 0, none⟩) (out.length + 1) cap6) (out.length + 1) ((X.set k x).flatMap Dt.cells)) := by
                    have := own_sets hown7 (o := k * 9) (vs := x.cells) (by rw [flat_len Dt.cells 9 Dt.len, Dt.len]; omega)
                    rw [setAll_flat Dt.cells 9 (by omega) Dt.len X k x hkX] at this
                    exact this
                  have HE8 : Hid (Ext w (w6.drew.setCells g6 (k * 9) x.cells)) := Ext.grownRow hE7 hgw6 (grownRow_sets _ _ _ _)
                  obtain ⟨c0, c1, c2, c3, c4, c5, c6, c7, c8⟩ := Row.at_ hR7 hkX
                  obtain ⟨f0, f1, f2, f3, f4, f5, f6, f7, f8⟩ := Row.frz hR7 hkX
                  obtain ⟨t0, t1, t2, t3, t4, t5, t6, t7, t8⟩ := blk9 hB7
                  generalize X[k] = zz at c0 c1 c2 c3 c4 c5 c6 c7 c8
                  clear hR7 hB7 hE7 hown7 hown6 hRow6 hB6 hE6
                  generalize w6.drew = w7 at *
                  go_wp2_with fail
                  go_roundg (L.length - (i + 1))
                  case measure => omega
                  case rel => exact ⟨i + 1, by omega, by go_num, rfl, HE8.out, by rw [HINS.out, HNS.out, ← HK.out, List.length_set, hXl]; exact HO8.out⟩
                · have hkn' : k < out.length := by omega
                  have HK : Hid ((X.take (k + 1) ++ (X.drop k).take (out.length - k)).set k x = out.take k ++ x :: out.drop k) := by
                    show (X.take (k + 1) ++ (X.drop k).take (out.length - k)).set k x = _
                    have e1 : (out ++ [zDt]).take (k + 1) = out.take (k + 1) := List.take_append_of_le_length (by omega)
                    have e2 : ((out ++ [zDt]).drop k).take (out.length - k) = out.drop k := by rw [List.drop_append_of_le_length (by omega), List.take_append_of_le_length (by rw [List.length_drop]; omega), List.take_of_length_le (by rw [List.length_drop]; omega)]
                    rw [← HXE.out, e1, e2]
                    exact ins_list x hkn'
                  have hsl1 := fun w => run_from w g6 (out.length + 1) cap6 (k + 1) ((k : Int) + 1) (by omega) (by omega)
                  have hsl2 := fun w => run_from w g6 (out.length + 1) cap6 k (k : Int) rfl (by omega)
                  rw [show out.length + 1 - (k + 1) = out.length - k by omega, if_neg (show ¬ cap6 = k + 1 by omega)] at hsl1
                  rw [if_neg (show ¬ cap6 = k by omega)] at hsl2
                  have hcp := run_copy_det w6.drew 3 g6 k out.length (cap6 - (k + 1)) (cap6 - k) X hR7 hXl hkn'
                  have hYl : ((X.drop k).take (out.length - k)).length = out.length - k := by rw [List.length_take, List.length_drop]; omega
                  have hO8 : (w6.drew.setCells g6 ((k + 1) * 9) (((X.drop k).take (out.length - k)).flatMap Dt.cells)).ownsRow w.heap.size 39 9 (.slice (some ⟨g6, 0, none⟩) (out.length + 1) cap6) (out.length + 1) ((X.take (k + 1) ++ (X.drop k).take (out.length - k)).flatMap Dt.cells) := by
                    have := own_sets hown7 (o := (k + 1) * 9) (vs := ((X.drop k).take (out.length - k)).flatMap Dt.cells) (by rw [flat_len Dt.cells 9 Dt.len, flat_len Dt.cells 9 Dt.len, hYl]; omega)
                    rw [setAll_flats X ((X.drop k).take (out.length - k)) (k + 1) (by rw [hYl]; omega), hYl, show X.drop (k + 1 + (out.length - k)) = [] from List.drop_eq_nil_of_le (by omega), List.append_nil] at this
                    exact this
                  have hE8 : Ext w (w6.drew.setCells g6 ((k + 1) * 9) (((X.drop k).take (out.length - k)).flatMap Dt.cells)) := Ext.grownRow hE7 hgw6 (grownRow_sets _ _ _ _)
                  have hB8 : Blk (w6.drew.setCells g6 ((k + 1) * 9) (((X.drop k).take (out.length - k)).flatMap Dt.cells)) gB 39 x.cells.toArray := (World.heap_setCells_other _ g6 _ _ hB7.lt (fun e => hne6 e.symm)).trans hB7
                  obtain ⟨Y, hY⟩ : ∃ Y, X.take (k + 1) ++ (X.drop k).take (out.length - k) = Y := ⟨_, rfl⟩
                  have hYY : Y.length = out.length + 1 := by rw [← hY, List.length_append, hYl, List.length_take]; omega
                  rw [hY] at HK hO8
                  have HKN := Lib.hid hkn
                  clear hkn hY hYl
                  go_still_tail 7, (by kernel_rfl)
                  change wpList _ _ _ _ _ w6.drew
                  obtain ⟨w8, hw8⟩ : ∃ w8, w6.drew.setCells g6 ((k + 1) * 9) (((X.drop k).take (out.length - k)).flatMap Dt.cells) = w8 := ⟨_, rfl⟩
                  rw [hw8] at hcp hO8 hE8 hB8
                  clear hw8
                  have hkX : k < Y.length := by omega
                  have hR8 := (row_of_own hO8).1
                  have HO9 : Hid ((w8.setCells g6 (k * 9) x.cells).ownsRow w.heap.size 39 9 (.slice (some ⟨g6, 0, none⟩) (out.length + 1) cap6) (out.length + 1) ((Y.set k x).flatMap Dt.cells)) := by
                    have := own_sets hO8 (o := k * 9) (vs := x.cells) (by rw [flat_len Dt.cells 9 Dt.len, Dt.len]; omega)
                    rw [setAll_flat Dt.cells 9 (by omega) Dt.len Y k x hkX] at this
                    exact this
                  have HE9 : Hid (Ext w (w8.setCells g6 (k * 9) x.cells)) := Ext.grownRow hE8 hgw6 (grownRow_sets _ _ _ _)
                  obtain ⟨c0, c1, c2, c3, c4, c5, c6, c7, c8⟩ := Row.at_ hR8 hkX
                  obtain ⟨f0, f1, f2, f3, f4, f5, f6, f7, f8⟩ := Row.frz hR8 hkX
                  obtain ⟨t0, t1, t2, t3, t4, t5, t6, t7, t8⟩ := blk9 hB8
                  generalize Y[k] = zz at c0 c1 c2 c3 c4 c5 c6 c7 c8
                  clear hR7 hB7 hE7 hown7 hown6 hRow6 hB6 hE6 hO8 hE8 hB8 hR8
                  generalize w6.drew = w7 at *
                  go_wp2_with fail
                  go_roundg (L.length - (i + 1))
                  case measure => omega
                  case rel => exact ⟨i + 1, by omega, by go_num, rfl, HE9.out, by rw [HINS.out, HNS.out, ← HK.out, List.length_set, hYY]; exact HO9.out⟩
              · have HNS : Hid (insV out x = out) := by
                  show insV out x = _
                  unfold insV
                  rw [HR.out, if_pos ⟨by omega, by rw [Nat.add_sub_cancel, hgd]; exact hsm⟩]
                rw [hsm] at heq
                clear hsm hgd
                go_upto_region 12 with fail
                go_quiet (fail)
                go_wp2_with fail
                go_roundg (L.length - (i + 1))
                case measure => omega
                case rel => exact ⟨i + 1, by omega, by go_num, rfl, Ext.trans hEc (Ext.drewN hE23 _), by rw [HINS.out, HNS.out]; exact own_extD HOWC.out (Ext.drewN hE23 _)⟩
    · obtain rfl : i = L.length := by omega
      have HV := Lib.hid (insAll_stock L)
      obtain ⟨A1, c1, rfl, hs1, hc1, hc1m⟩ := own_slice hown
      go_wp2_with fail
      go_ret
      refine ⟨A1, c1, ?_, ?_, ?_, hc1m, hE⟩
      · rw [← HV.out]; rfl
      · rw [← HV.out]; exact hs1
      · rw [← HV.out]; exact hc1
end Go.Proofs.Ythadaahemhamdaa
