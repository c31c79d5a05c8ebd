/- RAdd2, RMergeK, RunMem, Sched3, RBegin, WSPlain, SelK3, joined. No statement of the seat is proved here. -/
import Derived.Test.YtfnnoncdocghjaaK5
import Derived.Deep.CutRange
import Derived.Test.YtfnnoncdocghjaaK2
import Derived.Test.YtfnnoncdocghjaaK4
import Derived.Test.YtfnnoncdocghjaaK3
namespace Go.Proofs.Ytfnnoncdocghjaa
open Go.RowKit Go.Sort
set_option linter.unusedVariables false
set_option maxRecDepth 100000

abbrev zKn : Kn := ⟨⟨0, 0, ⟨0, 0, 0, 0, 0, 0, 0⟩⟩, 0⟩
def RaRel (w : World) (L : List Kn) (g : Nat) (v iv : Value) (wr : World) : Prop := ∃ i : Nat, i ≤ L.length ∧ iv = .int .i64 i ∧ g = L.length - i ∧ Ext w wr ∧ wr.ownsRow w.heap.size 34 10 v (memV (L.take i)).length ((memV (L.take i)).flatMap Kn.cells)
def BxRel (w : World) (v : Value) (out : List Kn) (x : Kn) (s7 : Value) (wx : World) : Prop := ∃ gB, s7 = .pointer (some ⟨gB, 0, none⟩) ∧ Blk wx gB 34 x.cells.toArray ∧ Ext w wx ∧ wx.ownsRow w.heap.size 34 10 v out.length (out.flatMap Kn.cells) ∧ ∀ q, v.ownBlock = some q → q < gB
def KkRel (wc : World) (out : List Kn) (x : Kn) (g : Nat) (kv : Value) (wr : World) : Prop := ∃ k : Nat, k ≤ out.length ∧ kv = .int .i64 k ∧ k = g ∧ Ext wc wr ∧ ∀ q (hq : q < out.length), k ≤ q → 0 < cmpD (out[q]).d x.d
theorem ext_grown {w w' : World} (h : Ext w w') (row : Option Nat) : w.grownBy w' row := ⟨h.os, h.tape, h.output, h.size, fun k hk _ => h.block k hk⟩
theorem grown_trans {a b c : World} {r : Option Nat} (h : a.grownBy b r) (k : b.grownBy c r) : a.grownBy c r := ⟨k.os.trans h.os, k.tape.trans h.tape, k.output.trans h.output, Nat.le_trans h.size k.size, fun i hi hne => (k.block i (Nat.lt_of_lt_of_le hi h.size) hne).trans (h.block i hi hne)⟩
theorem own_lt {w : World} {base : Nat} {e : TypeId} {s n : Nat} {v : Value} {xs : List Value} (h : w.ownsRow base e s v n xs) : ∀ q, v.ownBlock = some q → q < w.heap.size := fun q hq => (h.lt q hq).2
theorem own_extD {w w' : World} {base : Nat} {e : TypeId} {s n : Nat} {v : Value} {xs : List Value} (h : w.ownsRow base e s v n xs) (hE : Ext w w') : w'.ownsRow base e s v n xs := h.kept (ext_grown hE none) (by cases hq : v.ownBlock <;> simp)
theorem run_from (w : World) (g n cap l : Nat) (li : Int) (hli : li = l) (hl : l ≤ n) : (Instr.slice 26 (.slice (some ⟨g, 0, none⟩) n cap) (some (.int .i64 li)) none none).run Try.prog w = .ok (.slice (some (if cap = l then ⟨g, 0, none⟩ else ⟨g, l * 10, none⟩)) (n - l) (cap - l)) w := by
  subst hli
  obtain ⟨i0, hi, hz0, hz1, hz2⟩ := info_parts infoKn
  have h1 : (0 : Int) ≤ (l : Int) := by omega
  have h2 : (l : Int) ≤ (n : Int) := by omega
  by_cases hc : cap = l
  · simp [Instr.slice, Instr.sliceBounds, run_underlying Try.underlying26, go_sem, sizeOf, typeInfo, hi, hz1, h1, h2, hc]
  · simp [Instr.slice, Instr.sliceBounds, run_underlying Try.underlying26, go_sem, sizeOf, typeInfo, hi, hz1, h1, h2, hc]
theorem wpList_pushK {ops : Array Oper} {rest : List Oper} {o : Oper} {ac : Act} {Q : Exit → Act → World → Prop} (W : World) (hgd : o.guard = none) (so xo : Operand) (ho : o.op = .call { callee := .builtin .append, args := #[so, xo], argTypes := #[26, 26] })
    (base : Nat) (v : Value) (out : List Kn) (hso : ac.eval so = v) (hown : W.ownsRow base 34 10 v out.length (out.flatMap Kn.cells)) (hxo : ac.eval xo = .slice (some ⟨W.heap.size, 0, none⟩) 1 1) (hl : out.length ≤ 2000) (hbase : base ≤ W.heap.size)
    (h : ∀ g cap w', w'.ownsRow base 34 10 (.slice (some ⟨g, 0, none⟩) (out.length + 1) cap) (out.length + 1) ((out ++ [zKn]).flatMap Kn.cells) → out.length + 1 ≤ cap → cap ≤ maxLen → W.grownBy w' v.ownBlock → (v.ownBlock = some g ∨ W.heap.size < g) → wpList Try.prog ops Q rest (ac.put o.dst (.slice (some ⟨g, 0, none⟩) (out.length + 1) cap)) w') :
    wpList Try.prog ops Q (o :: rest) ac (W.alloc (.cells zKn.cells.toArray 34)) := by
  obtain ⟨i0, hi, hz0, hz1, hz2⟩ := info_parts infoKn
  have hO := own_extD hown ((Ext.refl W).allocs (.cells zKn.cells.toArray 34))
  have hB := Blk.new W 34 zKn.cells.toArray
  refine wpList_append_own_at (P := Try.prog) _ hgd so xo _ ho base _ i0 _ 10 80 Try.underlying26 hi hz0 hz1 hz2 rfl (by omega) v out.length _ hso hO ⟨W.heap.size, 0, none⟩ 1 1 zKn.cells hxo rfl (fun j u hu => ?_) (Kn.one zKn) (by unfold maxLen; omega) (by omega) (by simp; omega) ?_
  · have hadd : (⟨W.heap.size, 0, none⟩ : Addr).add j = ⟨W.heap.size, j, none⟩ := by unfold Addr.add; split <;> simp_all
    rw [hadd, hB.cell]
    simpa using hu
  · intro v' w' hown' hg' _ hblk
    obtain ⟨A', c', rfl, _, hc, hcm⟩ := own_slice hown'
    obtain ⟨g, rfl⟩ : ∃ g, A' = some ⟨g, 0, none⟩ := by
      rcases hown'.2 with ⟨_, h0⟩ | ⟨g, _, _, hv, _⟩
      · omega
      · injection hv with hv _ _
        exact ⟨g, hv⟩
    refine h g c' w' (by rw [List.flatMap_append]; simpa using hown') hc hcm (grown_trans (ext_grown ((Ext.refl W).allocs _) _) hg') ?_
    rcases hblk with hq | hq
    · exact .inl hq.symm
    · right
      simp only [Value.ownBlock, Option.some.injEq] at hq
      rw [hq]
      simp


set_option maxHeartbeats 6400000 in
theorem radd_any (A : Option Addr) (ca : Nat) (l : List Kn) (kn : Kn) (w : World) (ha : KnSeg w A l) (hla : l.length ≤ 1000) (hok : ∀ y ∈ l ++ [kn], okH y.h) :
    Calls Try.prog 20 #[.slice A l.length ca, kn.val] w (OwnPostK (memV (l ++ [kn])) w) := by
  have hla' : (l.length : Int) ≤ 1000 := by omega
  obtain ⟨L, hL⟩ : ∃ L, l ++ [kn] = L := ⟨_, rfl⟩
  have hLl : L.length = l.length + 1 := by rw [← hL, List.length_append]; rfl
  have HL := Lib.hid hL
  rw [hL] at hok ⊢
  have HOK := Lib.hid hok
  clear hL hok
  have hGB : Blk (w.alloc (.cells kn.cells.toArray 34)) w.heap.size 34 kn.cells.toArray := Blk.new w _ _
  have hE1 : Ext w (w.alloc (.cells kn.cells.toArray 34)) := (Ext.refl w).allocs _
  have ha1 := Lib.hid (ha.ext hE1)
  have HE1 := Lib.hid hE1
  clear ha hE1
  go_enter Try.func20, Try.ntmps20
  go_upto_region 1 with fail
  obtain ⟨w1, hw1⟩ : ∃ w1, w.alloc (.cells kn.cells.toArray 34) = w1 := ⟨_, rfl⟩
  obtain ⟨gK, hgK⟩ : ∃ gK, w.heap.size = gK := ⟨_, rfl⟩
  have HZ : Hid (w.heap.size ≤ w1.heap.size) := by show _ ≤ _; rw [← hw1]; simp
  have hw1' := hw1
  unfold Kn.cells at hw1'
  rw [hw1] at hGB ha1 HE1
  try rw [hw1']
  try rw [hw1]
  rw [hgK] at hGB ⊢
  clear hw1 hw1' hgK
  have HGB := Lib.hid hGB
  clear hGB
  go_wp2_with fail
  go_loopg [5, 6] L.length (fun g v iv wr => RaRel w1 L g v iv wr)
  case atStart => exact ⟨0, Nat.zero_le _, rfl, rfl, Ext.refl _, World.ownsRow_nil _ _ _ _⟩
  case round =>
    obtain ⟨i, hi, rfl, rfl, hE, hown⟩ := hrel
    by_cases hil : i < L.length
    · obtain ⟨x, hx⟩ : ∃ x, L[i] = x := ⟨_, rfl⟩
      have HPUT := Lib.hid (@memV_put L i hil HOK.out x hx)
      have HJOIN := Lib.hid (@memV_join L i hil HOK.out x hx)
      have hol : (memV (L.take i)).length ≤ i := Nat.le_trans (memV_len _) (by rw [List.length_take]; omega)
      obtain ⟨out, hout⟩ : ∃ out, memV (L.take i) = out := ⟨_, rfl⟩
      rw [hout] at hown HPUT HJOIN hol
      have HX := Lib.hid hx
      have HOWN := Lib.hid hown
      clear hout hx hown
      have hiI : (i : Int) ≤ (l.length : Int) := by omega
      obtain ⟨b0, b1, b2, b3, b4, b5, b6, b7, b8, b9⟩ := blk10 (HGB.out.ext hE)
      go_upto_if 19 with fail
      go_cut [7] from 9 to 81 (fun s7 wx => BxRel w1 u5 out x s7 wx)
      case first =>
        by_cases hia : i < l.length
        · have hax : l[i] = x := by
            have := HX.out
            simp only [← HL.out] at this
            rw [List.getElem_append_left hia] at this
            exact this
          obtain ⟨tb, toff, rfl, p0, p1, p2, p3, p4, p5, p6, p7, p8, p9⟩ := Kn.at_ (Seg.alloc (ha1.out.ext hE) (.cells kn.cells.toArray 34)) hia
          rw [hax] at p0 p1 p2 p3 p4 p5 p6 p7 p8 p9
          unfold Kn.cells at p0 p1 p2 p3 p4 p5 p6 p7 p8 p9
          have hiA : (i : Int) < (l.length : Int) := by omega
          go_wp2_with fail
          go_meet
          exact ⟨wr.heap.size, rfl, Blk.new wr 34 x.cells.toArray, hE.allocs _, own_extD HOWN.out ((Ext.refl wr).allocs _), own_lt HOWN.out⟩
        · obtain rfl : i = l.length := by omega
          have hbx : kn = x := by
            have := HX.out
            simp only [← HL.out] at this
            rw [List.getElem_append_right (Nat.le_refl _)] at this
            simpa using this
          subst hbx
          have hiA : ¬ (l.length : Int) < (l.length : Int) := by omega
          go_wp2_with fail
          go_meet
          exact ⟨wr.heap.size, rfl, Blk.new wr 34 kn.cells.toArray, hE.allocs _, own_extD HOWN.out ((Ext.refl wr).allocs _), own_lt HOWN.out⟩
      case rest =>
        clear b0 b1 b2 b3 b4 b5 b6 b7 b8 b9
        obtain ⟨gB, rfl, hBx, hEc, hownc, hvq⟩ := hcut
        have HOWC := Lib.hid hownc
        have HVQ := Lib.hid hvq
        clear hownc hvq HOWN hE
        obtain ⟨Av, cv, rfl, hsv, hcv, hcvm⟩ := own_slice HOWC.out
        have hol' : (out.length : Int) ≤ 1000 := by omega
        go_wp2_with fail
        go_loopg [8] out.length (fun g kv wr => KkRel wc out x g kv wr)
        case atStart => exact ⟨out.length, Nat.le_refl _, rfl, rfl, Ext.refl _, fun q hq hle => absurd hq (by omega)⟩
        case round =>
          obtain ⟨k, hk, rfl, rfl, hE2, hins⟩ := hrel
          have HI := Lib.hid hins
          clear hins
          have hB2 := hBx.ext hE2
          obtain ⟨b0, b1, b2, b3, b4, b5, b6, b7, b8, b9⟩ := blk10 hB2
          by_cases hk0 : k = 0
          · have dk : decide (0 < (k : Int)) = false := decide_eq_false (by omega)
            have dkN : decide (0 < k) = false := decide_eq_false (by omega)
            have dkM : ¬ 0 < k := by omega
            have HNS : Hid (memV (L.take (i + 1)) = out.take k ++ x :: out.drop k) := HPUT.out _ hk HI.out (fun j hj e => absurd e (by omega))
            have HK0 := Lib.hid hk0
            clear hk0
            go_upto_region 9 with fail
            go_quiet (fail)
            go_upto_region 11 with fail
            go_quiet (fail)
            go_upto_region 13 with fail
            clear b0 b1 b2 b3 b4 b5 b6 b7 b8 b9
            go_wp2_with (at_builtin; refine wpList_pushK _ rfl _ _ rfl w1.heap.size _ out rfl (own_extD HOWC.out (Ext.drewN hE2 _)) rfl (by omega) (Below.size (Ext.trans hEc (Ext.drewN hE2 _))) ?_; intro g6 cap6 w6 hown6 hc6 hc6m hg6 hblk6)
            have hE6 : Ext w1 w6 := Ext.own (Ext.trans hEc (Ext.drewN hE2 _)) (own_extD HOWC.out (Ext.drewN hE2 _)) (Nat.le_refl _) hg6
            have hB6 : Blk w6 gB 34 x.cells.toArray := (hg6.block gB (Blk.lt (hBx.ext (Ext.drewN hE2 _))) (fun e => absurd (HVQ.out gB e.symm) (Nat.lt_irrefl _))).trans (hBx.ext (Ext.drewN hE2 _))
            have hne6 : g6 ≠ gB := by
              intro e
              rcases hblk6 with h | h
              · have := HVQ.out g6 h; omega
              · exact absurd (Nat.lt_trans (Blk.lt (hBx.ext hE2)) h) (by rw [e]; exact Nat.lt_irrefl _)
            have hRow6 := (row_of_own hown6).1
            have hgw6 := (row_of_own hown6).2
            obtain ⟨X, hX⟩ : ∃ X, out ++ [zKn] = X := ⟨_, rfl⟩
            have hXl : X.length = out.length + 1 := by rw [← hX, List.length_append]; rfl
            rw [hX] at hown6 hRow6
            have HXE := Lib.hid hX
            clear hX hg6 hblk6
            have hkI : (k : Int) ≤ (out.length : Int) := by omega
            have hkI1 : (k : Int) < (out.length : Int) + 1 := by omega
            have hkI0 : (0 : Int) ≤ (k : Int) := by omega
            have hwk : IntKind.i64.wrap ((k : Int) + 1) = (k : Int) + 1 := IntWalk.i64_in _ (by omega)
            have hkJ : (0 : Int) ≤ (k : Int) + 1 := by omega
            have hkJ1 : (k : Int) + 1 ≤ (out.length : Int) + 1 := by omega
            go_upto_region 14 with fail
            have hR7 : Row w6.drew g6 X := hRow6
            have hB7 : Blk w6.drew gB 34 x.cells.toArray := hB6
            have hE7 : Ext w1 w6.drew := Below.drew hE6
            have hown7 : w6.drew.ownsRow w1.heap.size 34 10 (.slice (some ⟨g6, 0, none⟩) (out.length + 1) cap6) (out.length + 1) (X.flatMap Kn.cells) := hown6
            by_cases hkn : k = out.length
            · have HK : Hid (X.set k x = out.take k ++ x :: out.drop k) := by
                show X.set k x = _
                rw [← HXE.out, hkn, List.take_length, List.drop_length, List.set_append_right _ _ (Nat.le_refl _), Nat.sub_self]
                rfl
              have hsl1 := fun w => run_from w g6 (out.length + 1) cap6 (k + 1) ((k : Int) + 1) (by omega) (by omega)
              have hsl2 := fun w => run_from w g6 (out.length + 1) cap6 k (k : Int) rfl (by omega)
              rw [show out.length + 1 - (k + 1) = 0 by omega] at hsl1
              generalize (if cap6 = k + 1 then (⟨g6, 0, none⟩ : Addr) else ⟨g6, (k + 1) * 10, none⟩) = D1 at hsl1
              generalize (if cap6 = k then (⟨g6, 0, none⟩ : Addr) else ⟨g6, k * 10, none⟩) = S1 at hsl2
              have hcp := fun w d s dc sl sc => run_copy_none w 3 d s dc sl sc
              have HKN := Lib.hid hkn
              clear hkn
              go_still_tail 7, (by kernel_rfl)
              change wpList _ _ _ _ _ w6.drew
              have hkX : k < X.length := by omega
              have HO8 : Hid ((putK w6.drew g6 (k * 10) x).ownsRow w1.heap.size 34 10 (.slice (some ⟨g6, 0, none⟩) (out.length + 1) cap6) (out.length + 1) ((X.set k x).flatMap Kn.cells)) := by
                have := own_sets hown7 (o := k * 10) (vs := x.cells) (by rw [flat_len Kn.cells 10 Kn.len, Kn.len]; omega)
                rw [setAll_flat Kn.cells 10 (by omega) Kn.len X k x hkX] at this
                exact this
              have HE8 : Hid (Ext w1 (putK w6.drew g6 (k * 10) x)) := Ext.grownRow hE7 hgw6 (grownRow_sets _ _ _ x.cells)
              obtain ⟨c0, c1, c2, c3, c4, c5, c6, c7, c8, c9⟩ := Row.atK hR7 hkX
              obtain ⟨f0, f1, f2, f3, f4, f5, f6, f7, f8, f9⟩ := Row.frzK hR7 hkX
              obtain ⟨t0, t1, t2, t3, t4, t5, t6, t7, t8, t9⟩ := blk10 hB7
              generalize X[k] = zz at c0 c1 c2 c3 c4 c5 c6 c7 c8 c9
              unfold putK at HO8 HE8
              clear hR7 hB7 hE7 hown7 hown6 hRow6 hB6 hE6
              generalize w6.drew = w7 at *
              go_wp2_with fail
              go_roundg (L.length - (i + 1))
              case measure => omega
              case rel => exact ⟨i + 1, by omega, by go_num, rfl, HE8.out, by rw [HNS.out, ← HK.out, List.length_set, hXl]; exact HO8.out⟩
            · have hkn' : k < out.length := by omega
              have HK : Hid ((X.take (k + 1) ++ (X.drop k).take (out.length - k)).set k x = out.take k ++ x :: out.drop k) := by
                show (X.take (k + 1) ++ (X.drop k).take (out.length - k)).set k x = _
                have e1 : (out ++ [zKn]).take (k + 1) = out.take (k + 1) := List.take_append_of_le_length (by omega)
                have e2 : ((out ++ [zKn]).drop k).take (out.length - k) = out.drop k := by rw [List.drop_append_of_le_length (by omega), List.take_append_of_le_length (by rw [List.length_drop]; omega), List.take_of_length_le (by rw [List.length_drop]; omega)]
                rw [← HXE.out, e1, e2]
                exact ins_list x hkn'
              have hsl1 := fun w => run_from w g6 (out.length + 1) cap6 (k + 1) ((k : Int) + 1) (by omega) (by omega)
              have hsl2 := fun w => run_from w g6 (out.length + 1) cap6 k (k : Int) rfl (by omega)
              rw [show out.length + 1 - (k + 1) = out.length - k by omega, if_neg (show ¬ cap6 = k + 1 by omega)] at hsl1
              rw [if_neg (show ¬ cap6 = k by omega)] at hsl2
              have hcp := run_copy_kn w6.drew 3 g6 k out.length (cap6 - (k + 1)) (cap6 - k) X hR7 hXl hkn'
              have hYl : ((X.drop k).take (out.length - k)).length = out.length - k := by rw [List.length_take, List.length_drop]; omega
              have hO8 : (w6.drew.setCells g6 ((k + 1) * 10) (((X.drop k).take (out.length - k)).flatMap Kn.cells)).ownsRow w1.heap.size 34 10 (.slice (some ⟨g6, 0, none⟩) (out.length + 1) cap6) (out.length + 1) ((X.take (k + 1) ++ (X.drop k).take (out.length - k)).flatMap Kn.cells) := by
                have := own_sets hown7 (o := (k + 1) * 10) (vs := ((X.drop k).take (out.length - k)).flatMap Kn.cells) (by rw [flat_len Kn.cells 10 Kn.len, flat_len Kn.cells 10 Kn.len, hYl]; omega)
                rw [setAll_flats X ((X.drop k).take (out.length - k)) (k + 1) (by rw [hYl]; omega), hYl, show X.drop (k + 1 + (out.length - k)) = [] from List.drop_eq_nil_of_le (by omega), List.append_nil] at this
                exact this
              have hE8 : Ext w1 (w6.drew.setCells g6 ((k + 1) * 10) (((X.drop k).take (out.length - k)).flatMap Kn.cells)) := Ext.grownRow hE7 hgw6 (grownRow_sets _ _ _ _)
              have hB8 : Blk (w6.drew.setCells g6 ((k + 1) * 10) (((X.drop k).take (out.length - k)).flatMap Kn.cells)) gB 34 x.cells.toArray := (World.heap_setCells_other _ g6 _ _ hB7.lt (fun e => hne6 e.symm)).trans hB7
              obtain ⟨Y, hY⟩ : ∃ Y, X.take (k + 1) ++ (X.drop k).take (out.length - k) = Y := ⟨_, rfl⟩
              have hYY : Y.length = out.length + 1 := by rw [← hY, List.length_append, hYl, List.length_take]; omega
              rw [hY] at HK hO8
              have HKN := Lib.hid hkn
              clear hkn hY hYl
              go_still_tail 7, (by kernel_rfl)
              change wpList _ _ _ _ _ w6.drew
              obtain ⟨w8, hw8⟩ : ∃ w8, w6.drew.setCells g6 ((k + 1) * 10) (((X.drop k).take (out.length - k)).flatMap Kn.cells) = w8 := ⟨_, rfl⟩
              rw [hw8] at hcp hO8 hE8 hB8
              clear hw8
              have hkX : k < Y.length := by omega
              have hR8 := (row_of_own hO8).1
              have HO9 : Hid ((putK w8 g6 (k * 10) x).ownsRow w1.heap.size 34 10 (.slice (some ⟨g6, 0, none⟩) (out.length + 1) cap6) (out.length + 1) ((Y.set k x).flatMap Kn.cells)) := by
                have := own_sets hO8 (o := k * 10) (vs := x.cells) (by rw [flat_len Kn.cells 10 Kn.len, Kn.len]; omega)
                rw [setAll_flat Kn.cells 10 (by omega) Kn.len Y k x hkX] at this
                exact this
              have HE9 : Hid (Ext w1 (putK w8 g6 (k * 10) x)) := Ext.grownRow hE8 hgw6 (grownRow_sets _ _ _ x.cells)
              obtain ⟨c0, c1, c2, c3, c4, c5, c6, c7, c8, c9⟩ := Row.atK hR8 hkX
              obtain ⟨f0, f1, f2, f3, f4, f5, f6, f7, f8, f9⟩ := Row.frzK hR8 hkX
              obtain ⟨t0, t1, t2, t3, t4, t5, t6, t7, t8, t9⟩ := blk10 hB8
              generalize Y[k] = zz at c0 c1 c2 c3 c4 c5 c6 c7 c8 c9
              unfold putK at HO9 HE9
              clear hR7 hB7 hE7 hown7 hown6 hRow6 hB6 hE6 hO8 hE8 hB8 hR8
              generalize w6.drew = w7 at *
              go_wp2_with fail
              go_roundg (L.length - (i + 1))
              case measure => omega
              case rel => exact ⟨i + 1, by omega, by go_num, rfl, HE9.out, by rw [HNS.out, ← HK.out, List.length_set, hYY]; exact HO9.out⟩
          · obtain ⟨j, hj⟩ : ∃ j, k = j + 1 := ⟨k - 1, by omega⟩
            subst hj
            obtain ⟨g, rfl⟩ : ∃ g, Av = some ⟨g, 0, none⟩ := by
              rcases HOWC.out.2 with ⟨_, h⟩ | ⟨g, _, _, hv, _⟩
              · omega
              · injection hv with hv _ _
                exact ⟨g, hv⟩
            have hjl : j < out.length := by omega
            obtain ⟨y, hy⟩ : ∃ y, out[j] = y := ⟨_, rfl⟩
            have hD := hsv.ext hE2
            have fX := fun d os => Kn.grownK hD hjl hy d os
            unfold KnAt at fX
            have fB := fun d os => blk10 (hB2.ext (below_regrown wr d os))
            have CXY := Lib.hid (compare_ref y.d x.d)
            have hb1 := cmpD_bd y.d x.d
            obtain ⟨v1, e1⟩ : ∃ v, cmpD y.d x.d = v := ⟨_, rfl⟩
            rw [e1] at CXY hb1
            have HV1 := Lib.hid e1
            have HD := Lib.hid hD
            have HB2 := Lib.hid hB2
            have HY := Lib.hid hy
            have hj0 : (0 : Int) ≤ (j : Int) := by omega
            have hj1 : (j : Int) < (out.length : Int) := by omega
            have dk : decide (0 < (j : Int) + 1) = true := decide_eq_true (by omega)
            clear hy hD hB2 e1 b0 b1 b2 b3 b4 b5 b6 b7 b8 b9
            by_cases q1 : 0 < v1
            · have d1 : decide (0 < v1) = true := decide_eq_true q1
              go_upto_region 9 with fail
              refine wp_region_quiet_below (by kernel_rfl) (by kernel_rfl) ?_
              repeat (go_big_quiet_step (first | with_reducible exact call_grownS CXY.out))
              refine wpQuiet_nil ?_
              intro _ hw'
              obtain ⟨⟨dq, osq⟩, hw''⟩ := hw'
              subst hw''
              go_wp2_with fail
              go_roundg j
              case measure => omega
              case rel => exact ⟨j, by omega, by go_num, rfl, Ext.trans hE2 (below_regrown wr dq osq), fun q hq hle => by
                by_cases e : q = j
                · subst e; rw [HY.out, HV1.out]; exact q1
                · exact HI.out q hq (by omega)⟩
            · have d1 : decide (0 < v1) = false := decide_eq_false q1
              go_upto_region 9 with fail
              refine wp_region_quiet_below (by kernel_rfl) (by kernel_rfl) ?_
              repeat (go_big_quiet_step (first | with_reducible exact call_grownS CXY.out))
              refine wpQuiet_nil ?_
              intro _ hw'
              obtain ⟨⟨dq, osq⟩, hw''⟩ := hw'
              have hE3 : Ext wr _ := below_regrown wr dq osq
              rw [← hw''] at hE3
              clear hw'' fX fB
              rename World => w3
              have hE23 : Ext wc w3 := Ext.trans hE2 hE3
              obtain ⟨b', off', hA', a0, a1, a2, a3, a4, a5, a6, a7, a8, a9⟩ := Kn.at_ (HD.out.ext hE3) hjl
              injection hA' with hA'
              injection hA' with hA1 hA2
              subst hA1 hA2
              rw [HY.out] at a0 a1 a2 a3 a4 a5 a6 a7 a8 a9
              simp only [Nat.zero_add] at a0 a1 a2 a3 a4 a5 a6 a7 a8 a9
              obtain ⟨b0, b1, b2, b3, b4, b5, b6, b7, b8, b9⟩ := blk10 (HB2.out.ext hE3)
              have heq := fun w => eql_det w y.d x.d
              unfold Dt.val at heq
              rcases hsm : y.d.same x.d with _ | _
              · have HNS0 : Hid (memV (L.take (i + 1)) = out.take (j + 1) ++ x :: out.drop (j + 1)) := HPUT.out _ hk HI.out (fun j' hj' e => by
                  obtain rfl : j' = j := by omega
                  have h1 : cmpD y.d x.d ≠ 0 := fun h => by rw [(Dt.same_iff _ _).2 ((cmpD_zero _ _).1 h)] at hsm; cases hsm
                  rw [HY.out]
                  rw [HV1.out] at h1 ⊢
                  omega)
                rw [hsm] at heq
                clear hsm
                go_upto_region 11 with fail
                go_quiet (fail)
                obtain ⟨k, hkj⟩ : ∃ k, j + 1 = k := ⟨_, rfl⟩
                try rw [hkj]
                try rw [show ((j : Int) + 1) = (k : Int) by omega]
                rw [hkj] at hk
                have HNS : Hid (memV (L.take (i + 1)) = out.take k ++ x :: out.drop k) := by rw [← hkj]; exact HNS0
                clear HNS0 HI dk hkj a0 a1 a2 a3 a4 a5 a6 a7 a8 a9 heq
                go_upto_region 13 with fail
                clear b0 b1 b2 b3 b4 b5 b6 b7 b8 b9
                go_wp2_with (at_builtin; refine wpList_pushK _ rfl _ _ rfl w1.heap.size _ out rfl (own_extD HOWC.out (Ext.drewN hE23 _)) rfl (by omega) (Below.size (Ext.trans hEc (Ext.drewN hE23 _))) ?_; intro g6 cap6 w6 hown6 hc6 hc6m hg6 hblk6)
                have hE6 : Ext w1 w6 := Ext.own (Ext.trans hEc (Ext.drewN hE23 _)) (own_extD HOWC.out (Ext.drewN hE23 _)) (Nat.le_refl _) hg6
                have hB6 : Blk w6 gB 34 x.cells.toArray := (hg6.block gB (Blk.lt (hBx.ext (Ext.drewN hE23 _))) (fun e => absurd (HVQ.out gB e.symm) (Nat.lt_irrefl _))).trans (hBx.ext (Ext.drewN hE23 _))
                have hne6 : g6 ≠ gB := by
                  intro e
                  rcases hblk6 with h | h
                  · have := HVQ.out g6 h; omega
                  · exact absurd (Nat.lt_trans (Blk.lt (hBx.ext hE23)) h) (by rw [e]; exact Nat.lt_irrefl _)
                have hRow6 := (row_of_own hown6).1
                have hgw6 := (row_of_own hown6).2
                obtain ⟨X, hX⟩ : ∃ X, out ++ [zKn] = X := ⟨_, rfl⟩
                have hXl : X.length = out.length + 1 := by rw [← hX, List.length_append]; rfl
                rw [hX] at hown6 hRow6
                have HXE := Lib.hid hX
                clear hX hg6 hblk6
                have hkI : (k : Int) ≤ (out.length : Int) := by omega
                have hkI1 : (k : Int) < (out.length : Int) + 1 := by omega
                have hkI0 : (0 : Int) ≤ (k : Int) := by omega
                have hwk : IntKind.i64.wrap ((k : Int) + 1) = (k : Int) + 1 := IntWalk.i64_in _ (by omega)
                have hkJ : (0 : Int) ≤ (k : Int) + 1 := by omega
                have hkJ1 : (k : Int) + 1 ≤ (out.length : Int) + 1 := by omega
                go_upto_region 14 with fail
                have hR7 : Row w6.drew g6 X := hRow6
                have hB7 : Blk w6.drew gB 34 x.cells.toArray := hB6
                have hE7 : Ext w1 w6.drew := Below.drew hE6
                have hown7 : w6.drew.ownsRow w1.heap.size 34 10 (.slice (some ⟨g6, 0, none⟩) (out.length + 1) cap6) (out.length + 1) (X.flatMap Kn.cells) := hown6
                by_cases hkn : k = out.length
                · have HK : Hid (X.set k x = out.take k ++ x :: out.drop k) := by
                    show X.set k x = _
                    rw [← HXE.out, hkn, List.take_length, List.drop_length, List.set_append_right _ _ (Nat.le_refl _), Nat.sub_self]
                    rfl
                  have hsl1 := fun w => run_from w g6 (out.length + 1) cap6 (k + 1) ((k : Int) + 1) (by omega) (by omega)
                  have hsl2 := fun w => run_from w g6 (out.length + 1) cap6 k (k : Int) rfl (by omega)
                  rw [show out.length + 1 - (k + 1) = 0 by omega] at hsl1
                  generalize (if cap6 = k + 1 then (⟨g6, 0, none⟩ : Addr) else ⟨g6, (k + 1) * 10, none⟩) = D1 at hsl1
                  generalize (if cap6 = k then (⟨g6, 0, none⟩ : Addr) else ⟨g6, k * 10, none⟩) = S1 at hsl2
                  have hcp := fun w d s dc sl sc => run_copy_none w 3 d s dc sl sc
                  have HKN := Lib.hid hkn
                  clear hkn
                  go_still_tail 7, (by kernel_rfl)
                  change wpList _ _ _ _ _ w6.drew
                  have hkX : k < X.length := by omega
                  have HO8 : Hid ((putK w6.drew g6 (k * 10) x).ownsRow w1.heap.size 34 10 (.slice (some ⟨g6, 0, none⟩) (out.length + 1) cap6) (out.length + 1) ((X.set k x).flatMap Kn.cells)) := by
                    have := own_sets hown7 (o := k * 10) (vs := x.cells) (by rw [flat_len Kn.cells 10 Kn.len, Kn.len]; omega)
                    rw [setAll_flat Kn.cells 10 (by omega) Kn.len X k x hkX] at this
                    exact this
                  have HE8 : Hid (Ext w1 (putK w6.drew g6 (k * 10) x)) := Ext.grownRow hE7 hgw6 (grownRow_sets _ _ _ x.cells)
                  obtain ⟨c0, c1, c2, c3, c4, c5, c6, c7, c8, c9⟩ := Row.atK hR7 hkX
                  obtain ⟨f0, f1, f2, f3, f4, f5, f6, f7, f8, f9⟩ := Row.frzK hR7 hkX
                  obtain ⟨t0, t1, t2, t3, t4, t5, t6, t7, t8, t9⟩ := blk10 hB7
                  generalize X[k] = zz at c0 c1 c2 c3 c4 c5 c6 c7 c8 c9
                  unfold putK at HO8 HE8
                  clear hR7 hB7 hE7 hown7 hown6 hRow6 hB6 hE6
                  generalize w6.drew = w7 at *
                  go_wp2_with fail
                  go_roundg (L.length - (i + 1))
                  case measure => omega
                  case rel => exact ⟨i + 1, by omega, by go_num, rfl, HE8.out, by rw [HNS.out, ← HK.out, List.length_set, hXl]; exact HO8.out⟩
                · have hkn' : k < out.length := by omega
                  have HK : Hid ((X.take (k + 1) ++ (X.drop k).take (out.length - k)).set k x = out.take k ++ x :: out.drop k) := by
                    show (X.take (k + 1) ++ (X.drop k).take (out.length - k)).set k x = _
                    have e1 : (out ++ [zKn]).take (k + 1) = out.take (k + 1) := List.take_append_of_le_length (by omega)
                    have e2 : ((out ++ [zKn]).drop k).take (out.length - k) = out.drop k := by rw [List.drop_append_of_le_length (by omega), List.take_append_of_le_length (by rw [List.length_drop]; omega), List.take_of_length_le (by rw [List.length_drop]; omega)]
                    rw [← HXE.out, e1, e2]
                    exact ins_list x hkn'
                  have hsl1 := fun w => run_from w g6 (out.length + 1) cap6 (k + 1) ((k : Int) + 1) (by omega) (by omega)
                  have hsl2 := fun w => run_from w g6 (out.length + 1) cap6 k (k : Int) rfl (by omega)
                  rw [show out.length + 1 - (k + 1) = out.length - k by omega, if_neg (show ¬ cap6 = k + 1 by omega)] at hsl1
                  rw [if_neg (show ¬ cap6 = k by omega)] at hsl2
                  have hcp := run_copy_kn w6.drew 3 g6 k out.length (cap6 - (k + 1)) (cap6 - k) X hR7 hXl hkn'
                  have hYl : ((X.drop k).take (out.length - k)).length = out.length - k := by rw [List.length_take, List.length_drop]; omega
                  have hO8 : (w6.drew.setCells g6 ((k + 1) * 10) (((X.drop k).take (out.length - k)).flatMap Kn.cells)).ownsRow w1.heap.size 34 10 (.slice (some ⟨g6, 0, none⟩) (out.length + 1) cap6) (out.length + 1) ((X.take (k + 1) ++ (X.drop k).take (out.length - k)).flatMap Kn.cells) := by
                    have := own_sets hown7 (o := (k + 1) * 10) (vs := ((X.drop k).take (out.length - k)).flatMap Kn.cells) (by rw [flat_len Kn.cells 10 Kn.len, flat_len Kn.cells 10 Kn.len, hYl]; omega)
                    rw [setAll_flats X ((X.drop k).take (out.length - k)) (k + 1) (by rw [hYl]; omega), hYl, show X.drop (k + 1 + (out.length - k)) = [] from List.drop_eq_nil_of_le (by omega), List.append_nil] at this
                    exact this
                  have hE8 : Ext w1 (w6.drew.setCells g6 ((k + 1) * 10) (((X.drop k).take (out.length - k)).flatMap Kn.cells)) := Ext.grownRow hE7 hgw6 (grownRow_sets _ _ _ _)
                  have hB8 : Blk (w6.drew.setCells g6 ((k + 1) * 10) (((X.drop k).take (out.length - k)).flatMap Kn.cells)) gB 34 x.cells.toArray := (World.heap_setCells_other _ g6 _ _ hB7.lt (fun e => hne6 e.symm)).trans hB7
                  obtain ⟨Y, hY⟩ : ∃ Y, X.take (k + 1) ++ (X.drop k).take (out.length - k) = Y := ⟨_, rfl⟩
                  have hYY : Y.length = out.length + 1 := by rw [← hY, List.length_append, hYl, List.length_take]; omega
                  rw [hY] at HK hO8
                  have HKN := Lib.hid hkn
                  clear hkn hY hYl
                  go_still_tail 7, (by kernel_rfl)
                  change wpList _ _ _ _ _ w6.drew
                  obtain ⟨w8, hw8⟩ : ∃ w8, w6.drew.setCells g6 ((k + 1) * 10) (((X.drop k).take (out.length - k)).flatMap Kn.cells) = w8 := ⟨_, rfl⟩
                  rw [hw8] at hcp hO8 hE8 hB8
                  clear hw8
                  have hkX : k < Y.length := by omega
                  have hR8 := (row_of_own hO8).1
                  have HO9 : Hid ((putK w8 g6 (k * 10) x).ownsRow w1.heap.size 34 10 (.slice (some ⟨g6, 0, none⟩) (out.length + 1) cap6) (out.length + 1) ((Y.set k x).flatMap Kn.cells)) := by
                    have := own_sets hO8 (o := k * 10) (vs := x.cells) (by rw [flat_len Kn.cells 10 Kn.len, Kn.len]; omega)
                    rw [setAll_flat Kn.cells 10 (by omega) Kn.len Y k x hkX] at this
                    exact this
                  have HE9 : Hid (Ext w1 (putK w8 g6 (k * 10) x)) := Ext.grownRow hE8 hgw6 (grownRow_sets _ _ _ x.cells)
                  obtain ⟨c0, c1, c2, c3, c4, c5, c6, c7, c8, c9⟩ := Row.atK hR8 hkX
                  obtain ⟨f0, f1, f2, f3, f4, f5, f6, f7, f8, f9⟩ := Row.frzK hR8 hkX
                  obtain ⟨t0, t1, t2, t3, t4, t5, t6, t7, t8, t9⟩ := blk10 hB8
                  generalize Y[k] = zz at c0 c1 c2 c3 c4 c5 c6 c7 c8 c9
                  unfold putK at HO9 HE9
                  clear hR7 hB7 hE7 hown7 hown6 hRow6 hB6 hE6 hO8 hE8 hB8 hR8
                  generalize w6.drew = w7 at *
                  go_wp2_with fail
                  go_roundg (L.length - (i + 1))
                  case measure => omega
                  case rel => exact ⟨i + 1, by omega, by go_num, rfl, HE9.out, by rw [HNS.out, ← HK.out, List.length_set, hYY]; exact HO9.out⟩
              · have hd : y.d = x.d := (Dt.same_iff _ _).1 hsm
                have HNS : Hid (memV (L.take (i + 1)) = out.set j (orK y x)) := HJOIN.out _ hjl HY.out hd
                rw [hsm] at heq
                clear hsm hd
                go_upto_region 11 with fail
                go_quiet (fail)
                clear a0 a1 a2 a3 a4 a5 a6 a7 a8 a9 b0 b1 b2 b3 b4 b5 b6 b7 b8 b9 heq
                obtain ⟨wa, hwa⟩ : ∃ wa, w3.drewN nq = wa := ⟨_, rfl⟩
                have hEa : Ext wc wa := by rw [← hwa]; exact hE23.drewN nq
                rw [hwa]
                clear hwa
                have hOa := own_extD HOWC.out hEa
                have HXa : Hid (∀ W, Ext wa W → W.cell? ⟨g, j * 10 + 9, none⟩ = some (.int .u32 y.h) ∧ W.cell? ⟨gB, 9, none⟩ = some (.int .u32 x.h)) := fun W hW => by
                  have h1 := own_extD hOa hW
                  refine ⟨?_, (blk10 (hBx.ext (Ext.trans hEa hW))).2.2.2.2.2.2.2.2.2⟩
                  rw [h1.cellAt (j * 10 + 9) (by omega), flat_get Kn.cells 10 Kn.len out j 9 y (by rw [List.getElem?_eq_getElem hjl, HY.out]) (by omega)]
                  rfl
                have HOa := Lib.hid hOa
                have HEa := Lib.hid hEa
                clear hOa hEa
                have hwj : IntKind.i64.wrap ((j : Int)) = (j : Int) := by rw [IntKind.wrap_i64]; omega
                go_upto_region 12 with fail
                refine wp_region_sched (by kernel_rfl) 11 [(0, true), (1, true), (2, true), (3, true), (4, true), (5, true), (6, true), (7, true), (8, true), (9, true), (10, true), (11, false)] (fun W => W.cell? ⟨g, j * 10 + 9, none⟩ = some (.int .u32 y.h) ∧ W.cell? ⟨gB, 9, none⟩ = some (.int .u32 x.h)) (by kernel_rfl) (fun _ _ dd _ _ h => by cases dd <;> exact h) (HXa.out _ (Below.drew (Ext.refl wa))) (fun hHeld => ?_)
                iterate 11 ((refine sched_read (v := ?_) rfl (Or.inl ⟨by rfl, ?_⟩) hHeld ?_; rotate_left 1; · (intro w' hSw; obtain ⟨t0, t1⟩ := hSw; go_simp; (first | done | with_reducible rfl))); (try simp only [Act.put, List.setIfInBounds_toArray, List.set_cons_zero, List.set_cons_succ]))
                have h1 := own_setH (own_extD HOa.out (Below.drew (Ext.refl wa))) (i := j) hjl (orK y x) (by rw [HY.out]; rfl)
                have HOb := Lib.hid h1
                have HEb : Hid (Ext w1 (wa.drew.setCell ⟨g, j * 10 + 9, none⟩ (.int .u32 (orK y x).h))) := Below.setCell (Below.drew (Ext.trans hEc HEa.out)) ((HOa.out.lt g rfl).1) _
                have hfz : wa.drew.frozen? ⟨g, j * 10 + 9, none⟩ = false := (own_extD HOa.out (Below.drew (Ext.refl wa))).frozenAt _
                clear h1
                refine sched_tail rfl (by decide) (fun K hK => ?_)
                go_simp
                refine hK.out _ _ ?_
                clear hK K
                refine sched_done ?_
                go_wp2_with fail
                go_roundg (L.length - (i + 1))
                case measure => omega
                case rel => exact ⟨i + 1, by omega, by go_num, rfl, HEb.out, by rw [HNS.out, List.length_set]; exact HOb.out⟩
    · obtain rfl : i = L.length := by omega
      rw [List.take_length] at hown
      obtain ⟨A1, c1, rfl, hs1, hc1, hc1m⟩ := own_slice hown
      have HO := Lib.hid hown
      have HE := Lib.hid hE
      clear hown hE hs1
      have hiI : ¬ (L.length : Int) ≤ (l.length : Int) := by omega
      go_wp2_with fail
      go_ret
      exact ⟨_, rfl, own_base HO.out HZ.out, Ext.trans HE1.out HE.out⟩
end Go.Proofs.Ytfnnoncdocghjaa
namespace Go.Proofs.Ytfnnoncdocghjaa
open Go.RowKit
set_option linter.unusedVariables false
set_option maxRecDepth 100000

def RmRel (w : World) (p l : List Kn) (g : Nat) (v iv : Value) (wr : World) : Prop := ∃ i : Nat, i ≤ l.length ∧ iv = .int .i64 i ∧ g = l.length - i ∧ Ext w wr ∧ wr.ownsRow w.heap.size 34 10 v (memV (p ++ l.take i)).length ((memV (p ++ l.take i)).flatMap Kn.cells)
theorem memV_next {p l : List Kn} {i : Nat} (hi : i < l.length) (hok : ∀ k ∈ p ++ l, okH k.h) {x : Kn} (hx : l[i] = x) : memV (memV (p ++ l.take i) ++ [x]) = memV (p ++ l.take (i + 1)) ∧ (∀ y ∈ memV (p ++ l.take i) ++ [x], okH y.h) := by
  have h1 : ∀ k ∈ p ++ l.take i, okH k.h := fun k hk => hok k (by rcases List.mem_append.1 hk with h | h; exact List.mem_append_left _ h; exact List.mem_append_right _ (List.mem_of_mem_take h))
  refine ⟨?_, fun y hy => ?_⟩
  · rw [memV_idem h1, List.append_assoc, List.take_succ_eq_append_getElem hi, hx]
  · rcases List.mem_append.1 hy with h | h
    · exact (memV_of _ h1).ok y h
    · rw [List.mem_singleton] at h; subst h; rw [← hx]; exact hok _ (List.mem_append_right _ (List.getElem_mem hi))
theorem bitV_ok (p : Int) : okH (bitV p) := by
  unfold bitV
  split
  · exact ⟨Int.le_refl _, by decide⟩
  · rename_i h
    have : ∀ i : Fin 32, okH ((2 : Int) ^ i.val) := by unfold okH; decide
    exact this ⟨p.toNat, by omega⟩
set_option maxHeartbeats 3200000 in
theorem rmergeK_any (A B : Option Addr) (ca cb : Nat) (a b : List Kn) (self : Int) (w : World) (ha : KnSeg w A a) (hb : KnSeg w B b) (hla : a.length ≤ 700) (hlb : b.length ≤ 300) (hok : ∀ k ∈ a ++ b, okH k.h) :
    Calls Try.prog 22 #[.slice A a.length ca, .slice B b.length cb, .int .i64 self] w (OwnPostK (mergeV (bitV self) a b) w) := by
  have HA := Lib.hid ha
  have HB := Lib.hid hb
  have HOK : Hid (∀ k ∈ memV (a ++ b), okH k.h) := (memV_of _ hok).ok
  have HOKA : Hid (∀ k ∈ [] ++ a, okH k.h) := fun k hk => hok k (List.mem_append_left _ (by simpa using hk))
  have HOKB := Lib.hid hok
  have HLL0 : (memV (a ++ b)).length ≤ 1000 := by have := memV_len (a ++ b); rw [List.length_append] at this; omega
  unfold mergeV
  obtain ⟨L, hL⟩ : ∃ L, memV (a ++ b) = L := ⟨_, rfl⟩
  have HLL := Lib.hid hL
  rw [hL] at HOK HLL0 ⊢
  clear ha hb hok hL
  have hla' : (a.length : Int) ≤ 700 := by omega
  have hlb' : (b.length : Int) ≤ 300 := by omega
  go_enter Try.func22, Try.ntmps22
  go_wp2_with fail
  go_loopg [7, 8] a.length (fun g v iv wr => RmRel w [] a g v iv wr)
  case atStart => exact ⟨0, Nat.zero_le _, rfl, rfl, Ext.refl _, World.ownsRow_nil _ _ _ _⟩
  case round =>
    obtain ⟨i, hi, rfl, rfl, hE, hown⟩ := hrel
    obtain ⟨Ao, co, rfl, hso, -, -⟩ := own_slice hown
    have HE := Lib.hid hE
    have HO := Lib.hid hown
    have HS := Lib.hid hso
    clear hE hown hso
    by_cases hlt : i < a.length
    · obtain ⟨tb, toff, htA, p0, p1, p2, p3, p4, p5, p6, p7, p8, p9⟩ := Kn.at_ (HA.out.ext HE.out) hlt
      obtain ⟨x, hx⟩ : ∃ x, a[i] = x := ⟨_, rfl⟩
      have HN := Lib.hid (memV_next hlt HOKA.out hx)
      rw [hx] at p0 p1 p2 p3 p4 p5 p6 p7 p8 p9
      clear hx
      subst htA
      have hml : (memV ([] ++ a.take i)).length ≤ 1000 := Nat.le_trans (memV_len _) (by simp; omega)
      have HR := Lib.hid (radd_any Ao co (memV ([] ++ a.take i)) x wr HS.out hml HN.out.2)
      have hi0 : (0 : Int) ≤ (i : Int) := by omega
      have hi1 : (i : Int) < (a.length : Int) := by omega
      go_wp2_with fail
      refine HR.out.mono ?_
      rintro e w2 ⟨v2, rfl, hown2, hE2⟩
      rw [HN.out.1] at hown2
      have HO2 := Lib.hid hown2
      have HE2 := Lib.hid hE2
      clear hown2 hE2 HR
      go_wp2_with fail
      go_roundg (a.length - (i + 1))
      case measure => omega
      case rel => exact ⟨i + 1, by omega, by go_num, rfl, Ext.trans HE.out HE2.out, own_base HO2.out HE.out.size⟩
    · obtain rfl : i = a.length := by omega
      have hO0 := HO.out
      have hS0 := HS.out
      rw [List.take_length, List.nil_append] at hO0 hS0 ⊢
      have HO0 := Lib.hid hO0
      clear hO0 hS0 HO HS
      go_wp2_with fail
      go_loopg [7, 9] b.length (fun g v iv wr => RmRel w a b g v iv wr)
      case atStart => exact ⟨0, Nat.zero_le _, rfl, rfl, HE.out, by rw [List.take_zero, List.append_nil]; exact HO0.out⟩
      case round =>
        obtain ⟨i, hi, rfl, rfl, hE, hown⟩ := hrel
        obtain ⟨Ao, co, rfl, hso, -, -⟩ := own_slice hown
        have HE := Lib.hid hE
        have HO := Lib.hid hown
        have HS := Lib.hid hso
        clear hE hown hso HO0
        by_cases hlt : i < b.length
        · obtain ⟨tb, toff, htA, p0, p1, p2, p3, p4, p5, p6, p7, p8, p9⟩ := Kn.at_ (HB.out.ext HE.out) hlt
          obtain ⟨x, hx⟩ : ∃ x, b[i] = x := ⟨_, rfl⟩
          have HN := Lib.hid (memV_next hlt HOKB.out hx)
          rw [hx] at p0 p1 p2 p3 p4 p5 p6 p7 p8 p9
          clear hx
          subst htA
          have hml : (memV (a ++ b.take i)).length ≤ 1000 := Nat.le_trans (memV_len _) (by simp; omega)
          have HR := Lib.hid (radd_any Ao co (memV (a ++ b.take i)) x wr HS.out hml HN.out.2)
          have hi0 : (0 : Int) ≤ (i : Int) := by omega
          have hi1 : (i : Int) < (b.length : Int) := by omega
          go_wp2_with fail
          refine HR.out.mono ?_
          rintro e w2 ⟨v2, rfl, hown2, hE2⟩
          rw [HN.out.1] at hown2
          have HO2 := Lib.hid hown2
          have HE2 := Lib.hid hE2
          clear hown2 hE2 HR
          go_wp2_with fail
          go_roundg (b.length - (i + 1))
          case measure => omega
          case rel => exact ⟨i + 1, by omega, by go_num, rfl, Ext.trans HE.out HE2.out, own_base HO2.out HE.out.size⟩
        · obtain rfl : i = b.length := by omega
          have hO0 := HO.out
          rw [List.take_length] at hO0 ⊢
          have hLl := HLL0
          have hbo := Lib.hid (bitV_ok self)
          rw [HLL.out] at hO0 ⊢
          have HO1 := Lib.hid hO0
          have HE1 := Lib.hid HE.out
          clear hO0 HO HS HE HA HB HOKA HOKB
          rcases own_two HO1.out with ⟨hv, hn⟩ | ⟨g0, c0, hv⟩
          · have hl : L = [] := List.eq_nil_of_length_eq_zero hn
            subst hl
            injection hv with hv1 hv2 hv3
            subst hv1
            subst hv3
            go_wp2_with fail
            go_loopg [10] 0 (fun g i w' => i = .int .i64 0 ∧ g = 0 ∧ w' = wr)
            case atStart => exact ⟨rfl, rfl, rfl⟩
            case round =>
              obtain ⟨rfl, rfl, rfl⟩ := hrel
              go_wp2_with fail
              go_ret
              exact ⟨_, rfl, HO1.out, HE1.out⟩
          · injection hv with hv1 hv2 hv3
            subst hv1
            subst hv3
            go_wp2_with fail
            go_loopg [10] L.length (fun g i wr => MjRel w g0 co L (orB (bitV self)) g i wr)
            case atStart => exact ⟨0, Nat.zero_le _, rfl, rfl, HE1.out, by rw [mapTo_zero]; exact HO1.out⟩
            case round =>
              obtain ⟨j, hj, rfl, rfl, hE, hown⟩ := hrel
              rename World => wz
              have HO := Lib.hid hown
              have HE := Lib.hid hE
              clear hown hE
              by_cases hlt : j < L.length
              · have HX : Hid (∀ W, Ext wz W → W.cell? ⟨g0, j * 10 + 9, none⟩ = some (.int .u32 (L[j]).h)) := fun W hW => by
                  have h1 := own_ext HO.out hW
                  rw [h1.cellAt (j * 10 + 9) (by omega), flat_get Kn.cells 10 Kn.len _ j 9 L[j] (mapTo_at _ L j hlt) (by omega)]
                  rfl
                have HT := Lib.hid (mapTo_succ (orB (bitV self)) L j hlt)
                have HTl := Lib.hid (mapTo_len (orB (bitV self)) L j)
                have HTa := Lib.hid (mapTo_at (orB (bitV self)) L j hlt)
                obtain ⟨x, hx⟩ : ∃ x, L[j] = x := ⟨_, rfl⟩
                rw [hx] at HX HT HTa
                clear hx
                have hj0 : (0 : Int) ≤ (j : Int) := by omega
                have hj1 : (j : Int) < (L.length : Int) := by omega
                go_wp2_with fail
                refine wp_region_sched (by kernel_rfl) 10 [(0, true), (1, true), (2, true), (3, true), (4, true), (5, true), (6, false), (7, true), (8, true), (9, true), (10, false)] (fun W => W.cell? ⟨g0, j * 10 + 9, none⟩ = some (.int .u32 x.h)) (by kernel_rfl) (fun _ _ dd _ _ h => by cases dd <;> exact h) (HX.out _ (Below.drew (Ext.refl wz))) (fun hHeld => ?_)
                iterate 6 ((refine sched_read (v := ?_) rfl (Or.inl ⟨by rfl, ?_⟩) hHeld ?_; rotate_left 1; · (intro w' hSw; go_simp; (first | done | with_reducible rfl))); (try simp only [Act.put, List.setIfInBounds_toArray, List.set_cons_zero, List.set_cons_succ]))
                refine sched_eff rfl (fun K hK => ?_)
                go_simp
                refine (bit_any self _).mono ?_
                rintro e5 w5 ⟨rfl, rfl⟩
                refine hK.out _ _ (HX.out _ (Below.drew (Ext.refl wz))) (fun hHeld => ?_)
                clear hK K
                try simp only [Act.put, List.setIfInBounds_toArray, List.set_cons_zero, List.set_cons_succ]
                iterate 3 ((refine sched_read (v := ?_) rfl (Or.inl ⟨by rfl, ?_⟩) hHeld ?_; rotate_left 1; · (intro w' hSw; go_simp; (first | done | with_reducible rfl))); (try simp only [Act.put, List.setIfInBounds_toArray, List.set_cons_zero, List.set_cons_succ]))
                have hb : (mapTo (orB (bitV self)) L j).length = L.length := HTl.out
                have h1 := own_setH (own_ext HO.out (Below.drew (Ext.refl wz))) (i := j) (by rw [hb]; exact hlt) (orB (bitV self) x) (by have := HTa.out; rw [List.getElem?_eq_getElem (by rw [hb]; exact hlt)] at this; injection this with this; rw [this]; rfl)
                rw [HT.out] at h1
                have HOa := Lib.hid h1
                have HEb : Hid (Ext w (wz.drew.setCell ⟨g0, j * 10 + 9, none⟩ (.int .u32 (orB (bitV self) x).h))) := Below.setCell (Below.drew HE.out) ((HO.out.lt g0 rfl).1) _
                have hfz : wz.drew.frozen? ⟨g0, j * 10 + 9, none⟩ = false := (own_ext HO.out (Below.drew (Ext.refl wz))).frozenAt _
                clear h1 hb
                refine sched_tail rfl (by decide) (fun K hK => ?_)
                go_simp
                refine hK.out _ _ ?_
                clear hK K
                refine sched_done ?_
                go_wp2_with fail
                go_roundg (L.length - (j + 1))
                case measure => omega
                case rel => exact ⟨j + 1, by omega, by go_num, rfl, HEb.out, HOa.out⟩
              · obtain rfl : j = L.length := by omega
                go_wp2_with fail
                go_ret
                refine ⟨_, rfl, ?_, HE.out⟩
                have h1 := HO.out
                rw [mapTo_all] at h1
                rw [List.length_map]
                exact h1
end Go.Proofs.Ytfnnoncdocghjaa
namespace Go.Proofs.Ytfnnoncdocghjaa
open Go.RowKit
set_option linter.unusedVariables false

structure Rn where
  p : Cp
  S : List Dt
  SA : Option Addr
  Sc : Nat
structure RnM (W : World) (base g n : Nat) (f : Int) (r : Rn) : Prop where
  b : Blk W g 94 #[.int .i64 n, .int .i64 f, .slice (some ⟨r.p.t.ge, 0, none⟩) n n, .slice (some ⟨r.p.t.gk, 0, none⟩) n n, .slice r.SA r.S.length r.Sc, .slice (some ⟨r.p.t.go, 0, none⟩) n n, .slice r.p.A r.p.F.length r.p.c]
  t : TbM W base n r.p.t
  f : FlM MgR.cells9 9 108 W base r.p.A r.p.c r.p.F
  s : W.ownsRow base 32 9 (.slice r.SA r.S.length r.Sc) r.S.length (r.S.flatMap Dt.cells)
  z : base ≤ g
section
variable {W W' : World} {base g n : Nat} {f : Int} {r : Rn}
theorem RnM.ext (h : RnM W base g n f r) (hE : Ext W W') : RnM W' base g n f r := ⟨h.b.ext hE, h.t.ext hE, h.f.ext hE, own_ext h.s hE, h.z⟩
theorem RnM.cells (h : RnM W base g n f r) : W.cell? ⟨g, 0, none⟩ = some (.int .i64 n) ∧ W.cell? ⟨g, 1, none⟩ = some (.int .i64 f) ∧ W.cell? ⟨g, 2, none⟩ = some (.slice (some ⟨r.p.t.ge, 0, none⟩) n n) ∧ W.cell? ⟨g, 3, none⟩ = some (.slice (some ⟨r.p.t.gk, 0, none⟩) n n) ∧ W.cell? ⟨g, 4, none⟩ = some (.slice r.SA r.S.length r.Sc) ∧ W.cell? ⟨g, 5, none⟩ = some (.slice (some ⟨r.p.t.go, 0, none⟩) n n) ∧ W.cell? ⟨g, 6, none⟩ = some (.slice r.p.A r.p.F.length r.p.c) :=
  ⟨(h.b.cell 0).trans rfl, (h.b.cell 1).trans rfl, (h.b.cell 2).trans rfl, (h.b.cell 3).trans rfl, (h.b.cell 4).trans rfl, (h.b.cell 5).trans rfl, (h.b.cell 6).trans rfl⟩
theorem RnM.set_ord (h : RnM W base g n f r) {q : Nat} (hq : q < n) (x : Nat) : RnM (W.setCell ⟨r.p.t.go, q, none⟩ (.int .i64 x)) base g n f { r with p := { r.p with t := { r.p.t with os := r.p.t.os.set q x } } } := by
  have hg := grown_set1 W r.p.t.go q (.int .i64 x)
  exact ⟨blk_typed h.b hg (TyRow.blk h.t.o (by decide)), h.t.set_ord hq x, h.f.typed hg (TyRow.blk h.t.o (by decide)), own_typed h.s hg (TyRow.blk h.t.o (by decide)), h.z⟩
theorem RnM.set_kn (h : RnM W base g n f r) {q : Nat} (hq : q < n) {A : Option Addr} {c : Nat} {l : List Kn} (hl : KnOwn W base A c l) : RnM (W.setCell ⟨r.p.t.gk, q, none⟩ (.slice A l.length c)) base g n f { r with p := { r.p with t := { r.p.t with K := r.p.t.K.set q ⟨A, c, l⟩ } } } := by
  have hg := grown_set1 W r.p.t.gk q (.slice A l.length c)
  exact ⟨blk_typed h.b hg (TyRow.blk h.t.kb (by decide)), h.t.set_kn hq hl, h.f.typed hg (TyRow.blk h.t.kb (by decide)), own_typed h.s hg (TyRow.blk h.t.kb (by decide)), h.z⟩
theorem RnM.push_ev {W9 : World} (h : RnM W base g n f r) {q : Nat} {s : Gr Ev} (hs : r.p.t.R[q]? = some s) {g9 c9 : Nat} {x : Ev} (hown : W9.ownsRow base 30 7 (.slice (some ⟨g9, 0, none⟩) (s.l.length + 1) c9) (s.l ++ [x]).length ((s.l ++ [x]).flatMap Ev.cells))
    (hg : W.grownBy W9 (Gr.val s).ownBlock) (hd : (Gr.val s).ownBlock = some g9 ∨ g9 = W.heap.size) :
    RnM (W9.setCell ⟨r.p.t.ge, q, none⟩ (.slice (some ⟨g9, 0, none⟩) (s.l.length + 1) c9)) base g n f { r with p := { r.p with t := { r.p.t with R := r.p.t.R.set q ⟨some ⟨g9, 0, none⟩, c9, s.l ++ [x]⟩ } } } := by
  have hr := h.t.e.r q s hs
  have hg2 := grown_set1 W9 r.p.t.ge q (.slice (some ⟨g9, 0, none⟩) (s.l.length + 1) c9)
  have hbe : Blk W9 r.p.t.ge 65 (r.p.t.R.flatMap Gr.cells).toArray := blk_typed h.t.e.b hg (TyRow.own hr (by decide))
  exact ⟨blk_typed (blk_typed h.b hg (TyRow.own hr (by decide))) hg2 (TyRow.blk hbe (by decide)), h.t.push_ev hs hown hg hd, (h.f.typed hg (TyRow.own hr (by decide))).typed hg2 (TyRow.blk hbe (by decide)), own_typed (own_typed h.s hg (TyRow.own hr (by decide))) hg2 (TyRow.blk hbe (by decide)), h.z⟩
/-- the flight changed, and its slice is stored -/
theorem RnM.set_fl {W9 : World} {row : Option Nat} (h : RnM W base g n f r) (hg : W.grownBy W9 row) (ht : TyRow W row (fun t => t = 108)) {A : Option Addr} {c : Nat} {F : List MgR} (hf : FlM MgR.cells9 9 108 W9 base A c F) :
    RnM (W9.setCell ⟨g, 6, none⟩ (.slice A F.length c)) base g n f { r with p := { r.p with A := A, c := c, F := F } } := by
  have hg2 := grown_set1 W9 g 6 (.slice A F.length c)
  have hb9 := blk_typed h.b hg (ht.imp fun t e => by subst e; decide)
  refine ⟨?_, (h.t.typed hg (ht.imp fun t e => by subst e; decide)).typed hg2 (TyRow.blk hb9 (by decide)), hf.typed hg2 (TyRow.blk hb9 (by decide)), own_typed (own_typed h.s hg (ht.imp fun t e => by subst e; decide)) hg2 (TyRow.blk hb9 (by decide)), h.z⟩
  have := Blk.set1 hb9 (o := 6) (.slice A F.length c)
  simpa using this
/-- what is stable changed -/
theorem RnM.set_sure (h : RnM W base g n f r) {A : Option Addr} {c : Nat} {S : List Dt} (hs : W.ownsRow base 32 9 (.slice A S.length c) S.length (S.flatMap Dt.cells)) :
    RnM (W.setCell ⟨g, 4, none⟩ (.slice A S.length c)) base g n f { r with S := S, SA := A, Sc := c } := by
  have hg2 := grown_set1 W g 4 (.slice A S.length c)
  refine ⟨?_, h.t.typed hg2 (TyRow.blk h.b (by decide)), h.f.typed hg2 (TyRow.blk h.b (by decide)), own_typed hs hg2 (TyRow.blk h.b (by decide)), h.z⟩
  have := Blk.set1 h.b (o := 4) (.slice A S.length c)
  simpa using this
theorem RnM.start {W : World} {base ge gk go g n : Nat} {f : Int} (hb : Blk W g 94 #[.int .i64 n, .int .i64 f, .slice (some ⟨ge, 0, none⟩) n n, .slice (some ⟨gk, 0, none⟩) n n, .slice none 0 0, .slice (some ⟨go, 0, none⟩) n n, .slice none 0 0])
    (he : Blk W ge 65 ((List.replicate n (⟨none, 0, []⟩ : Gr Ev)).flatMap Gr.cells).toArray) (hk : Blk W gk 26 ((List.replicate n (⟨none, 0, []⟩ : Gr Kn)).flatMap Gr.cells).toArray) (ho : Blk W go 3 ((List.replicate n 0).flatMap Nv).toArray)
    (z1 : base ≤ g) (z2 : base ≤ ge) (z3 : base ≤ gk) (z4 : base ≤ go) : RnM W base g n f ⟨⟨⟨ge, gk, go, List.replicate n ⟨none, 0, []⟩, List.replicate n ⟨none, 0, []⟩, List.replicate n 0⟩, none, 0, []⟩, [], none, 0⟩ :=
  ⟨hb, ⟨GOwn.start he, hk, fun s hs => by rw [(List.mem_replicate.1 hs).2]; exact own_nilv _ _ _ _, ho, by simp, by simp, by simp, z2, z3, z4⟩, ⟨own_nilv _ _ _ _, by simp⟩, own_nilv _ _ _ _, z1⟩
theorem RnM.row (h : RnM W base g n f r) {i : Nat} {x : MgR} (hx : r.p.F[i]? = some x) : ∃ gF, r.p.A = some ⟨gF, 0, none⟩ ∧ base ≤ gF ∧ gF < W.heap.size ∧ ∀ j u, x.cells9[j]? = some u → W.cell? ⟨gF, i * 9 + j, none⟩ = some u := by
  have hi := (List.getElem?_eq_some_iff.1 hx).1
  obtain ⟨gF, cap, e, h1, h2⟩ := h.f.r.form (by omega)
  injection e with e1 _ _
  have hr := h.f.r
  rw [e1] at hr
  refine ⟨gF, e1, h1, h2, fun j u hu => ?_⟩
  have hj : j < 9 := by have := (List.getElem?_eq_some_iff.1 hu).1; rw [MgR.len9] at this; exact this
  rw [hr.cellAt (i * 9 + j) (by omega), flat_get MgR.cells9 9 MgR.len9 r.p.F i j x hx hj, hu]
end
/-- what an act of the reference leaves -/
def RnPost (W : World) (base g n : Nat) (f : Int) (s : Cm) (S : List Dt) (e : Ending) (w' : World) : Prop := e = .returned (.tuple #[]) ∧ ∃ r, RnM w' base g n f r ∧ r.p.st = s ∧ r.S = S ∧ Below base W w'
theorem RnPost.ext {W w' : World} {base g n : Nat} {f : Int} {r : Rn} (h : RnM W base g n f r) (hE : Ext W w') (hb : base ≤ W.heap.size) : RnPost W base g n f r.p.st r.S (.returned (.tuple #[])) w' := ⟨rfl, r, h.ext hE, rfl, rfl, hE.mono hb⟩
theorem RnPost.below {W w' : World} {base g n : Nat} {f : Int} {r : Rn} (h : RnM w' base g n f r) (hB : Below base W w') : RnPost W base g n f r.p.st r.S (.returned (.tuple #[])) w' := ⟨rfl, r, h, rfl, rfl, hB⟩
end Go.Proofs.Ytfnnoncdocghjaa
namespace Go.Proofs.Ytfnnoncdocghjaa.T3
set_option linter.unusedVariables false

inductive Sch where
  | done
  | read (i : Nat) (s : Sch)
  | one (i : Nat) (s : Sch)
  | two (i j : Nat) (s t : Sch)
  | three (i j k : Nat) (s t u : Sch)
def Sch.steps : Sch → Nat
  | .done => 0
  | .read _ s => s.steps + 1
  | .one _ s => s.steps + 1
  | .two _ _ s _ => s.steps + 1
  | .three _ _ _ s _ _ => s.steps + 1
/-- no reads -/
def Sch.calm : Sch → Bool
  | .done => true
  | .read _ _ => false
  | .one _ s => s.calm
  | .two _ _ s t => s.calm && t.calm
  | .three _ _ _ s t u => s.calm && t.calm && u.calm
def schOk (md : Region.Mode) (ops : Array Oper) (n : Nat) : Sch → Array Bool → Bool
  | .done, listed => (Region.ready md ops listed).isEmpty
  | .read i s, listed => decide (i < n) && Region.free md ops listed i && (Region.ready md ops listed).contains i && schOk md ops n s (listed.setIfInBounds i true)
  | .one i s, listed => (Region.ready md ops listed == [i]) && (decide (i < n) || s.calm) && schOk md ops n s (listed.setIfInBounds i true)
  | .two i j s t, listed => (Region.ready md ops listed == [i, j]) && decide (i < n) && decide (j < n) && (s.steps == t.steps) && schOk md ops n s (listed.setIfInBounds i true) && schOk md ops n t (listed.setIfInBounds j true)
  | .three i j k s t u, listed => (Region.ready md ops listed == [i, j, k]) && decide (i < n) && decide (j < n) && decide (k < n) && (s.steps == t.steps) && (s.steps == u.steps) && schOk md ops n s (listed.setIfInBounds i true) && schOk md ops n t (listed.setIfInBounds j true) && schOk md ops n u (listed.setIfInBounds k true)

section
variable {P : Program} {ops : Array Oper} {Q : Exit → Act → World → Prop} {md : Region.Mode} {S : World → Prop}
def wpSch (P : Program) (ops : Array Oper) (Q : Exit → Act → World → Prop) (n : Nat) (S : World → Prop) : Sch → Act → World → Prop
  | .done, a, w => Q .normal a w
  | .read i s, a, w => S w ∧ ∃ o v, ops[i]? = some o ∧ YieldsIf P ops S o v a ∧ wpSch P ops Q n S s (a.put o.dst v) w
  | .one i s, a, w => wpOp P ops Q i (fun a' w' => (i < n → S w') ∧ wpSch P ops Q n S s a' w') a w
  | .two i j s t, a, w => wpOp P ops Q i (fun a' w' => S w' ∧ wpSch P ops Q n S s a' w') a w ∧ wpOp P ops Q j (fun a' w' => S w' ∧ wpSch P ops Q n S t a' w') a w
  | .three i j k s t u, a, w => wpOp P ops Q i (fun a' w' => S w' ∧ wpSch P ops Q n S s a' w') a w ∧ wpOp P ops Q j (fun a' w' => S w' ∧ wpSch P ops Q n S t a' w') a w ∧ wpOp P ops Q k (fun a' w' => S w' ∧ wpSch P ops Q n S u a' w') a w

theorem wpAnyT_of_sch {n : Nat} (hsel : Region.noSelect ops = true) (hQ : ∀ c a (d : Option Tmp) v w, Q (.panic c) (Act.put a d v) w → Q (.panic c) a w) (hs : Region.sinkB md ops n = true) (hc : Region.chainB md ops n = true) (hn : n < ops.size) :
    ∀ (s : Sch) (listed : Array Bool) (a : Act) (w : World), schOk md ops n s listed = true → (HeadInv md ops n listed ∨ s.calm = true) →
      wpSch P ops Q n S s a w → wpAnyT P md ops Q n S s.steps listed a w
  | .done, listed, a, w, hk, _, h => ⟨by simpa [schOk] using hk, h⟩
  | .read i s, listed, a, w, hk, hinv, h => by
    simp only [schOk, Bool.and_eq_true, decide_eq_true_eq] at hk
    obtain ⟨⟨⟨hin, hf⟩, hr⟩, hrest⟩ := hk
    obtain ⟨hS, o, v, ho, hy, hw⟩ := h
    have inv : HeadInv md ops n listed := by
      rcases hinv with h | h
      · exact h
      · simp [Sch.calm] at h
    have hr' : i ∈ Region.ready md ops listed := by simpa using hr
    exact wpAnyT_first ho (Region.noSelect_spec hsel) hQ hs hc hn hin s.steps listed a w inv (Region.free_spec ho hf) hr' hy hS
      (wpAnyT_of_sch hsel hQ hs hc hn s _ _ _ hrest (.inl (inv.set hr' hin)) hw)
  | .one i s, listed, a, w, hk, hinv, h => by
    simp only [schOk, Bool.and_eq_true, beq_iff_eq] at hk
    obtain ⟨⟨hr, hd⟩, hrest⟩ := hk
    have hr' : i ∈ Region.ready md ops listed := by rw [hr]; simp
    have hnext : HeadInv md ops n (listed.setIfInBounds i true) ∨ s.calm = true := by
      rcases hinv with inv | h
      · rcases Nat.lt_or_ge i n with hin | hin
        · exact .inl (inv.set hr' hin)
        · right
          simp only [Bool.or_eq_true, decide_eq_true_eq] at hd
          rcases hd with hd | hd
          · omega
          · exact hd
      · exact .inr h
    refine ⟨fun h0 => (by rw [h0] at hr; cases hr), fun j hj => ?_⟩
    rw [hr, List.mem_singleton] at hj
    subst hj
    exact wpOp_mono (fun a' w' h' => ⟨h'.1, wpAnyT_of_sch hsel hQ hs hc hn s _ _ _ hrest hnext h'.2⟩) h
  | .two i j s t, listed, a, w, hk, hinv, h => by
    simp only [schOk, Bool.and_eq_true, beq_iff_eq, decide_eq_true_eq] at hk
    obtain ⟨⟨⟨⟨⟨hr, hin⟩, hjn⟩, hst⟩, h1⟩, h2⟩ := hk
    have hri : i ∈ Region.ready md ops listed := by rw [hr]; simp
    have hrj : j ∈ Region.ready md ops listed := by rw [hr]; simp
    have hni : HeadInv md ops n (listed.setIfInBounds i true) ∨ s.calm = true := by
      rcases hinv with inv | h
      · exact .inl (inv.set hri hin)
      · simp only [Sch.calm, Bool.and_eq_true] at h; exact .inr h.1
    have hnj : HeadInv md ops n (listed.setIfInBounds j true) ∨ t.calm = true := by
      rcases hinv with inv | h
      · exact .inl (inv.set hrj hjn)
      · simp only [Sch.calm, Bool.and_eq_true] at h; exact .inr h.2
    refine ⟨fun h0 => (by rw [h0] at hr; cases hr), fun m hm => ?_⟩
    rw [hr] at hm
    rcases List.mem_cons.1 hm with rfl | hm
    · exact wpOp_mono (fun a' w' h' => ⟨fun _ => h'.1, wpAnyT_of_sch hsel hQ hs hc hn s _ _ _ h1 hni h'.2⟩) h.1
    · rw [List.mem_singleton] at hm
      subst hm
      have : s.steps = t.steps := hst
      show wpOp P ops Q m (fun a' w' => (m < n → S w') ∧ wpAnyT P md ops Q n S s.steps (listed.setIfInBounds m true) a' w') a w
      rw [this]
      exact wpOp_mono (fun a' w' h' => ⟨fun _ => h'.1, wpAnyT_of_sch hsel hQ hs hc hn t _ _ _ h2 hnj h'.2⟩) h.2
  | .three i j k s t u, listed, a, w, hk, hinv, h => by
    simp only [schOk, Bool.and_eq_true, beq_iff_eq, decide_eq_true_eq] at hk
    obtain ⟨⟨⟨⟨⟨⟨⟨⟨hr, hin⟩, hjn⟩, hkn⟩, hst⟩, hsu⟩, h1⟩, h2⟩, h3⟩ := hk
    have hri : i ∈ Region.ready md ops listed := by rw [hr]; simp
    have hrj : j ∈ Region.ready md ops listed := by rw [hr]; simp
    have hrk : k ∈ Region.ready md ops listed := by rw [hr]; simp
    have hni : HeadInv md ops n (listed.setIfInBounds i true) ∨ s.calm = true := by
      rcases hinv with inv | h
      · exact .inl (inv.set hri hin)
      · simp only [Sch.calm, Bool.and_eq_true] at h; exact .inr h.1.1
    have hnj : HeadInv md ops n (listed.setIfInBounds j true) ∨ t.calm = true := by
      rcases hinv with inv | h
      · exact .inl (inv.set hrj hjn)
      · simp only [Sch.calm, Bool.and_eq_true] at h; exact .inr h.1.2
    have hnk : HeadInv md ops n (listed.setIfInBounds k true) ∨ u.calm = true := by
      rcases hinv with inv | h
      · exact .inl (inv.set hrk hkn)
      · simp only [Sch.calm, Bool.and_eq_true] at h; exact .inr h.2
    refine ⟨fun h0 => (by rw [h0] at hr; cases hr), fun m hm => ?_⟩
    rw [hr] at hm
    rcases List.mem_cons.1 hm with rfl | hm
    · exact wpOp_mono (fun a' w' h' => ⟨fun _ => h'.1, wpAnyT_of_sch hsel hQ hs hc hn s _ _ _ h1 hni h'.2⟩) h.1
    · rcases List.mem_cons.1 hm with rfl | hm
      · have : s.steps = t.steps := hst
        show wpOp P ops Q m (fun a' w' => (m < n → S w') ∧ wpAnyT P md ops Q n S s.steps (listed.setIfInBounds m true) a' w') a w
        rw [this]
        exact wpOp_mono (fun a' w' h' => ⟨fun _ => h'.1, wpAnyT_of_sch hsel hQ hs hc hn t _ _ _ h2 hnj h'.2⟩) h.2.1
      · rw [List.mem_singleton] at hm
        subst hm
        have : s.steps = u.steps := hsu
        show wpOp P ops Q m (fun a' w' => (m < n → S w') ∧ wpAnyT P md ops Q n S s.steps (listed.setIfInBounds m true) a' w') a w
        rw [this]
        exact wpOp_mono (fun a' w' h' => ⟨fun _ => h'.1, wpAnyT_of_sch hsel hQ hs hc hn u _ _ _ h3 hnk h'.2⟩) h.2.2

def schB (ops : Array Oper) (n : Nat) (s : Sch) : Bool :=
  Region.noSelect ops && Region.sinkB .any ops n && Region.chainB .any ops n && decide (n < ops.size) && (s.steps == ops.size) && schOk .any ops n s (Array.replicate ops.size false)
theorem wp_region_sch {id : Nat} {a : Act} {w : World} (hm : P.follows .mixedOrders = true) (n : Nat) (s : Sch) (S : World → Prop) (hB : schB ops n s = true)
    (hQ : ∀ c a (d : Option Tmp) v w, Q (.panic c) (Act.put a d v) w → Q (.panic c) a w) (hS : S w.drew) (h : S w.drew → wpSch P ops Q n S s a w.drew) : (Code.region id ops true).wp P Q a w := by
  simp only [schB, Bool.and_eq_true, decide_eq_true_eq, beq_iff_eq] at hB
  obtain ⟨⟨⟨⟨⟨h1, h2⟩, h3⟩, h4⟩, h5⟩, h6⟩ := hB
  refine wp_region_any hm (wpAny_of_T (n := n) (S := S) _ _ _ _ ?_)
  have key := wpAnyT_of_sch (md := .any) (S := S) h1 hQ h2 h3 h4 s (Array.replicate ops.size false) a w.drew h6 (.inl ⟨by simp, fun j oj _ hl => (by rw [getD_replicate_false] at hl; cases hl), fun t _ ht => (by simp [ht])⟩) (h hS)
  rw [h5] at key
  exact key
variable {l : List Oper}
theorem sch_read {n i : Nat} {s : Sch} {o : Oper} {v : Value} {a : Act} {w : World} (ho : opAt l i = some o) (hy : YieldsIf P l.toArray S o v a) (hS : S w) (h : wpSch P l.toArray Q n S s (a.put o.dst v) w) : wpSch P l.toArray Q n S (.read i s) a w :=
  ⟨hS, o, v, opAt_spec l i o ho, hy, h⟩
theorem sch_one {n i : Nat} {s : Sch} {o : Oper} {a : Act} {w : World} (ho : opAt l i = some o)
    (h : ∀ K' : Act → World → Prop, Shut (∀ a w, S w → (S w → wpSch P l.toArray Q n S s a w) → K' a w) → if Region.wanted o (yielded l.toArray a.tmps) = true then Oper.wp P o a w K' Q else K' (a.put o.dst undef) w) : wpSch P l.toArray Q n S (.one i s) a w :=
  wpOp_step (opAt_spec l i o ho) fun K' hK => h K' fun a w hS hW => hK a w ⟨fun _ => hS, hW hS⟩
theorem sch_tail {n i : Nat} {s : Sch} {o : Oper} {a : Act} {w : World} (ho : opAt l i = some o) (hn : n ≤ i)
    (h : ∀ K' : Act → World → Prop, Shut (∀ a w, wpSch P l.toArray Q n S s a w → K' a w) → if Region.wanted o (yielded l.toArray a.tmps) = true then Oper.wp P o a w K' Q else K' (a.put o.dst undef) w) : wpSch P l.toArray Q n S (.one i s) a w :=
  wpOp_step (opAt_spec l i o ho) fun K' hK => h K' fun a w hW => hK a w ⟨fun h => absurd h (by omega), hW⟩
theorem sch_two {n i j : Nat} {s t : Sch} {o o' : Oper} {a : Act} {w : World} (ho : opAt l i = some o) (ho' : opAt l j = some o')
    (h : ∀ K' : Act → World → Prop, Shut (∀ a w, S w → (S w → wpSch P l.toArray Q n S s a w) → K' a w) → if Region.wanted o (yielded l.toArray a.tmps) = true then Oper.wp P o a w K' Q else K' (a.put o.dst undef) w)
    (h' : ∀ K' : Act → World → Prop, Shut (∀ a w, S w → (S w → wpSch P l.toArray Q n S t a w) → K' a w) → if Region.wanted o' (yielded l.toArray a.tmps) = true then Oper.wp P o' a w K' Q else K' (a.put o'.dst undef) w) : wpSch P l.toArray Q n S (.two i j s t) a w :=
  ⟨wpOp_step (opAt_spec l i o ho) fun K' hK => h K' fun a w hS hW => hK a w ⟨hS, hW hS⟩, wpOp_step (opAt_spec l j o' ho') fun K' hK => h' K' fun a w hS hW => hK a w ⟨hS, hW hS⟩⟩
theorem sch_three {n i j k : Nat} {s t u : Sch} {o o' o'' : Oper} {a : Act} {w : World} (ho : opAt l i = some o) (ho' : opAt l j = some o') (ho'' : opAt l k = some o'')
    (h : ∀ K' : Act → World → Prop, Shut (∀ a w, S w → (S w → wpSch P l.toArray Q n S s a w) → K' a w) → if Region.wanted o (yielded l.toArray a.tmps) = true then Oper.wp P o a w K' Q else K' (a.put o.dst undef) w)
    (h' : ∀ K' : Act → World → Prop, Shut (∀ a w, S w → (S w → wpSch P l.toArray Q n S t a w) → K' a w) → if Region.wanted o' (yielded l.toArray a.tmps) = true then Oper.wp P o' a w K' Q else K' (a.put o'.dst undef) w)
    (h'' : ∀ K' : Act → World → Prop, Shut (∀ a w, S w → (S w → wpSch P l.toArray Q n S u a w) → K' a w) → if Region.wanted o'' (yielded l.toArray a.tmps) = true then Oper.wp P o'' a w K' Q else K' (a.put o''.dst undef) w) : wpSch P l.toArray Q n S (.three i j k s t u) a w :=
  ⟨wpOp_step (opAt_spec l i o ho) fun K' hK => h K' fun a w hS hW => hK a w ⟨hS, hW hS⟩, wpOp_step (opAt_spec l j o' ho') fun K' hK => h' K' fun a w hS hW => hK a w ⟨hS, hW hS⟩, wpOp_step (opAt_spec l k o'' ho'') fun K' hK => h'' K' fun a w hS hW => hK a w ⟨hS, hW hS⟩⟩
theorem sch_done {n : Nat} {a : Act} {w : World} (h : Q .normal a w) : wpSch P ops Q n S .done a w := h
end
end Go.Proofs.Ytfnnoncdocghjaa.T3
namespace Go.Proofs.Ytfnnoncdocghjaa
open Go.RowKit
set_option linter.unusedVariables false
set_option maxRecDepth 100000

set_option maxHeartbeats 6400000 in
theorem begin_any (N : Nat) (hN : N ≤ 5) (f : Int) (w : World) : Calls Try.prog 52 #[.int .i64 N, .int .i64 f] w (fun e w' => ∃ g r, e = .returned (.pointer (some ⟨g, 0, none⟩)) ∧ RnM w' w.heap.size g N f r ∧ r.p.st = startV N ∧ r.S = [] ∧ Ext w w') := by
  go_enter Try.func52, Try.ntmps52
  go_upto_region 1 with fail
  refine T3.wp_region_sch (by kernel_rfl) 9 (.read 0 (.read 1 (.read 2 (.read 4 (.read 6 (.three 3 5 7 (.two 5 7 (.one 7 (.read 8 (.one 9 (.one 10 .done)))) (.one 5 (.read 8 (.one 9 (.one 10 .done))))) (.two 3 7 (.one 7 (.read 8 (.one 9 (.one 10 .done)))) (.one 3 (.read 8 (.one 9 (.one 10 .done))))) (.two 3 5 (.one 5 (.read 8 (.one 9 (.one 10 .done)))) (.one 3 (.read 8 (.one 9 (.one 10 .done))))))))))) (fun _ => True) (by kernel_rfl) (fun _ _ dd _ _ h => by cases dd <;> exact h) trivial (fun hHeld => ?_)
  iterate 5 ((refine T3.sch_read (v := ?_) rfl (Or.inl ⟨by rfl, ?_⟩) hHeld ?_; rotate_left 1; · (intro w' hSw; go_simp; (first | done | with_reducible rfl))); (try simp only [Act.put, List.setIfInBounds_toArray, List.set_cons_zero, List.set_cons_succ]))
  refine T3.sch_three rfl rfl rfl (fun K hK => ?_) (fun K hK => ?_) (fun K hK => ?_)
  · have hsz1 : w.heap.size ≤ w.drew.heap.size := Nat.le_refl _
    have hm1 := mk_evs N (by omega) w.drew
    obtain ⟨ge, hge⟩ : ∃ gg, w.drew.heap.size = gg := ⟨_, rfl⟩
    rw [hge] at hm1
    have hbe : Blk (w.drew.alloc (.cells ((List.replicate N (⟨none, 0, []⟩ : Gr Ev)).flatMap Gr.cells).toArray 65)) ge 65 ((List.replicate N (⟨none, 0, []⟩ : Gr Ev)).flatMap Gr.cells).toArray := by rw [← hge]; exact Blk.new w.drew _ _
    have hx1 : Ext w.drew (w.drew.alloc (.cells ((List.replicate N (⟨none, 0, []⟩ : Gr Ev)).flatMap Gr.cells).toArray 65)) := (Ext.refl _).allocs _
    have hze : w.heap.size ≤ ge := by rw [← hge]; exact hsz1
    obtain ⟨wn1, hw1⟩ : ∃ wn, w.drew.alloc (.cells ((List.replicate N (⟨none, 0, []⟩ : Gr Ev)).flatMap Gr.cells).toArray 65) = wn := ⟨_, rfl⟩
    rw [hw1] at hm1 hbe hx1
    have hsz2 : w.heap.size ≤ wn1.heap.size := Nat.le_trans hsz1 hx1.size
    go_simp
    refine hK.out _ _ trivial (fun hHeld => ?_)
    clear hK K
    (try simp only [Act.put, List.setIfInBounds_toArray, List.set_cons_zero, List.set_cons_succ])
    clear hm1 hw1
    refine T3.sch_two rfl rfl (fun K hK => ?_) (fun K hK => ?_)
    · have hm2 := mk_kns N (by omega) wn1
      obtain ⟨gk, hgk⟩ : ∃ gg, wn1.heap.size = gg := ⟨_, rfl⟩
      rw [hgk] at hm2
      have hbk : Blk (wn1.alloc (.cells ((List.replicate N (⟨none, 0, []⟩ : Gr Kn)).flatMap Gr.cells).toArray 26)) gk 26 ((List.replicate N (⟨none, 0, []⟩ : Gr Kn)).flatMap Gr.cells).toArray := by rw [← hgk]; exact Blk.new wn1 _ _
      have hx2 : Ext wn1 (wn1.alloc (.cells ((List.replicate N (⟨none, 0, []⟩ : Gr Kn)).flatMap Gr.cells).toArray 26)) := (Ext.refl _).allocs _
      have hzk : w.heap.size ≤ gk := by rw [← hgk]; exact hsz2
      obtain ⟨wn2, hw2⟩ : ∃ wn, wn1.alloc (.cells ((List.replicate N (⟨none, 0, []⟩ : Gr Kn)).flatMap Gr.cells).toArray 26) = wn := ⟨_, rfl⟩
      rw [hw2] at hm2 hbk hx2
      have hsz3 : w.heap.size ≤ wn2.heap.size := Nat.le_trans hsz2 hx2.size
      go_simp
      refine hK.out _ _ trivial (fun hHeld => ?_)
      clear hK K
      (try simp only [Act.put, List.setIfInBounds_toArray, List.set_cons_zero, List.set_cons_succ])
      clear hm2 hw2
      have hm3 := mk_ints N (by omega) wn2
      obtain ⟨go, hgo⟩ : ∃ gg, wn2.heap.size = gg := ⟨_, rfl⟩
      rw [hgo] at hm3
      have hbo : Blk (wn2.alloc (.cells ((List.replicate N 0).flatMap Nv).toArray 3)) go 3 ((List.replicate N 0).flatMap Nv).toArray := by rw [← hgo]; exact Blk.new wn2 _ _
      have hx3 : Ext wn2 (wn2.alloc (.cells ((List.replicate N 0).flatMap Nv).toArray 3)) := (Ext.refl _).allocs _
      have hzo : w.heap.size ≤ go := by rw [← hgo]; exact hsz3
      obtain ⟨wn3, hw3⟩ : ∃ wn, wn2.alloc (.cells ((List.replicate N 0).flatMap Nv).toArray 3) = wn := ⟨_, rfl⟩
      rw [hw3] at hm3 hbo hx3
      have hsz4 : w.heap.size ≤ wn3.heap.size := Nat.le_trans hsz3 hx3.size
      refine T3.sch_one rfl (fun K hK => ?_)
      go_simp
      refine hK.out _ _ trivial (fun hHeld => ?_)
      clear hK K
      (try simp only [Act.put, List.setIfInBounds_toArray, List.set_cons_zero, List.set_cons_succ])
      clear hm3 hw3
      iterate 1 ((refine T3.sch_read (v := ?_) rfl (Or.inl ⟨by rfl, ?_⟩) hHeld ?_; rotate_left 1; · (intro w' hSw; go_simp; (first | done | with_reducible rfl))); (try simp only [Act.put, List.setIfInBounds_toArray, List.set_cons_zero, List.set_cons_succ]))
      have HBe : Hid (Blk wn3 ge 65 ((List.replicate N (⟨none, 0, []⟩ : Gr Ev)).flatMap Gr.cells).toArray) := (hbe.ext (Ext.trans hx2 hx3))
      have HBk : Hid (Blk wn3 gk 26 ((List.replicate N (⟨none, 0, []⟩ : Gr Kn)).flatMap Gr.cells).toArray) := (hbk.ext hx3)
      have HBo : Hid (Blk wn3 go 3 ((List.replicate N 0).flatMap Nv).toArray) := hbo
      have HX3 : Hid (Ext w wn3) := Ext.trans (Below.drew (Ext.refl w)) (Ext.trans hx1 (Ext.trans hx2 hx3))
      clear hbe hbk hbo hx1 hx2 hx3
      refine T3.sch_tail rfl (by decide) (fun K hK => ?_)
      go_simp
      refine hK.out _ (wn3.alloc (.cells #[.int .i64 N, .int .i64 f, .slice (some ⟨ge, 0, none⟩) N N, .slice (some ⟨gk, 0, none⟩) N N, .slice none 0 0, .slice (some ⟨go, 0, none⟩) N N, .slice none 0 0] 94)) ?_
      clear hK K
      (try simp only [Act.put, List.setIfInBounds_toArray, List.set_cons_zero, List.set_cons_succ])
      refine T3.sch_tail rfl (by decide) (fun K hK => ?_)
      go_simp
      refine hK.out _ _ ?_
      clear hK K
      (try simp only [Act.put, List.setIfInBounds_toArray, List.set_cons_zero, List.set_cons_succ])
      refine T3.sch_done ?_
      have hE : Ext wn3 (wn3.alloc (.cells #[.int .i64 N, .int .i64 f, .slice (some ⟨ge, 0, none⟩) N N, .slice (some ⟨gk, 0, none⟩) N N, .slice none 0 0, .slice (some ⟨go, 0, none⟩) N N, .slice none 0 0] 94)) := (Ext.refl _).allocs _
      have HR := Lib.hid (RnM.start (base := w.heap.size) (f := f) (Blk.new wn3 94 #[.int .i64 N, .int .i64 f, .slice (some ⟨ge, 0, none⟩) N N, .slice (some ⟨gk, 0, none⟩) N N, .slice none 0 0, .slice (some ⟨go, 0, none⟩) N N, .slice none 0 0]) (Blk.ext HBe.out hE) (Blk.ext HBk.out hE) (Blk.ext HBo.out hE) hsz4 hze hzk hzo)
      have HEF := Lib.hid (Ext.trans HX3.out hE)
      clear hE HBe HBk HBo HX3
      go_wp2_with fail
      go_ret
      exact ⟨_, _, rfl, HR.out, CpM.start_st _ _ _ _, rfl, HEF.out⟩
    · have hm2 := mk_ints N (by omega) wn1
      obtain ⟨go, hgo⟩ : ∃ gg, wn1.heap.size = gg := ⟨_, rfl⟩
      rw [hgo] at hm2
      have hbo : Blk (wn1.alloc (.cells ((List.replicate N 0).flatMap Nv).toArray 3)) go 3 ((List.replicate N 0).flatMap Nv).toArray := by rw [← hgo]; exact Blk.new wn1 _ _
      have hx2 : Ext wn1 (wn1.alloc (.cells ((List.replicate N 0).flatMap Nv).toArray 3)) := (Ext.refl _).allocs _
      have hzo : w.heap.size ≤ go := by rw [← hgo]; exact hsz2
      obtain ⟨wn2, hw2⟩ : ∃ wn, wn1.alloc (.cells ((List.replicate N 0).flatMap Nv).toArray 3) = wn := ⟨_, rfl⟩
      rw [hw2] at hm2 hbo hx2
      have hsz3 : w.heap.size ≤ wn2.heap.size := Nat.le_trans hsz2 hx2.size
      go_simp
      refine hK.out _ _ trivial (fun hHeld => ?_)
      clear hK K
      (try simp only [Act.put, List.setIfInBounds_toArray, List.set_cons_zero, List.set_cons_succ])
      clear hm2 hw2
      have hm3 := mk_kns N (by omega) wn2
      obtain ⟨gk, hgk⟩ : ∃ gg, wn2.heap.size = gg := ⟨_, rfl⟩
      rw [hgk] at hm3
      have hbk : Blk (wn2.alloc (.cells ((List.replicate N (⟨none, 0, []⟩ : Gr Kn)).flatMap Gr.cells).toArray 26)) gk 26 ((List.replicate N (⟨none, 0, []⟩ : Gr Kn)).flatMap Gr.cells).toArray := by rw [← hgk]; exact Blk.new wn2 _ _
      have hx3 : Ext wn2 (wn2.alloc (.cells ((List.replicate N (⟨none, 0, []⟩ : Gr Kn)).flatMap Gr.cells).toArray 26)) := (Ext.refl _).allocs _
      have hzk : w.heap.size ≤ gk := by rw [← hgk]; exact hsz3
      obtain ⟨wn3, hw3⟩ : ∃ wn, wn2.alloc (.cells ((List.replicate N (⟨none, 0, []⟩ : Gr Kn)).flatMap Gr.cells).toArray 26) = wn := ⟨_, rfl⟩
      rw [hw3] at hm3 hbk hx3
      have hsz4 : w.heap.size ≤ wn3.heap.size := Nat.le_trans hsz3 hx3.size
      refine T3.sch_one rfl (fun K hK => ?_)
      go_simp
      refine hK.out _ _ trivial (fun hHeld => ?_)
      clear hK K
      (try simp only [Act.put, List.setIfInBounds_toArray, List.set_cons_zero, List.set_cons_succ])
      clear hm3 hw3
      iterate 1 ((refine T3.sch_read (v := ?_) rfl (Or.inl ⟨by rfl, ?_⟩) hHeld ?_; rotate_left 1; · (intro w' hSw; go_simp; (first | done | with_reducible rfl))); (try simp only [Act.put, List.setIfInBounds_toArray, List.set_cons_zero, List.set_cons_succ]))
      have HBe : Hid (Blk wn3 ge 65 ((List.replicate N (⟨none, 0, []⟩ : Gr Ev)).flatMap Gr.cells).toArray) := (hbe.ext (Ext.trans hx2 hx3))
      have HBk : Hid (Blk wn3 gk 26 ((List.replicate N (⟨none, 0, []⟩ : Gr Kn)).flatMap Gr.cells).toArray) := hbk
      have HBo : Hid (Blk wn3 go 3 ((List.replicate N 0).flatMap Nv).toArray) := (hbo.ext hx3)
      have HX3 : Hid (Ext w wn3) := Ext.trans (Below.drew (Ext.refl w)) (Ext.trans hx1 (Ext.trans hx2 hx3))
      clear hbe hbk hbo hx1 hx2 hx3
      refine T3.sch_tail rfl (by decide) (fun K hK => ?_)
      go_simp
      refine hK.out _ (wn3.alloc (.cells #[.int .i64 N, .int .i64 f, .slice (some ⟨ge, 0, none⟩) N N, .slice (some ⟨gk, 0, none⟩) N N, .slice none 0 0, .slice (some ⟨go, 0, none⟩) N N, .slice none 0 0] 94)) ?_
      clear hK K
      (try simp only [Act.put, List.setIfInBounds_toArray, List.set_cons_zero, List.set_cons_succ])
      refine T3.sch_tail rfl (by decide) (fun K hK => ?_)
      go_simp
      refine hK.out _ _ ?_
      clear hK K
      (try simp only [Act.put, List.setIfInBounds_toArray, List.set_cons_zero, List.set_cons_succ])
      refine T3.sch_done ?_
      have hE : Ext wn3 (wn3.alloc (.cells #[.int .i64 N, .int .i64 f, .slice (some ⟨ge, 0, none⟩) N N, .slice (some ⟨gk, 0, none⟩) N N, .slice none 0 0, .slice (some ⟨go, 0, none⟩) N N, .slice none 0 0] 94)) := (Ext.refl _).allocs _
      have HR := Lib.hid (RnM.start (base := w.heap.size) (f := f) (Blk.new wn3 94 #[.int .i64 N, .int .i64 f, .slice (some ⟨ge, 0, none⟩) N N, .slice (some ⟨gk, 0, none⟩) N N, .slice none 0 0, .slice (some ⟨go, 0, none⟩) N N, .slice none 0 0]) (Blk.ext HBe.out hE) (Blk.ext HBk.out hE) (Blk.ext HBo.out hE) hsz4 hze hzk hzo)
      have HEF := Lib.hid (Ext.trans HX3.out hE)
      clear hE HBe HBk HBo HX3
      go_wp2_with fail
      go_ret
      exact ⟨_, _, rfl, HR.out, CpM.start_st _ _ _ _, rfl, HEF.out⟩
  · have hsz1 : w.heap.size ≤ w.drew.heap.size := Nat.le_refl _
    have hm1 := mk_kns N (by omega) w.drew
    obtain ⟨gk, hgk⟩ : ∃ gg, w.drew.heap.size = gg := ⟨_, rfl⟩
    rw [hgk] at hm1
    have hbk : Blk (w.drew.alloc (.cells ((List.replicate N (⟨none, 0, []⟩ : Gr Kn)).flatMap Gr.cells).toArray 26)) gk 26 ((List.replicate N (⟨none, 0, []⟩ : Gr Kn)).flatMap Gr.cells).toArray := by rw [← hgk]; exact Blk.new w.drew _ _
    have hx1 : Ext w.drew (w.drew.alloc (.cells ((List.replicate N (⟨none, 0, []⟩ : Gr Kn)).flatMap Gr.cells).toArray 26)) := (Ext.refl _).allocs _
    have hzk : w.heap.size ≤ gk := by rw [← hgk]; exact hsz1
    obtain ⟨wn1, hw1⟩ : ∃ wn, w.drew.alloc (.cells ((List.replicate N (⟨none, 0, []⟩ : Gr Kn)).flatMap Gr.cells).toArray 26) = wn := ⟨_, rfl⟩
    rw [hw1] at hm1 hbk hx1
    have hsz2 : w.heap.size ≤ wn1.heap.size := Nat.le_trans hsz1 hx1.size
    go_simp
    refine hK.out _ _ trivial (fun hHeld => ?_)
    clear hK K
    (try simp only [Act.put, List.setIfInBounds_toArray, List.set_cons_zero, List.set_cons_succ])
    clear hm1 hw1
    refine T3.sch_two rfl rfl (fun K hK => ?_) (fun K hK => ?_)
    · have hm2 := mk_evs N (by omega) wn1
      obtain ⟨ge, hge⟩ : ∃ gg, wn1.heap.size = gg := ⟨_, rfl⟩
      rw [hge] at hm2
      have hbe : Blk (wn1.alloc (.cells ((List.replicate N (⟨none, 0, []⟩ : Gr Ev)).flatMap Gr.cells).toArray 65)) ge 65 ((List.replicate N (⟨none, 0, []⟩ : Gr Ev)).flatMap Gr.cells).toArray := by rw [← hge]; exact Blk.new wn1 _ _
      have hx2 : Ext wn1 (wn1.alloc (.cells ((List.replicate N (⟨none, 0, []⟩ : Gr Ev)).flatMap Gr.cells).toArray 65)) := (Ext.refl _).allocs _
      have hze : w.heap.size ≤ ge := by rw [← hge]; exact hsz2
      obtain ⟨wn2, hw2⟩ : ∃ wn, wn1.alloc (.cells ((List.replicate N (⟨none, 0, []⟩ : Gr Ev)).flatMap Gr.cells).toArray 65) = wn := ⟨_, rfl⟩
      rw [hw2] at hm2 hbe hx2
      have hsz3 : w.heap.size ≤ wn2.heap.size := Nat.le_trans hsz2 hx2.size
      go_simp
      refine hK.out _ _ trivial (fun hHeld => ?_)
      clear hK K
      (try simp only [Act.put, List.setIfInBounds_toArray, List.set_cons_zero, List.set_cons_succ])
      clear hm2 hw2
      have hm3 := mk_ints N (by omega) wn2
      obtain ⟨go, hgo⟩ : ∃ gg, wn2.heap.size = gg := ⟨_, rfl⟩
      rw [hgo] at hm3
      have hbo : Blk (wn2.alloc (.cells ((List.replicate N 0).flatMap Nv).toArray 3)) go 3 ((List.replicate N 0).flatMap Nv).toArray := by rw [← hgo]; exact Blk.new wn2 _ _
      have hx3 : Ext wn2 (wn2.alloc (.cells ((List.replicate N 0).flatMap Nv).toArray 3)) := (Ext.refl _).allocs _
      have hzo : w.heap.size ≤ go := by rw [← hgo]; exact hsz3
      obtain ⟨wn3, hw3⟩ : ∃ wn, wn2.alloc (.cells ((List.replicate N 0).flatMap Nv).toArray 3) = wn := ⟨_, rfl⟩
      rw [hw3] at hm3 hbo hx3
      have hsz4 : w.heap.size ≤ wn3.heap.size := Nat.le_trans hsz3 hx3.size
      refine T3.sch_one rfl (fun K hK => ?_)
      go_simp
      refine hK.out _ _ trivial (fun hHeld => ?_)
      clear hK K
      (try simp only [Act.put, List.setIfInBounds_toArray, List.set_cons_zero, List.set_cons_succ])
      clear hm3 hw3
      iterate 1 ((refine T3.sch_read (v := ?_) rfl (Or.inl ⟨by rfl, ?_⟩) hHeld ?_; rotate_left 1; · (intro w' hSw; go_simp; (first | done | with_reducible rfl))); (try simp only [Act.put, List.setIfInBounds_toArray, List.set_cons_zero, List.set_cons_succ]))
      have HBe : Hid (Blk wn3 ge 65 ((List.replicate N (⟨none, 0, []⟩ : Gr Ev)).flatMap Gr.cells).toArray) := (hbe.ext hx3)
      have HBk : Hid (Blk wn3 gk 26 ((List.replicate N (⟨none, 0, []⟩ : Gr Kn)).flatMap Gr.cells).toArray) := (hbk.ext (Ext.trans hx2 hx3))
      have HBo : Hid (Blk wn3 go 3 ((List.replicate N 0).flatMap Nv).toArray) := hbo
      have HX3 : Hid (Ext w wn3) := Ext.trans (Below.drew (Ext.refl w)) (Ext.trans hx1 (Ext.trans hx2 hx3))
      clear hbe hbk hbo hx1 hx2 hx3
      refine T3.sch_tail rfl (by decide) (fun K hK => ?_)
      go_simp
      refine hK.out _ (wn3.alloc (.cells #[.int .i64 N, .int .i64 f, .slice (some ⟨ge, 0, none⟩) N N, .slice (some ⟨gk, 0, none⟩) N N, .slice none 0 0, .slice (some ⟨go, 0, none⟩) N N, .slice none 0 0] 94)) ?_
      clear hK K
      (try simp only [Act.put, List.setIfInBounds_toArray, List.set_cons_zero, List.set_cons_succ])
      refine T3.sch_tail rfl (by decide) (fun K hK => ?_)
      go_simp
      refine hK.out _ _ ?_
      clear hK K
      (try simp only [Act.put, List.setIfInBounds_toArray, List.set_cons_zero, List.set_cons_succ])
      refine T3.sch_done ?_
      have hE : Ext wn3 (wn3.alloc (.cells #[.int .i64 N, .int .i64 f, .slice (some ⟨ge, 0, none⟩) N N, .slice (some ⟨gk, 0, none⟩) N N, .slice none 0 0, .slice (some ⟨go, 0, none⟩) N N, .slice none 0 0] 94)) := (Ext.refl _).allocs _
      have HR := Lib.hid (RnM.start (base := w.heap.size) (f := f) (Blk.new wn3 94 #[.int .i64 N, .int .i64 f, .slice (some ⟨ge, 0, none⟩) N N, .slice (some ⟨gk, 0, none⟩) N N, .slice none 0 0, .slice (some ⟨go, 0, none⟩) N N, .slice none 0 0]) (Blk.ext HBe.out hE) (Blk.ext HBk.out hE) (Blk.ext HBo.out hE) hsz4 hze hzk hzo)
      have HEF := Lib.hid (Ext.trans HX3.out hE)
      clear hE HBe HBk HBo HX3
      go_wp2_with fail
      go_ret
      exact ⟨_, _, rfl, HR.out, CpM.start_st _ _ _ _, rfl, HEF.out⟩
    · have hm2 := mk_ints N (by omega) wn1
      obtain ⟨go, hgo⟩ : ∃ gg, wn1.heap.size = gg := ⟨_, rfl⟩
      rw [hgo] at hm2
      have hbo : Blk (wn1.alloc (.cells ((List.replicate N 0).flatMap Nv).toArray 3)) go 3 ((List.replicate N 0).flatMap Nv).toArray := by rw [← hgo]; exact Blk.new wn1 _ _
      have hx2 : Ext wn1 (wn1.alloc (.cells ((List.replicate N 0).flatMap Nv).toArray 3)) := (Ext.refl _).allocs _
      have hzo : w.heap.size ≤ go := by rw [← hgo]; exact hsz2
      obtain ⟨wn2, hw2⟩ : ∃ wn, wn1.alloc (.cells ((List.replicate N 0).flatMap Nv).toArray 3) = wn := ⟨_, rfl⟩
      rw [hw2] at hm2 hbo hx2
      have hsz3 : w.heap.size ≤ wn2.heap.size := Nat.le_trans hsz2 hx2.size
      go_simp
      refine hK.out _ _ trivial (fun hHeld => ?_)
      clear hK K
      (try simp only [Act.put, List.setIfInBounds_toArray, List.set_cons_zero, List.set_cons_succ])
      clear hm2 hw2
      have hm3 := mk_evs N (by omega) wn2
      obtain ⟨ge, hge⟩ : ∃ gg, wn2.heap.size = gg := ⟨_, rfl⟩
      rw [hge] at hm3
      have hbe : Blk (wn2.alloc (.cells ((List.replicate N (⟨none, 0, []⟩ : Gr Ev)).flatMap Gr.cells).toArray 65)) ge 65 ((List.replicate N (⟨none, 0, []⟩ : Gr Ev)).flatMap Gr.cells).toArray := by rw [← hge]; exact Blk.new wn2 _ _
      have hx3 : Ext wn2 (wn2.alloc (.cells ((List.replicate N (⟨none, 0, []⟩ : Gr Ev)).flatMap Gr.cells).toArray 65)) := (Ext.refl _).allocs _
      have hze : w.heap.size ≤ ge := by rw [← hge]; exact hsz3
      obtain ⟨wn3, hw3⟩ : ∃ wn, wn2.alloc (.cells ((List.replicate N (⟨none, 0, []⟩ : Gr Ev)).flatMap Gr.cells).toArray 65) = wn := ⟨_, rfl⟩
      rw [hw3] at hm3 hbe hx3
      have hsz4 : w.heap.size ≤ wn3.heap.size := Nat.le_trans hsz3 hx3.size
      refine T3.sch_one rfl (fun K hK => ?_)
      go_simp
      refine hK.out _ _ trivial (fun hHeld => ?_)
      clear hK K
      (try simp only [Act.put, List.setIfInBounds_toArray, List.set_cons_zero, List.set_cons_succ])
      clear hm3 hw3
      iterate 1 ((refine T3.sch_read (v := ?_) rfl (Or.inl ⟨by rfl, ?_⟩) hHeld ?_; rotate_left 1; · (intro w' hSw; go_simp; (first | done | with_reducible rfl))); (try simp only [Act.put, List.setIfInBounds_toArray, List.set_cons_zero, List.set_cons_succ]))
      have HBe : Hid (Blk wn3 ge 65 ((List.replicate N (⟨none, 0, []⟩ : Gr Ev)).flatMap Gr.cells).toArray) := hbe
      have HBk : Hid (Blk wn3 gk 26 ((List.replicate N (⟨none, 0, []⟩ : Gr Kn)).flatMap Gr.cells).toArray) := (hbk.ext (Ext.trans hx2 hx3))
      have HBo : Hid (Blk wn3 go 3 ((List.replicate N 0).flatMap Nv).toArray) := (hbo.ext hx3)
      have HX3 : Hid (Ext w wn3) := Ext.trans (Below.drew (Ext.refl w)) (Ext.trans hx1 (Ext.trans hx2 hx3))
      clear hbe hbk hbo hx1 hx2 hx3
      refine T3.sch_tail rfl (by decide) (fun K hK => ?_)
      go_simp
      refine hK.out _ (wn3.alloc (.cells #[.int .i64 N, .int .i64 f, .slice (some ⟨ge, 0, none⟩) N N, .slice (some ⟨gk, 0, none⟩) N N, .slice none 0 0, .slice (some ⟨go, 0, none⟩) N N, .slice none 0 0] 94)) ?_
      clear hK K
      (try simp only [Act.put, List.setIfInBounds_toArray, List.set_cons_zero, List.set_cons_succ])
      refine T3.sch_tail rfl (by decide) (fun K hK => ?_)
      go_simp
      refine hK.out _ _ ?_
      clear hK K
      (try simp only [Act.put, List.setIfInBounds_toArray, List.set_cons_zero, List.set_cons_succ])
      refine T3.sch_done ?_
      have hE : Ext wn3 (wn3.alloc (.cells #[.int .i64 N, .int .i64 f, .slice (some ⟨ge, 0, none⟩) N N, .slice (some ⟨gk, 0, none⟩) N N, .slice none 0 0, .slice (some ⟨go, 0, none⟩) N N, .slice none 0 0] 94)) := (Ext.refl _).allocs _
      have HR := Lib.hid (RnM.start (base := w.heap.size) (f := f) (Blk.new wn3 94 #[.int .i64 N, .int .i64 f, .slice (some ⟨ge, 0, none⟩) N N, .slice (some ⟨gk, 0, none⟩) N N, .slice none 0 0, .slice (some ⟨go, 0, none⟩) N N, .slice none 0 0]) (Blk.ext HBe.out hE) (Blk.ext HBk.out hE) (Blk.ext HBo.out hE) hsz4 hze hzk hzo)
      have HEF := Lib.hid (Ext.trans HX3.out hE)
      clear hE HBe HBk HBo HX3
      go_wp2_with fail
      go_ret
      exact ⟨_, _, rfl, HR.out, CpM.start_st _ _ _ _, rfl, HEF.out⟩
  · have hsz1 : w.heap.size ≤ w.drew.heap.size := Nat.le_refl _
    have hm1 := mk_ints N (by omega) w.drew
    obtain ⟨go, hgo⟩ : ∃ gg, w.drew.heap.size = gg := ⟨_, rfl⟩
    rw [hgo] at hm1
    have hbo : Blk (w.drew.alloc (.cells ((List.replicate N 0).flatMap Nv).toArray 3)) go 3 ((List.replicate N 0).flatMap Nv).toArray := by rw [← hgo]; exact Blk.new w.drew _ _
    have hx1 : Ext w.drew (w.drew.alloc (.cells ((List.replicate N 0).flatMap Nv).toArray 3)) := (Ext.refl _).allocs _
    have hzo : w.heap.size ≤ go := by rw [← hgo]; exact hsz1
    obtain ⟨wn1, hw1⟩ : ∃ wn, w.drew.alloc (.cells ((List.replicate N 0).flatMap Nv).toArray 3) = wn := ⟨_, rfl⟩
    rw [hw1] at hm1 hbo hx1
    have hsz2 : w.heap.size ≤ wn1.heap.size := Nat.le_trans hsz1 hx1.size
    go_simp
    refine hK.out _ _ trivial (fun hHeld => ?_)
    clear hK K
    (try simp only [Act.put, List.setIfInBounds_toArray, List.set_cons_zero, List.set_cons_succ])
    clear hm1 hw1
    refine T3.sch_two rfl rfl (fun K hK => ?_) (fun K hK => ?_)
    · have hm2 := mk_evs N (by omega) wn1
      obtain ⟨ge, hge⟩ : ∃ gg, wn1.heap.size = gg := ⟨_, rfl⟩
      rw [hge] at hm2
      have hbe : Blk (wn1.alloc (.cells ((List.replicate N (⟨none, 0, []⟩ : Gr Ev)).flatMap Gr.cells).toArray 65)) ge 65 ((List.replicate N (⟨none, 0, []⟩ : Gr Ev)).flatMap Gr.cells).toArray := by rw [← hge]; exact Blk.new wn1 _ _
      have hx2 : Ext wn1 (wn1.alloc (.cells ((List.replicate N (⟨none, 0, []⟩ : Gr Ev)).flatMap Gr.cells).toArray 65)) := (Ext.refl _).allocs _
      have hze : w.heap.size ≤ ge := by rw [← hge]; exact hsz2
      obtain ⟨wn2, hw2⟩ : ∃ wn, wn1.alloc (.cells ((List.replicate N (⟨none, 0, []⟩ : Gr Ev)).flatMap Gr.cells).toArray 65) = wn := ⟨_, rfl⟩
      rw [hw2] at hm2 hbe hx2
      have hsz3 : w.heap.size ≤ wn2.heap.size := Nat.le_trans hsz2 hx2.size
      go_simp
      refine hK.out _ _ trivial (fun hHeld => ?_)
      clear hK K
      (try simp only [Act.put, List.setIfInBounds_toArray, List.set_cons_zero, List.set_cons_succ])
      clear hm2 hw2
      have hm3 := mk_kns N (by omega) wn2
      obtain ⟨gk, hgk⟩ : ∃ gg, wn2.heap.size = gg := ⟨_, rfl⟩
      rw [hgk] at hm3
      have hbk : Blk (wn2.alloc (.cells ((List.replicate N (⟨none, 0, []⟩ : Gr Kn)).flatMap Gr.cells).toArray 26)) gk 26 ((List.replicate N (⟨none, 0, []⟩ : Gr Kn)).flatMap Gr.cells).toArray := by rw [← hgk]; exact Blk.new wn2 _ _
      have hx3 : Ext wn2 (wn2.alloc (.cells ((List.replicate N (⟨none, 0, []⟩ : Gr Kn)).flatMap Gr.cells).toArray 26)) := (Ext.refl _).allocs _
      have hzk : w.heap.size ≤ gk := by rw [← hgk]; exact hsz3
      obtain ⟨wn3, hw3⟩ : ∃ wn, wn2.alloc (.cells ((List.replicate N (⟨none, 0, []⟩ : Gr Kn)).flatMap Gr.cells).toArray 26) = wn := ⟨_, rfl⟩
      rw [hw3] at hm3 hbk hx3
      have hsz4 : w.heap.size ≤ wn3.heap.size := Nat.le_trans hsz3 hx3.size
      refine T3.sch_one rfl (fun K hK => ?_)
      go_simp
      refine hK.out _ _ trivial (fun hHeld => ?_)
      clear hK K
      (try simp only [Act.put, List.setIfInBounds_toArray, List.set_cons_zero, List.set_cons_succ])
      clear hm3 hw3
      iterate 1 ((refine T3.sch_read (v := ?_) rfl (Or.inl ⟨by rfl, ?_⟩) hHeld ?_; rotate_left 1; · (intro w' hSw; go_simp; (first | done | with_reducible rfl))); (try simp only [Act.put, List.setIfInBounds_toArray, List.set_cons_zero, List.set_cons_succ]))
      have HBe : Hid (Blk wn3 ge 65 ((List.replicate N (⟨none, 0, []⟩ : Gr Ev)).flatMap Gr.cells).toArray) := (hbe.ext hx3)
      have HBk : Hid (Blk wn3 gk 26 ((List.replicate N (⟨none, 0, []⟩ : Gr Kn)).flatMap Gr.cells).toArray) := hbk
      have HBo : Hid (Blk wn3 go 3 ((List.replicate N 0).flatMap Nv).toArray) := (hbo.ext (Ext.trans hx2 hx3))
      have HX3 : Hid (Ext w wn3) := Ext.trans (Below.drew (Ext.refl w)) (Ext.trans hx1 (Ext.trans hx2 hx3))
      clear hbe hbk hbo hx1 hx2 hx3
      refine T3.sch_tail rfl (by decide) (fun K hK => ?_)
      go_simp
      refine hK.out _ (wn3.alloc (.cells #[.int .i64 N, .int .i64 f, .slice (some ⟨ge, 0, none⟩) N N, .slice (some ⟨gk, 0, none⟩) N N, .slice none 0 0, .slice (some ⟨go, 0, none⟩) N N, .slice none 0 0] 94)) ?_
      clear hK K
      (try simp only [Act.put, List.setIfInBounds_toArray, List.set_cons_zero, List.set_cons_succ])
      refine T3.sch_tail rfl (by decide) (fun K hK => ?_)
      go_simp
      refine hK.out _ _ ?_
      clear hK K
      (try simp only [Act.put, List.setIfInBounds_toArray, List.set_cons_zero, List.set_cons_succ])
      refine T3.sch_done ?_
      have hE : Ext wn3 (wn3.alloc (.cells #[.int .i64 N, .int .i64 f, .slice (some ⟨ge, 0, none⟩) N N, .slice (some ⟨gk, 0, none⟩) N N, .slice none 0 0, .slice (some ⟨go, 0, none⟩) N N, .slice none 0 0] 94)) := (Ext.refl _).allocs _
      have HR := Lib.hid (RnM.start (base := w.heap.size) (f := f) (Blk.new wn3 94 #[.int .i64 N, .int .i64 f, .slice (some ⟨ge, 0, none⟩) N N, .slice (some ⟨gk, 0, none⟩) N N, .slice none 0 0, .slice (some ⟨go, 0, none⟩) N N, .slice none 0 0]) (Blk.ext HBe.out hE) (Blk.ext HBk.out hE) (Blk.ext HBo.out hE) hsz4 hze hzk hzo)
      have HEF := Lib.hid (Ext.trans HX3.out hE)
      clear hE HBe HBk HBo HX3
      go_wp2_with fail
      go_ret
      exact ⟨_, _, rfl, HR.out, CpM.start_st _ _ _ _, rfl, HEF.out⟩
    · have hm2 := mk_kns N (by omega) wn1
      obtain ⟨gk, hgk⟩ : ∃ gg, wn1.heap.size = gg := ⟨_, rfl⟩
      rw [hgk] at hm2
      have hbk : Blk (wn1.alloc (.cells ((List.replicate N (⟨none, 0, []⟩ : Gr Kn)).flatMap Gr.cells).toArray 26)) gk 26 ((List.replicate N (⟨none, 0, []⟩ : Gr Kn)).flatMap Gr.cells).toArray := by rw [← hgk]; exact Blk.new wn1 _ _
      have hx2 : Ext wn1 (wn1.alloc (.cells ((List.replicate N (⟨none, 0, []⟩ : Gr Kn)).flatMap Gr.cells).toArray 26)) := (Ext.refl _).allocs _
      have hzk : w.heap.size ≤ gk := by rw [← hgk]; exact hsz2
      obtain ⟨wn2, hw2⟩ : ∃ wn, wn1.alloc (.cells ((List.replicate N (⟨none, 0, []⟩ : Gr Kn)).flatMap Gr.cells).toArray 26) = wn := ⟨_, rfl⟩
      rw [hw2] at hm2 hbk hx2
      have hsz3 : w.heap.size ≤ wn2.heap.size := Nat.le_trans hsz2 hx2.size
      go_simp
      refine hK.out _ _ trivial (fun hHeld => ?_)
      clear hK K
      (try simp only [Act.put, List.setIfInBounds_toArray, List.set_cons_zero, List.set_cons_succ])
      clear hm2 hw2
      have hm3 := mk_evs N (by omega) wn2
      obtain ⟨ge, hge⟩ : ∃ gg, wn2.heap.size = gg := ⟨_, rfl⟩
      rw [hge] at hm3
      have hbe : Blk (wn2.alloc (.cells ((List.replicate N (⟨none, 0, []⟩ : Gr Ev)).flatMap Gr.cells).toArray 65)) ge 65 ((List.replicate N (⟨none, 0, []⟩ : Gr Ev)).flatMap Gr.cells).toArray := by rw [← hge]; exact Blk.new wn2 _ _
      have hx3 : Ext wn2 (wn2.alloc (.cells ((List.replicate N (⟨none, 0, []⟩ : Gr Ev)).flatMap Gr.cells).toArray 65)) := (Ext.refl _).allocs _
      have hze : w.heap.size ≤ ge := by rw [← hge]; exact hsz3
      obtain ⟨wn3, hw3⟩ : ∃ wn, wn2.alloc (.cells ((List.replicate N (⟨none, 0, []⟩ : Gr Ev)).flatMap Gr.cells).toArray 65) = wn := ⟨_, rfl⟩
      rw [hw3] at hm3 hbe hx3
      have hsz4 : w.heap.size ≤ wn3.heap.size := Nat.le_trans hsz3 hx3.size
      refine T3.sch_one rfl (fun K hK => ?_)
      go_simp
      refine hK.out _ _ trivial (fun hHeld => ?_)
      clear hK K
      (try simp only [Act.put, List.setIfInBounds_toArray, List.set_cons_zero, List.set_cons_succ])
      clear hm3 hw3
      iterate 1 ((refine T3.sch_read (v := ?_) rfl (Or.inl ⟨by rfl, ?_⟩) hHeld ?_; rotate_left 1; · (intro w' hSw; go_simp; (first | done | with_reducible rfl))); (try simp only [Act.put, List.setIfInBounds_toArray, List.set_cons_zero, List.set_cons_succ]))
      have HBe : Hid (Blk wn3 ge 65 ((List.replicate N (⟨none, 0, []⟩ : Gr Ev)).flatMap Gr.cells).toArray) := hbe
      have HBk : Hid (Blk wn3 gk 26 ((List.replicate N (⟨none, 0, []⟩ : Gr Kn)).flatMap Gr.cells).toArray) := (hbk.ext hx3)
      have HBo : Hid (Blk wn3 go 3 ((List.replicate N 0).flatMap Nv).toArray) := (hbo.ext (Ext.trans hx2 hx3))
      have HX3 : Hid (Ext w wn3) := Ext.trans (Below.drew (Ext.refl w)) (Ext.trans hx1 (Ext.trans hx2 hx3))
      clear hbe hbk hbo hx1 hx2 hx3
      refine T3.sch_tail rfl (by decide) (fun K hK => ?_)
      go_simp
      refine hK.out _ (wn3.alloc (.cells #[.int .i64 N, .int .i64 f, .slice (some ⟨ge, 0, none⟩) N N, .slice (some ⟨gk, 0, none⟩) N N, .slice none 0 0, .slice (some ⟨go, 0, none⟩) N N, .slice none 0 0] 94)) ?_
      clear hK K
      (try simp only [Act.put, List.setIfInBounds_toArray, List.set_cons_zero, List.set_cons_succ])
      refine T3.sch_tail rfl (by decide) (fun K hK => ?_)
      go_simp
      refine hK.out _ _ ?_
      clear hK K
      (try simp only [Act.put, List.setIfInBounds_toArray, List.set_cons_zero, List.set_cons_succ])
      refine T3.sch_done ?_
      have hE : Ext wn3 (wn3.alloc (.cells #[.int .i64 N, .int .i64 f, .slice (some ⟨ge, 0, none⟩) N N, .slice (some ⟨gk, 0, none⟩) N N, .slice none 0 0, .slice (some ⟨go, 0, none⟩) N N, .slice none 0 0] 94)) := (Ext.refl _).allocs _
      have HR := Lib.hid (RnM.start (base := w.heap.size) (f := f) (Blk.new wn3 94 #[.int .i64 N, .int .i64 f, .slice (some ⟨ge, 0, none⟩) N N, .slice (some ⟨gk, 0, none⟩) N N, .slice none 0 0, .slice (some ⟨go, 0, none⟩) N N, .slice none 0 0]) (Blk.ext HBe.out hE) (Blk.ext HBk.out hE) (Blk.ext HBo.out hE) hsz4 hze hzk hzo)
      have HEF := Lib.hid (Ext.trans HX3.out hE)
      clear hE HBe HBk HBo HX3
      go_wp2_with fail
      go_ret
      exact ⟨_, _, rfl, HR.out, CpM.start_st _ _ _ _, rfl, HEF.out⟩
end Go.Proofs.Ytfnnoncdocghjaa
namespace Go.Proofs.Ytfnnoncdocghjaa
open Go.RowKit
set_option linter.unusedVariables false

def sureV (n : Nat) (s : Cm) (S : List Dt) (a : Av) : List Dt := if a.kind = 3 then if okProc n a.proc then stockV (S ++ (s.kn.getD a.proc.toNat []).map Kn.d) else S else S
def actS (n : Nat) (f : Int) (x : Cm × List Dt) (a : Av) : Cm × List Dt := (actV n f x.1 a, sureV n x.1 x.2 a)
def playS (n : Nat) (f : Int) (l : List Av) : Cm × List Dt := l.foldl (actS n f) (startV n, [])
theorem playS_take (n : Nat) (f : Int) (l : List Av) (j : Nat) (hj : j < l.length) : playS n f (l.take (j + 1)) = actS n f (playS n f (l.take j)) l[j] := by
  unfold playS
  rw [List.take_succ_eq_append_getElem hj, List.foldl_append]
  rfl
theorem playS_fst (n : Nat) (f : Int) (l : List Av) : (playS n f l).1 = playV n f l := by
  unfold playS playV
  have : ∀ (l : List Av) (x : Cm × List Dt), (l.foldl (actS n f) x).1 = l.foldl (actV n f) x.1 := by
    intro l
    induction l with
    | nil => intro x; rfl
    | cons a l ih => intro x; exact ih _
  exact this l _
structure WS (n t : Nat) (s : Cm) (S : List Dt) : Prop where
  o : s.ords.length = n
  e : s.ev.length = n
  k : s.kn.length = n
  fl : s.fl.length ≤ t
  f256 : s.fl.length ≤ 256
  ol : ∀ x ∈ s.ords, x ≤ t
  el : ∀ x ∈ s.ev, x.length ≤ 64
  g : ∃ G : List Dt, G.length ≤ t ∧ (∀ l ∈ s.kn, KnOk G l) ∧ (∀ m ∈ s.fl, MgOk n t G m) ∧ AscD S ∧ ∀ d ∈ S, d ∈ G
theorem WS.wf {n t : Nat} {s : Cm} {S : List Dt} (h : WS n t s S) : WF n t s := by
  obtain ⟨G, h1, h2, h3, -, -⟩ := h.g
  exact ⟨h.o, h.e, h.k, h.fl, h.f256, h.ol, h.el, G, h1, h2, h3⟩
theorem WS.sl {n t : Nat} {s : Cm} {S : List Dt} (h : WS n t s S) : S.length ≤ t := by
  obtain ⟨G, h1, -, -, h4, h5⟩ := h.g
  exact Nat.le_trans (nodup_le h4 h5) h1
theorem WS.start (n : Nat) : WS n 0 (startV n) [] := by
  refine ⟨by simp [startV], by simp [startV], by simp [startV], Nat.le_refl _, Nat.zero_le _, fun x hx => ?_, fun x hx => ?_, [], Nat.le_refl _, fun l hl => ?_, fun m hm => ?_, List.Pairwise.nil, by simp⟩
  · rw [(List.mem_replicate.1 hx).2]; exact Nat.le_refl _
  · rw [(List.mem_replicate.1 hx).2]; exact Nat.zero_le _
  · rw [(List.mem_replicate.1 hl).2]; exact KnOk.nil _
  · cases hm
theorem WS.more {n t t' : Nat} {s : Cm} {S : List Dt} (h : WS n t s S) (ht : t ≤ t') : WS n t' s S := by
  obtain ⟨G, h1, h2, h3, h4, h6⟩ := h.g
  exact ⟨h.o, h.e, h.k, Nat.le_trans h.fl ht, h.f256, fun x hx => Nat.le_trans (h.ol x hx) ht, h.el, G, Nat.le_trans h1 ht, h2, fun m hm => (h3 m hm).more ht fun _ hd => hd, h4, h6⟩
theorem WS.send {n t : Nat} {f : Int} {s : Cm} {S : List Dt} {a b : Nat} (h : WS n t s S) (ha : a < n) (hb : b < n) (hl : s.fl.length < 256) : WS n (t + 1) (sendV f s a b) S := by
  obtain ⟨G, h1, h2, h3, h4, h6⟩ := h.g
  have hk := h2 _ (getD_mem s.kn a [] (by rw [h.k]; exact ha))
  have he := h.el _ (getD_mem s.ev a [] (by rw [h.e]; exact ha))
  have ho := h.ol _ (getD_mem s.ords a 0 (by rw [h.o]; exact ha))
  have h5 := h.fl
  refine ⟨by simp [sendV, h.o], h.e, h.k, ?_, ?_, fun x hx => ?_, h.el, G, by omega, h2, fun m hm => ?_, h4, h6⟩
  · simp [sendV]; omega
  · simp [sendV]; omega
  · rcases mem_set hx with rfl | hx
    · omega
    · have := h.ol x hx; omega
  · rcases List.mem_append.1 hm with hm | hm
    · exact (h3 m hm).more (Nat.le_succ _) fun _ hd => hd
    · rw [List.mem_singleton] at hm
      subst hm
      exact ⟨hk.filter _, ha, hb, he, Nat.le_trans ho (Nat.le_succ _)⟩
theorem WS.recv {n t : Nat} {s : Cm} {S : List Dt} {i : Nat} (h : WS n t s S) (hn : n ≤ 32) (hi : i < s.fl.length) (hl : (s.ev.getD (s.fl.getD i mgD).dst []).length < 64) : WS n (t + 1) (recvV s i) S := by
  obtain ⟨G, h1, h2, h3, h4, h6⟩ := h.g
  have hm := h3 _ (getD_mem s.fl i mgD hi)
  unfold recvV
  generalize s.fl.getD i mgD = m at *
  obtain ⟨hmk, hmf, hmd, hmi, hmo⟩ := hm
  have hk := h2 _ (getD_mem s.kn m.dst [] (by rw [h.k]; exact hmd))
  dsimp only
  generalize s.kn.getD m.dst [] = K at *
  generalize s.ev.getD m.dst [] = es at *
  have h5 := h.fl
  have hpow := okH_pow (m := m.dst) (by omega)
  have hMo : ∀ k ∈ mergeV (2 ^ m.dst) K m.kn, okH k.h ∧ k.d ∈ G := fun k hk' => by
    obtain ⟨x, hx, rfl⟩ := List.mem_map.1 hk'
    have := KnOk.memV (G := G) (l := K ++ m.kn) (fun y hy => by rcases List.mem_append.1 hy with hy | hy; exact hk.mem y hy; exact hmk.mem y hy) (fun y hy => by rcases List.mem_append.1 hy with hy | hy; exact hk.ok y hy; exact hmk.ok y hy)
    exact ⟨orB_ok hpow (this.ok x hx), this.mem x hx⟩
  refine ⟨by simp [h.o], by simp [h.e], by simp [h.k], ?_, ?_, fun x hx => ?_, fun x hx => ?_, ⟨m.dst, (es.length : Int) + 1, evOf m⟩ :: G, by simp; omega, fun l hl' => ?_, fun m' hm' => ?_, h4, fun d hd => List.mem_cons_of_mem _ (h6 d hd)⟩
  · have := List.length_eraseIdx_le s.fl i
    dsimp only; omega
  · have := List.length_eraseIdx_le s.fl i
    have := h.f256
    dsimp only; omega
  · rcases mem_set hx with rfl | hx
    · omega
    · have := h.ol x hx; omega
  · rcases mem_set hx with rfl | hx
    · simp; omega
    · exact h.el x hx
  · rcases mem_set hl' with rfl | hl'
    · refine KnOk.memV (fun k hk' => ?_) (fun k hk' => ?_)
      · rcases List.mem_append.1 hk' with hk' | hk'
        · exact List.mem_cons_of_mem _ (hMo k hk').2
        · rw [List.mem_singleton] at hk'; subst hk'; exact List.mem_cons_self ..
      · rcases List.mem_append.1 hk' with hk' | hk'
        · exact (hMo k hk').1
        · rw [List.mem_singleton] at hk'; subst hk'; exact hpow
    · exact (h2 l hl').more fun _ hd => List.mem_cons_of_mem _ hd
  · exact (h3 m' (List.mem_of_mem_eraseIdx hm')).more (Nat.le_succ _) fun _ hd => List.mem_cons_of_mem _ hd
theorem WS.ckpt {n t : Nat} {s : Cm} {S : List Dt} {p : Nat} (h : WS n t s S) (hn : n ≤ 32) (hp : p < n) : WS n t (ckptV n s p) (stockV (S ++ (s.kn.getD p []).map Kn.d)) := by
  obtain ⟨G, h1, h2, h3, h4, h6⟩ := h.g
  have hk := h2 _ (getD_mem s.kn p [] (by rw [h.k]; exact hp))
  refine ⟨h.o, h.e, by simp [ckptV, h.k], h.fl, h.f256, h.ol, h.el, G, h1, fun l hl => ?_, h3, stock_asc _, fun d hd => by
    rw [stock_mem] at hd
    rcases List.mem_append.1 hd with hd | hd
    · exact h6 d hd
    · obtain ⟨k, hk', rfl⟩ := List.mem_map.1 hd
      exact hk.mem k hk'⟩
  rcases mem_set hl with rfl | hl
  · exact hk.map _ (fun _ => rfl) (fun k hk => stK_ok hn k hk)
  · exact h2 l hl
theorem WS.act {n t : Nat} {f : Int} {s : Cm} {S : List Dt} {a : Av} (h : WS n t s S) (hn : n ≤ 32) : WS n (t + 1) (actV n f s a) (sureV n s S a) := by
  unfold actV sureV
  by_cases k1 : a.kind = 1
  · rw [if_pos k1, if_neg (show ¬ a.kind = 3 by omega)]
    split
    · rename_i hc
      obtain ⟨⟨h1, h2⟩, ⟨h3, h4⟩, h5, h6⟩ := canSend_iff.1 hc
      exact h.send (by omega) (by omega) h6
    · exact h.more (Nat.le_succ _)
  · rw [if_neg k1]
    by_cases k2 : a.kind = 2
    · rw [if_pos k2, if_neg (show ¬ a.kind = 3 by omega)]
      split
      · rename_i hc
        obtain ⟨h1, h2, h3⟩ := canRecv_iff.1 hc
        exact h.recv hn (by omega) h3
      · exact h.more (Nat.le_succ _)
    · rw [if_neg k2]
      by_cases k3 : a.kind = 3
      · rw [if_pos k3, if_pos k3]
        by_cases hc : okProc n a.proc = true
        · rw [if_pos hc, if_pos hc]
          obtain ⟨h1, h2⟩ := okProc_iff.1 hc
          exact (h.ckpt hn (by omega)).more (Nat.le_succ _)
        · rw [if_neg hc, if_neg hc]
          exact h.more (Nat.le_succ _)
      · rw [if_neg k3, if_neg k3]
        exact h.more (Nat.le_succ _)
theorem WS.play (n : Nat) (f : Int) (hn : n ≤ 32) (l : List Av) : ∀ j, j ≤ l.length → WS n j (playS n f (l.take j)).1 (playS n f (l.take j)).2 := by
  intro j
  induction j with
  | zero => intro _; exact WS.start n
  | succ j ih => intro hj; rw [playS_take n f l j hj]; exact (ih (by omega)).act hn
end Go.Proofs.Ytfnnoncdocghjaa
namespace Go.Proofs.Ytfnnoncdocghjaa
open Go.RowKit
set_option linter.unusedVariables false
set_option maxRecDepth 100000

set_option maxHeartbeats 1600000 in
theorem carry_ref (A : Option Addr) (c : Nat) (l : List Kn) (n : Int) (w : World) (hs : KnSeg w A l) (hn : l.length ≤ 1000) (hok : ∀ k ∈ l, okH k.h) :
    Calls Try.prog 35 #[.slice A l.length c, .int .i64 n] w (OwnPostK (l.filter (keepF n)) w) := by
  have hn' : (l.length : Int) ≤ 1000 := by omega
  have HOK := Lib.hid hok
  clear hok
  go_enter Try.func35, Try.ntmps35
  go_wp2_with fail
  go_loopg [5, 6] l.length (fun g v i wr => FtRel w l (keepF n) g v i wr)
  case atStart => exact ⟨0, Nat.zero_le _, rfl, rfl, Ext.refl w, own_nil _ _ _ _ _⟩
  case round =>
    obtain ⟨j, hj, rfl, rfl, hE, hown⟩ := hrel
    by_cases hlt : j < l.length
    · obtain ⟨b, off, rfl, p0, p1, p2, p3, p4, p5, p6, p7, p8, p9⟩ := Kn.at_ (hs.ext hE) hlt
      have HT := Lib.hid (filter_take l (keepF n) j hlt)
      have hk := HOK.out _ (List.getElem_mem hlt)
      have HL := List.length_filter_le (keepF n) (l.take j)
      rw [List.length_take] at HL
      obtain ⟨x, hx⟩ : ∃ x, l[j] = x := ⟨_, rfl⟩
      rw [hx] at p0 p1 p2 p3 p4 p5 p6 p7 p8 p9 HT hk
      clear hx
      have hz := hE.size
      obtain ⟨L, hL⟩ : ∃ L, (l.take j).filter (keepF n) = L := ⟨_, rfl⟩
      rw [hL] at HT HL hown
      clear hL
      have hc := cnt_le x.h
      have HC := Lib.hid (fun w => count_ref x.h w hk.1 hk.2)
      obtain ⟨cx, hcx⟩ : ∃ cx, cnt x.h = cx := ⟨_, rfl⟩
      have HKD : Hid (keepF n x = decide ((cx : Int) ≤ n)) := by show keepF n x = _; unfold keepF; rw [hcx]
      rw [hcx] at hc HC
      clear hk hcx
      by_cases hi : (cx : Int) ≤ n
      · have HK : Hid (keepF n x = true) := by show keepF n x = true; rw [HKD.out]; exact decide_eq_true hi
        clear HKD
        go_wp2_with fail
        refine (HC.out _).mono ?_
        rintro e w2 ⟨rfl, rfl⟩
        go_wp2_with (at_builtin; refine wpList_push_at Kn.cells 10 80 Kn.len Kn.one (by omega) rfl _ _ _ rfl w.heap.size 34 Try.underlying26 (by kernel_rfl) u5 L x wr.heap.size rfl hown rfl (by first | rfl | simp) (by unfold maxLen; omega) (by omega) (by first | omega | (simp; omega)) ?_; intro v' w6 hown6 hg6)
        have hE6 : Ext w w6 := Ext.own hE hown (Nat.le_refl _) hg6
        go_roundg (l.length - (j + 1))
        case measure => omega
        case rel => exact ⟨j + 1, by omega, by go_num, rfl, hE6, by rw [HT.out, HK.out]; exact hown6⟩
      · have HK : Hid (keepF n x = false) := by show keepF n x = false; rw [HKD.out]; exact decide_eq_false hi
        have hi' : decide ((cx : Int) ≤ n) = false := decide_eq_false hi
        clear HKD
        go_wp2_with fail
        refine (HC.out _).mono ?_
        rintro e w2 ⟨rfl, rfl⟩
        go_wp2_with fail
        go_roundg (l.length - (j + 1))
        case measure => omega
        case rel => exact ⟨j + 1, by omega, by go_num, rfl, hE, by rw [HT.out, HK.out]; exact hown⟩
    · obtain rfl : j = l.length := by omega
      rw [List.take_of_length_le (Nat.le_refl _)] at hown
      go_wp2_with fail
      go_ret
      exact ⟨_, rfl, hown, hE⟩
set_option maxHeartbeats 1600000 in
theorem dets_ref (A : Option Addr) (c : Nat) (l : List Kn) (w : World) (hs : KnSeg w A l) (hn : l.length ≤ 1000) :
    Calls Try.prog 42 #[.slice A l.length c] w (RowPost w 32 9 (l.map Kn.d).length ((l.map Kn.d).flatMap Dt.cells)) := by
  have hn' : (l.length : Int) ≤ 1000 := by omega
  go_enter Try.func42, Try.ntmps42
  go_wp2_with fail
  go_loopg [3, 4] l.length (fun g v i wr => DsRel w l g v i wr)
  case atStart => exact ⟨0, Nat.zero_le _, rfl, rfl, Ext.refl w, own_nil _ _ _ _ _⟩
  case round =>
    obtain ⟨j, hj, rfl, rfl, hE, hown⟩ := hrel
    by_cases hlt : j < l.length
    · obtain ⟨b, off, rfl, p0, p1, p2, p3, p4, p5, p6, p7, p8, p9⟩ := Kn.at_ (hs.ext hE) hlt
      have HT := Lib.hid (map_take_succ l j hlt)
      have HL : ((l.take j).map Kn.d).length ≤ l.length := by rw [List.length_map, List.length_take]; omega
      obtain ⟨x, hx⟩ : ∃ x, l[j] = x := ⟨_, rfl⟩
      rw [hx] at p0 p1 p2 p3 p4 p5 p6 p7 p8 p9 HT
      clear hx
      have hz := hE.size
      obtain ⟨L, hL⟩ : ∃ L, (l.take j).map Kn.d = L := ⟨_, rfl⟩
      rw [hL] at HT HL hown
      clear hL
      go_wp2_with (at_builtin; refine wpList_push_at Dt.cells 9 72 Dt.len Dt.one (by omega) rfl _ _ _ rfl w.heap.size 32 Try.underlying56 (by kernel_rfl) u3 L x.d wr.heap.size rfl hown rfl (by first | rfl | simp) (by unfold maxLen; omega) (by omega) (by first | omega | (simp; omega)) ?_; intro v' w6 hown6 hg6)
      have hE6 : Ext w w6 := Ext.own hE hown (Nat.le_refl _) hg6
      go_roundg (l.length - (j + 1))
      case measure => omega
      case rel => exact ⟨j + 1, by omega, by go_num, rfl, hE6, by rw [HT.out]; exact hown6⟩
    · obtain rfl : j = l.length := by omega
      rw [List.take_of_length_le (Nat.le_refl _)] at hown
      go_wp2_with fail
      go_ret
      exact ⟨_, rfl, hown, hE⟩
end Go.Proofs.Ytfnnoncdocghjaa
