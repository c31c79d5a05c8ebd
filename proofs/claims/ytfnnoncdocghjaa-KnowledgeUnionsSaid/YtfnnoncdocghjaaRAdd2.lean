/- The reference's Add of chapter 28: the walk. No statement of the seat is proved here. -/
import Derived.Test.YtfnnoncdocghjaaRAdd1
import Derived.Deep.CutRange
namespace Go.Proofs.Ytfnnoncdocghjaa
open Go.RowKit Go.Sort
set_option linter.unusedVariables false
set_option maxRecDepth 100000

abbrev zKn : Kn := ⟨⟨0, 0, ⟨0, 0, 0, 0, 0, 0, 0⟩⟩, 0⟩
def RaRel (w : World) (L : List Kn) (g : Nat) (v iv : Value) (wr : World) : Prop := ∃ i : Nat, i ≤ L.length ∧ iv = .int .i64 i ∧ g = L.length - i ∧ Ext w wr ∧ wr.ownsRow w.heap.size 34 10 v (memV (L.take i)).length ((memV (L.take i)).flatMap Kn.cells)
def BxRel (w : World) (v : Value) (out : List Kn) (x : Kn) (s7 : Value) (wx : World) : Prop := ∃ gB, s7 = .pointer (some ⟨gB, 0, none⟩) ∧ Blk wx gB 34 x.cells.toArray ∧ Ext w wx ∧ wx.ownsRow w.heap.size 34 10 v out.length (out.flatMap Kn.cells) ∧ ∀ q, v.ownBlock = some q → q < gB
def KkRel (wc : World) (out : List Kn) (x : Kn) (g : Nat) (kv : Value) (wr : World) : Prop := ∃ k : Nat, k ≤ out.length ∧ kv = .int .i64 k ∧ k = g ∧ Ext wc wr ∧ ∀ q (hq : q < out.length), k ≤ q → 0 < cmpD (out[q]).d x.d
theorem ext_grown {w w' : World} (h : Ext w w') (row : Option Nat) : w.grownBy w' row := ⟨h.os, h.tape, h.output, h.size, fun k hk _ => h.block k hk⟩
theorem grown_trans {a b c : World} {r : Option Nat} (h : a.grownBy b r) (k : b.grownBy c r) : a.grownBy c r := ⟨k.os.trans h.os, k.tape.trans h.tape, k.output.trans h.output, Nat.le_trans h.size k.size, fun i hi hne => (k.block i (Nat.lt_of_lt_of_le hi h.size) hne).trans (h.block i hi hne)⟩
theorem own_lt {w : World} {base : Nat} {e : TypeId} {s n : Nat} {v : Value} {xs : List Value} (h : w.ownsRow base e s v n xs) : ∀ q, v.ownBlock = some q → q < w.heap.size := fun q hq => (h.lt q hq).2
theorem own_extD {w w' : World} {base : Nat} {e : TypeId} {s n : Nat} {v : Value} {xs : List Value} (h : w.ownsRow base e s v n xs) (hE : Ext w w') : w'.ownsRow base e s v n xs := h.kept (ext_grown hE none) (by cases hq : v.ownBlock <;> simp)
theorem run_from (w : World) (g n cap l : Nat) (li : Int) (hli : li = l) (hl : l ≤ n) : (Instr.slice 26 (.slice (some ⟨g, 0, none⟩) n cap) (some (.int .i64 li)) none none).run Try.prog w = .ok (.slice (some (if cap = l then ⟨g, 0, none⟩ else ⟨g, l * 10, none⟩)) (n - l) (cap - l)) w := by
  subst hli
  obtain ⟨i0, hi, hz0, hz1, hz2⟩ := info_parts infoKn
  have h1 : (0 : Int) ≤ (l : Int) := by omega
  have h2 : (l : Int) ≤ (n : Int) := by omega
  by_cases hc : cap = l
  · simp [Instr.slice, Instr.sliceBounds, run_underlying Try.underlying26, go_sem, sizeOf, typeInfo, hi, hz1, h1, h2, hc]
  · simp [Instr.slice, Instr.sliceBounds, run_underlying Try.underlying26, go_sem, sizeOf, typeInfo, hi, hz1, h1, h2, hc]
theorem wpList_pushK {ops : Array Oper} {rest : List Oper} {o : Oper} {ac : Act} {Q : Exit → Act → World → Prop} (W : World) (hgd : o.guard = none) (so xo : Operand) (ho : o.op = .call { callee := .builtin .append, args := #[so, xo], argTypes := #[26, 26] })
    (base : Nat) (v : Value) (out : List Kn) (hso : ac.eval so = v) (hown : W.ownsRow base 34 10 v out.length (out.flatMap Kn.cells)) (hxo : ac.eval xo = .slice (some ⟨W.heap.size, 0, none⟩) 1 1) (hl : out.length ≤ 2000) (hbase : base ≤ W.heap.size)
    (h : ∀ g cap w', w'.ownsRow base 34 10 (.slice (some ⟨g, 0, none⟩) (out.length + 1) cap) (out.length + 1) ((out ++ [zKn]).flatMap Kn.cells) → out.length + 1 ≤ cap → cap ≤ maxLen → W.grownBy w' v.ownBlock → (v.ownBlock = some g ∨ W.heap.size < g) → wpList Try.prog ops Q rest (ac.put o.dst (.slice (some ⟨g, 0, none⟩) (out.length + 1) cap)) w') :
    wpList Try.prog ops Q (o :: rest) ac (W.alloc (.cells zKn.cells.toArray 34)) := by
  obtain ⟨i0, hi, hz0, hz1, hz2⟩ := info_parts infoKn
  have hO := own_extD hown ((Ext.refl W).allocs (.cells zKn.cells.toArray 34))
  have hB := Blk.new W 34 zKn.cells.toArray
  refine wpList_append_own_at (P := Try.prog) _ hgd so xo _ ho base _ i0 _ 10 80 Try.underlying26 hi hz0 hz1 hz2 rfl (by omega) v out.length _ hso hO ⟨W.heap.size, 0, none⟩ 1 1 zKn.cells hxo rfl (fun j u hu => ?_) (Kn.one zKn) (by unfold maxLen; omega) (by omega) (by simp; omega) ?_
  · have hadd : (⟨W.heap.size, 0, none⟩ : Addr).add j = ⟨W.heap.size, j, none⟩ := by unfold Addr.add; split <;> simp_all
    rw [hadd, hB.cell]
    simpa using hu
  · intro v' w' hown' hg' _ hblk
    obtain ⟨A', c', rfl, _, hc, hcm⟩ := own_slice hown'
    obtain ⟨g, rfl⟩ : ∃ g, A' = some ⟨g, 0, none⟩ := by
      rcases hown'.2 with ⟨_, h0⟩ | ⟨g, _, _, hv, _⟩
      · omega
      · injection hv with hv _ _
        exact ⟨g, hv⟩
    refine h g c' w' (by rw [List.flatMap_append]; simpa using hown') hc hcm (grown_trans (ext_grown ((Ext.refl W).allocs _) _) hg') ?_
    rcases hblk with hq | hq
    · exact .inl hq.symm
    · right
      simp only [Value.ownBlock, Option.some.injEq] at hq
      rw [hq]
      simp


set_option maxHeartbeats 6400000 in
theorem radd_any (A : Option Addr) (ca : Nat) (l : List Kn) (kn : Kn) (w : World) (ha : KnSeg w A l) (hla : l.length ≤ 1000) (hok : ∀ y ∈ l ++ [kn], okH y.h) :
    Calls Try.prog 20 #[.slice A l.length ca, kn.val] w (OwnPostK (memV (l ++ [kn])) w) := by
  have hla' : (l.length : Int) ≤ 1000 := by omega
  obtain ⟨L, hL⟩ : ∃ L, l ++ [kn] = L := ⟨_, rfl⟩
  have hLl : L.length = l.length + 1 := by rw [← hL, List.length_append]; rfl
  have HL := Lib.hid hL
  rw [hL] at hok ⊢
  have HOK := Lib.hid hok
  clear hL hok
  have hGB : Blk (w.alloc (.cells kn.cells.toArray 34)) w.heap.size 34 kn.cells.toArray := Blk.new w _ _
  have hE1 : Ext w (w.alloc (.cells kn.cells.toArray 34)) := (Ext.refl w).allocs _
  have ha1 := Lib.hid (ha.ext hE1)
  have HE1 := Lib.hid hE1
  clear ha hE1
  go_enter Try.func20, Try.ntmps20
  go_upto_region 1 with fail
  obtain ⟨w1, hw1⟩ : ∃ w1, w.alloc (.cells kn.cells.toArray 34) = w1 := ⟨_, rfl⟩
  obtain ⟨gK, hgK⟩ : ∃ gK, w.heap.size = gK := ⟨_, rfl⟩
  have HZ : Hid (w.heap.size ≤ w1.heap.size) := by show _ ≤ _; rw [← hw1]; simp
  have hw1' := hw1
  unfold Kn.cells at hw1'
  rw [hw1] at hGB ha1 HE1
  try rw [hw1']
  try rw [hw1]
  rw [hgK] at hGB ⊢
  clear hw1 hw1' hgK
  have HGB := Lib.hid hGB
  clear hGB
  go_wp2_with fail
  go_loopg [5, 6] L.length (fun g v iv wr => RaRel w1 L g v iv wr)
  case atStart => exact ⟨0, Nat.zero_le _, rfl, rfl, Ext.refl _, World.ownsRow_nil _ _ _ _⟩
  case round =>
    obtain ⟨i, hi, rfl, rfl, hE, hown⟩ := hrel
    by_cases hil : i < L.length
    · obtain ⟨x, hx⟩ : ∃ x, L[i] = x := ⟨_, rfl⟩
      have HPUT := Lib.hid (@memV_put L i hil HOK.out x hx)
      have HJOIN := Lib.hid (@memV_join L i hil HOK.out x hx)
      have hol : (memV (L.take i)).length ≤ i := Nat.le_trans (memV_len _) (by rw [List.length_take]; omega)
      obtain ⟨out, hout⟩ : ∃ out, memV (L.take i) = out := ⟨_, rfl⟩
      rw [hout] at hown HPUT HJOIN hol
      have HX := Lib.hid hx
      have HOWN := Lib.hid hown
      clear hout hx hown
      have hiI : (i : Int) ≤ (l.length : Int) := by omega
      obtain ⟨b0, b1, b2, b3, b4, b5, b6, b7, b8, b9⟩ := blk10 (HGB.out.ext hE)
      go_upto_if 19 with fail
      go_cut [7] from 9 to 81 (fun s7 wx => BxRel w1 u5 out x s7 wx)
      case first =>
        by_cases hia : i < l.length
        · have hax : l[i] = x := by
            have := HX.out
            simp only [← HL.out] at this
            rw [List.getElem_append_left hia] at this
            exact this
          obtain ⟨tb, toff, rfl, p0, p1, p2, p3, p4, p5, p6, p7, p8, p9⟩ := Kn.at_ (Seg.alloc (ha1.out.ext hE) (.cells kn.cells.toArray 34)) hia
          rw [hax] at p0 p1 p2 p3 p4 p5 p6 p7 p8 p9
          unfold Kn.cells at p0 p1 p2 p3 p4 p5 p6 p7 p8 p9
          have hiA : (i : Int) < (l.length : Int) := by omega
          go_wp2_with fail
          go_meet
          exact ⟨wr.heap.size, rfl, Blk.new wr 34 x.cells.toArray, hE.allocs _, own_extD HOWN.out ((Ext.refl wr).allocs _), own_lt HOWN.out⟩
        · obtain rfl : i = l.length := by omega
          have hbx : kn = x := by
            have := HX.out
            simp only [← HL.out] at this
            rw [List.getElem_append_right (Nat.le_refl _)] at this
            simpa using this
          subst hbx
          have hiA : ¬ (l.length : Int) < (l.length : Int) := by omega
          go_wp2_with fail
          go_meet
          exact ⟨wr.heap.size, rfl, Blk.new wr 34 kn.cells.toArray, hE.allocs _, own_extD HOWN.out ((Ext.refl wr).allocs _), own_lt HOWN.out⟩
      case rest =>
        clear b0 b1 b2 b3 b4 b5 b6 b7 b8 b9
        obtain ⟨gB, rfl, hBx, hEc, hownc, hvq⟩ := hcut
        have HOWC := Lib.hid hownc
        have HVQ := Lib.hid hvq
        clear hownc hvq HOWN hE
        obtain ⟨Av, cv, rfl, hsv, hcv, hcvm⟩ := own_slice HOWC.out
        have hol' : (out.length : Int) ≤ 1000 := by omega
        go_wp2_with fail
        go_loopg [8] out.length (fun g kv wr => KkRel wc out x g kv wr)
        case atStart => exact ⟨out.length, Nat.le_refl _, rfl, rfl, Ext.refl _, fun q hq hle => absurd hq (by omega)⟩
        case round =>
          obtain ⟨k, hk, rfl, rfl, hE2, hins⟩ := hrel
          have HI := Lib.hid hins
          clear hins
          have hB2 := hBx.ext hE2
          obtain ⟨b0, b1, b2, b3, b4, b5, b6, b7, b8, b9⟩ := blk10 hB2
          by_cases hk0 : k = 0
          · have dk : decide (0 < (k : Int)) = false := decide_eq_false (by omega)
            have dkN : decide (0 < k) = false := decide_eq_false (by omega)
            have dkM : ¬ 0 < k := by omega
            have HNS : Hid (memV (L.take (i + 1)) = out.take k ++ x :: out.drop k) := HPUT.out _ hk HI.out (fun j hj e => absurd e (by omega))
            have HK0 := Lib.hid hk0
            clear hk0
            go_upto_region 9 with fail
            go_quiet (fail)
            go_upto_region 11 with fail
            go_quiet (fail)
            go_upto_region 13 with fail
            clear b0 b1 b2 b3 b4 b5 b6 b7 b8 b9
            go_wp2_with (at_builtin; refine wpList_pushK _ rfl _ _ rfl w1.heap.size _ out rfl (own_extD HOWC.out (Ext.drewN hE2 _)) rfl (by omega) (Below.size (Ext.trans hEc (Ext.drewN hE2 _))) ?_; intro g6 cap6 w6 hown6 hc6 hc6m hg6 hblk6)
            have hE6 : Ext w1 w6 := Ext.own (Ext.trans hEc (Ext.drewN hE2 _)) (own_extD HOWC.out (Ext.drewN hE2 _)) (Nat.le_refl _) hg6
            have hB6 : Blk w6 gB 34 x.cells.toArray := (hg6.block gB (Blk.lt (hBx.ext (Ext.drewN hE2 _))) (fun e => absurd (HVQ.out gB e.symm) (Nat.lt_irrefl _))).trans (hBx.ext (Ext.drewN hE2 _))
            have hne6 : g6 ≠ gB := by
              intro e
              rcases hblk6 with h | h
              · have := HVQ.out g6 h; omega
              · exact absurd (Nat.lt_trans (Blk.lt (hBx.ext hE2)) h) (by rw [e]; exact Nat.lt_irrefl _)
            have hRow6 := (row_of_own hown6).1
            have hgw6 := (row_of_own hown6).2
            obtain ⟨X, hX⟩ : ∃ X, out ++ [zKn] = X := ⟨_, rfl⟩
            have hXl : X.length = out.length + 1 := by rw [← hX, List.length_append]; rfl
            rw [hX] at hown6 hRow6
            have HXE := Lib.hid hX
            clear hX hg6 hblk6
            have hkI : (k : Int) ≤ (out.length : Int) := by omega
            have hkI1 : (k : Int) < (out.length : Int) + 1 := by omega
            have hkI0 : (0 : Int) ≤ (k : Int) := by omega
            have hwk : IntKind.i64.wrap ((k : Int) + 1) = (k : Int) + 1 := IntWalk.i64_in _ (by omega)
            have hkJ : (0 : Int) ≤ (k : Int) + 1 := by omega
            have hkJ1 : (k : Int) + 1 ≤ (out.length : Int) + 1 := by omega
            go_upto_region 14 with fail
            have hR7 : Row w6.drew g6 X := hRow6
            have hB7 : Blk w6.drew gB 34 x.cells.toArray := hB6
            have hE7 : Ext w1 w6.drew := Below.drew hE6
            have hown7 : w6.drew.ownsRow w1.heap.size 34 10 (.slice (some ⟨g6, 0, none⟩) (out.length + 1) cap6) (out.length + 1) (X.flatMap Kn.cells) := hown6
            by_cases hkn : k = out.length
            · have HK : Hid (X.set k x = out.take k ++ x :: out.drop k) := by
                show X.set k x = _
                rw [← HXE.out, hkn, List.take_length, List.drop_length, List.set_append_right _ _ (Nat.le_refl _), Nat.sub_self]
                rfl
              have hsl1 := fun w => run_from w g6 (out.length + 1) cap6 (k + 1) ((k : Int) + 1) (by omega) (by omega)
              have hsl2 := fun w => run_from w g6 (out.length + 1) cap6 k (k : Int) rfl (by omega)
              rw [show out.length + 1 - (k + 1) = 0 by omega] at hsl1
              generalize (if cap6 = k + 1 then (⟨g6, 0, none⟩ : Addr) else ⟨g6, (k + 1) * 10, none⟩) = D1 at hsl1
              generalize (if cap6 = k then (⟨g6, 0, none⟩ : Addr) else ⟨g6, k * 10, none⟩) = S1 at hsl2
              have hcp := fun w d s dc sl sc => run_copy_none w 3 d s dc sl sc
              have HKN := Lib.hid hkn
              clear hkn
              go_still_tail 7, (by kernel_rfl)
              change wpList _ _ _ _ _ w6.drew
              have hkX : k < X.length := by omega
              have HO8 : Hid ((putK w6.drew g6 (k * 10) x).ownsRow w1.heap.size 34 10 (.slice (some ⟨g6, 0, none⟩) (out.length + 1) cap6) (out.length + 1) ((X.set k x).flatMap Kn.cells)) := by
                have := own_sets hown7 (o := k * 10) (vs := x.cells) (by rw [flat_len Kn.cells 10 Kn.len, Kn.len]; omega)
                rw [setAll_flat Kn.cells 10 (by omega) Kn.len X k x hkX] at this
                exact this
              have HE8 : Hid (Ext w1 (putK w6.drew g6 (k * 10) x)) := Ext.grownRow hE7 hgw6 (grownRow_sets _ _ _ x.cells)
              obtain ⟨c0, c1, c2, c3, c4, c5, c6, c7, c8, c9⟩ := Row.atK hR7 hkX
              obtain ⟨f0, f1, f2, f3, f4, f5, f6, f7, f8, f9⟩ := Row.frzK hR7 hkX
              obtain ⟨t0, t1, t2, t3, t4, t5, t6, t7, t8, t9⟩ := blk10 hB7
              generalize X[k] = zz at c0 c1 c2 c3 c4 c5 c6 c7 c8 c9
              unfold putK at HO8 HE8
              clear hR7 hB7 hE7 hown7 hown6 hRow6 hB6 hE6
              generalize w6.drew = w7 at *
              go_wp2_with fail
              go_roundg (L.length - (i + 1))
              case measure => omega
              case rel => exact ⟨i + 1, by omega, by go_num, rfl, HE8.out, by rw [HNS.out, ← HK.out, List.length_set, hXl]; exact HO8.out⟩
            · have hkn' : k < out.length := by omega
              have HK : Hid ((X.take (k + 1) ++ (X.drop k).take (out.length - k)).set k x = out.take k ++ x :: out.drop k) := by
                show (X.take (k + 1) ++ (X.drop k).take (out.length - k)).set k x = _
                have e1 : (out ++ [zKn]).take (k + 1) = out.take (k + 1) := List.take_append_of_le_length (by omega)
                have e2 : ((out ++ [zKn]).drop k).take (out.length - k) = out.drop k := by rw [List.drop_append_of_le_length (by omega), List.take_append_of_le_length (by rw [List.length_drop]; omega), List.take_of_length_le (by rw [List.length_drop]; omega)]
                rw [← HXE.out, e1, e2]
                exact ins_list x hkn'
              have hsl1 := fun w => run_from w g6 (out.length + 1) cap6 (k + 1) ((k : Int) + 1) (by omega) (by omega)
              have hsl2 := fun w => run_from w g6 (out.length + 1) cap6 k (k : Int) rfl (by omega)
              rw [show out.length + 1 - (k + 1) = out.length - k by omega, if_neg (show ¬ cap6 = k + 1 by omega)] at hsl1
              rw [if_neg (show ¬ cap6 = k by omega)] at hsl2
              have hcp := run_copy_kn w6.drew 3 g6 k out.length (cap6 - (k + 1)) (cap6 - k) X hR7 hXl hkn'
              have hYl : ((X.drop k).take (out.length - k)).length = out.length - k := by rw [List.length_take, List.length_drop]; omega
              have hO8 : (w6.drew.setCells g6 ((k + 1) * 10) (((X.drop k).take (out.length - k)).flatMap Kn.cells)).ownsRow w1.heap.size 34 10 (.slice (some ⟨g6, 0, none⟩) (out.length + 1) cap6) (out.length + 1) ((X.take (k + 1) ++ (X.drop k).take (out.length - k)).flatMap Kn.cells) := by
                have := own_sets hown7 (o := (k + 1) * 10) (vs := ((X.drop k).take (out.length - k)).flatMap Kn.cells) (by rw [flat_len Kn.cells 10 Kn.len, flat_len Kn.cells 10 Kn.len, hYl]; omega)
                rw [setAll_flats X ((X.drop k).take (out.length - k)) (k + 1) (by rw [hYl]; omega), hYl, show X.drop (k + 1 + (out.length - k)) = [] from List.drop_eq_nil_of_le (by omega), List.append_nil] at this
                exact this
              have hE8 : Ext w1 (w6.drew.setCells g6 ((k + 1) * 10) (((X.drop k).take (out.length - k)).flatMap Kn.cells)) := Ext.grownRow hE7 hgw6 (grownRow_sets _ _ _ _)
              have hB8 : Blk (w6.drew.setCells g6 ((k + 1) * 10) (((X.drop k).take (out.length - k)).flatMap Kn.cells)) gB 34 x.cells.toArray := (World.heap_setCells_other _ g6 _ _ hB7.lt (fun e => hne6 e.symm)).trans hB7
              obtain ⟨Y, hY⟩ : ∃ Y, X.take (k + 1) ++ (X.drop k).take (out.length - k) = Y := ⟨_, rfl⟩
              have hYY : Y.length = out.length + 1 := by rw [← hY, List.length_append, hYl, List.length_take]; omega
              rw [hY] at HK hO8
              have HKN := Lib.hid hkn
              clear hkn hY hYl
              go_still_tail 7, (by kernel_rfl)
              change wpList _ _ _ _ _ w6.drew
              obtain ⟨w8, hw8⟩ : ∃ w8, w6.drew.setCells g6 ((k + 1) * 10) (((X.drop k).take (out.length - k)).flatMap Kn.cells) = w8 := ⟨_, rfl⟩
              rw [hw8] at hcp hO8 hE8 hB8
              clear hw8
              have hkX : k < Y.length := by omega
              have hR8 := (row_of_own hO8).1
              have HO9 : Hid ((putK w8 g6 (k * 10) x).ownsRow w1.heap.size 34 10 (.slice (some ⟨g6, 0, none⟩) (out.length + 1) cap6) (out.length + 1) ((Y.set k x).flatMap Kn.cells)) := by
                have := own_sets hO8 (o := k * 10) (vs := x.cells) (by rw [flat_len Kn.cells 10 Kn.len, Kn.len]; omega)
                rw [setAll_flat Kn.cells 10 (by omega) Kn.len Y k x hkX] at this
                exact this
              have HE9 : Hid (Ext w1 (putK w8 g6 (k * 10) x)) := Ext.grownRow hE8 hgw6 (grownRow_sets _ _ _ x.cells)
              obtain ⟨c0, c1, c2, c3, c4, c5, c6, c7, c8, c9⟩ := Row.atK hR8 hkX
              obtain ⟨f0, f1, f2, f3, f4, f5, f6, f7, f8, f9⟩ := Row.frzK hR8 hkX
              obtain ⟨t0, t1, t2, t3, t4, t5, t6, t7, t8, t9⟩ := blk10 hB8
              generalize Y[k] = zz at c0 c1 c2 c3 c4 c5 c6 c7 c8 c9
              unfold putK at HO9 HE9
              clear hR7 hB7 hE7 hown7 hown6 hRow6 hB6 hE6 hO8 hE8 hB8 hR8
              generalize w6.drew = w7 at *
              go_wp2_with fail
              go_roundg (L.length - (i + 1))
              case measure => omega
              case rel => exact ⟨i + 1, by omega, by go_num, rfl, HE9.out, by rw [HNS.out, ← HK.out, List.length_set, hYY]; exact HO9.out⟩
          · obtain ⟨j, hj⟩ : ∃ j, k = j + 1 := ⟨k - 1, by omega⟩
            subst hj
            obtain ⟨g, rfl⟩ : ∃ g, Av = some ⟨g, 0, none⟩ := by
              rcases HOWC.out.2 with ⟨_, h⟩ | ⟨g, _, _, hv, _⟩
              · omega
              · injection hv with hv _ _
                exact ⟨g, hv⟩
            have hjl : j < out.length := by omega
            obtain ⟨y, hy⟩ : ∃ y, out[j] = y := ⟨_, rfl⟩
            have hD := hsv.ext hE2
            have fX := fun d os => Kn.grownK hD hjl hy d os
            unfold KnAt at fX
            have fB := fun d os => blk10 (hB2.ext (below_regrown wr d os))
            have CXY := Lib.hid (compare_ref y.d x.d)
            have hb1 := cmpD_bd y.d x.d
            obtain ⟨v1, e1⟩ : ∃ v, cmpD y.d x.d = v := ⟨_, rfl⟩
            rw [e1] at CXY hb1
            have HV1 := Lib.hid e1
            have HD := Lib.hid hD
            have HB2 := Lib.hid hB2
            have HY := Lib.hid hy
            have hj0 : (0 : Int) ≤ (j : Int) := by omega
            have hj1 : (j : Int) < (out.length : Int) := by omega
            have dk : decide (0 < (j : Int) + 1) = true := decide_eq_true (by omega)
            clear hy hD hB2 e1 b0 b1 b2 b3 b4 b5 b6 b7 b8 b9
            by_cases q1 : 0 < v1
            · have d1 : decide (0 < v1) = true := decide_eq_true q1
              go_upto_region 9 with fail
              refine wp_region_quiet_below (by kernel_rfl) (by kernel_rfl) ?_
              repeat (go_big_quiet_step (first | with_reducible exact call_grownS CXY.out))
              refine wpQuiet_nil ?_
              intro _ hw'
              obtain ⟨⟨dq, osq⟩, hw''⟩ := hw'
              subst hw''
              go_wp2_with fail
              go_roundg j
              case measure => omega
              case rel => exact ⟨j, by omega, by go_num, rfl, Ext.trans hE2 (below_regrown wr dq osq), fun q hq hle => by
                by_cases e : q = j
                · subst e; rw [HY.out, HV1.out]; exact q1
                · exact HI.out q hq (by omega)⟩
            · have d1 : decide (0 < v1) = false := decide_eq_false q1
              go_upto_region 9 with fail
              refine wp_region_quiet_below (by kernel_rfl) (by kernel_rfl) ?_
              repeat (go_big_quiet_step (first | with_reducible exact call_grownS CXY.out))
              refine wpQuiet_nil ?_
              intro _ hw'
              obtain ⟨⟨dq, osq⟩, hw''⟩ := hw'
              have hE3 : Ext wr _ := below_regrown wr dq osq
              rw [← hw''] at hE3
              clear hw'' fX fB
              rename World => w3
              have hE23 : Ext wc w3 := Ext.trans hE2 hE3
              obtain ⟨b', off', hA', a0, a1, a2, a3, a4, a5, a6, a7, a8, a9⟩ := Kn.at_ (HD.out.ext hE3) hjl
              injection hA' with hA'
              injection hA' with hA1 hA2
              subst hA1 hA2
              rw [HY.out] at a0 a1 a2 a3 a4 a5 a6 a7 a8 a9
              simp only [Nat.zero_add] at a0 a1 a2 a3 a4 a5 a6 a7 a8 a9
              obtain ⟨b0, b1, b2, b3, b4, b5, b6, b7, b8, b9⟩ := blk10 (HB2.out.ext hE3)
              have heq := fun w => eql_det w y.d x.d
              unfold Dt.val at heq
              rcases hsm : y.d.same x.d with _ | _
              · have HNS0 : Hid (memV (L.take (i + 1)) = out.take (j + 1) ++ x :: out.drop (j + 1)) := HPUT.out _ hk HI.out (fun j' hj' e => by
                  obtain rfl : j' = j := by omega
                  have h1 : cmpD y.d x.d ≠ 0 := fun h => by rw [(Dt.same_iff _ _).2 ((cmpD_zero _ _).1 h)] at hsm; cases hsm
                  rw [HY.out]
                  rw [HV1.out] at h1 ⊢
                  omega)
                rw [hsm] at heq
                clear hsm
                go_upto_region 11 with fail
                go_quiet (fail)
                obtain ⟨k, hkj⟩ : ∃ k, j + 1 = k := ⟨_, rfl⟩
                try rw [hkj]
                try rw [show ((j : Int) + 1) = (k : Int) by omega]
                rw [hkj] at hk
                have HNS : Hid (memV (L.take (i + 1)) = out.take k ++ x :: out.drop k) := by rw [← hkj]; exact HNS0
                clear HNS0 HI dk hkj a0 a1 a2 a3 a4 a5 a6 a7 a8 a9 heq
                go_upto_region 13 with fail
                clear b0 b1 b2 b3 b4 b5 b6 b7 b8 b9
                go_wp2_with (at_builtin; refine wpList_pushK _ rfl _ _ rfl w1.heap.size _ out rfl (own_extD HOWC.out (Ext.drewN hE23 _)) rfl (by omega) (Below.size (Ext.trans hEc (Ext.drewN hE23 _))) ?_; intro g6 cap6 w6 hown6 hc6 hc6m hg6 hblk6)
                have hE6 : Ext w1 w6 := Ext.own (Ext.trans hEc (Ext.drewN hE23 _)) (own_extD HOWC.out (Ext.drewN hE23 _)) (Nat.le_refl _) hg6
                have hB6 : Blk w6 gB 34 x.cells.toArray := (hg6.block gB (Blk.lt (hBx.ext (Ext.drewN hE23 _))) (fun e => absurd (HVQ.out gB e.symm) (Nat.lt_irrefl _))).trans (hBx.ext (Ext.drewN hE23 _))
                have hne6 : g6 ≠ gB := by
                  intro e
                  rcases hblk6 with h | h
                  · have := HVQ.out g6 h; omega
                  · exact absurd (Nat.lt_trans (Blk.lt (hBx.ext hE23)) h) (by rw [e]; exact Nat.lt_irrefl _)
                have hRow6 := (row_of_own hown6).1
                have hgw6 := (row_of_own hown6).2
                obtain ⟨X, hX⟩ : ∃ X, out ++ [zKn] = X := ⟨_, rfl⟩
                have hXl : X.length = out.length + 1 := by rw [← hX, List.length_append]; rfl
                rw [hX] at hown6 hRow6
                have HXE := Lib.hid hX
                clear hX hg6 hblk6
                have hkI : (k : Int) ≤ (out.length : Int) := by omega
                have hkI1 : (k : Int) < (out.length : Int) + 1 := by omega
                have hkI0 : (0 : Int) ≤ (k : Int) := by omega
                have hwk : IntKind.i64.wrap ((k : Int) + 1) = (k : Int) + 1 := IntWalk.i64_in _ (by omega)
                have hkJ : (0 : Int) ≤ (k : Int) + 1 := by omega
                have hkJ1 : (k : Int) + 1 ≤ (out.length : Int) + 1 := by omega
                go_upto_region 14 with fail
                have hR7 : Row w6.drew g6 X := hRow6
                have hB7 : Blk w6.drew gB 34 x.cells.toArray := hB6
                have hE7 : Ext w1 w6.drew := Below.drew hE6
                have hown7 : w6.drew.ownsRow w1.heap.size 34 10 (.slice (some ⟨g6, 0, none⟩) (out.length + 1) cap6) (out.length + 1) (X.flatMap Kn.cells) := hown6
                by_cases hkn : k = out.length
                · have HK : Hid (X.set k x = out.take k ++ x :: out.drop k) := by
                    show X.set k x = _
                    rw [← HXE.out, hkn, List.take_length, List.drop_length, List.set_append_right _ _ (Nat.le_refl _), Nat.sub_self]
                    rfl
                  have hsl1 := fun w => run_from w g6 (out.length + 1) cap6 (k + 1) ((k : Int) + 1) (by omega) (by omega)
                  have hsl2 := fun w => run_from w g6 (out.length + 1) cap6 k (k : Int) rfl (by omega)
                  rw [show out.length + 1 - (k + 1) = 0 by omega] at hsl1
                  generalize (if cap6 = k + 1 then (⟨g6, 0, none⟩ : Addr) else ⟨g6, (k + 1) * 10, none⟩) = D1 at hsl1
                  generalize (if cap6 = k then (⟨g6, 0, none⟩ : Addr) else ⟨g6, k * 10, none⟩) = S1 at hsl2
                  have hcp := fun w d s dc sl sc => run_copy_none w 3 d s dc sl sc
                  have HKN := Lib.hid hkn
                  clear hkn
                  go_still_tail 7, (by kernel_rfl)
                  change wpList _ _ _ _ _ w6.drew
                  have hkX : k < X.length := by omega
                  have HO8 : Hid ((putK w6.drew g6 (k * 10) x).ownsRow w1.heap.size 34 10 (.slice (some ⟨g6, 0, none⟩) (out.length + 1) cap6) (out.length + 1) ((X.set k x).flatMap Kn.cells)) := by
                    have := own_sets hown7 (o := k * 10) (vs := x.cells) (by rw [flat_len Kn.cells 10 Kn.len, Kn.len]; omega)
                    rw [setAll_flat Kn.cells 10 (by omega) Kn.len X k x hkX] at this
                    exact this
                  have HE8 : Hid (Ext w1 (putK w6.drew g6 (k * 10) x)) := Ext.grownRow hE7 hgw6 (grownRow_sets _ _ _ x.cells)
                  obtain ⟨c0, c1, c2, c3, c4, c5, c6, c7, c8, c9⟩ := Row.atK hR7 hkX
                  obtain ⟨f0, f1, f2, f3, f4, f5, f6, f7, f8, f9⟩ := Row.frzK hR7 hkX
                  obtain ⟨t0, t1, t2, t3, t4, t5, t6, t7, t8, t9⟩ := blk10 hB7
                  generalize X[k] = zz at c0 c1 c2 c3 c4 c5 c6 c7 c8 c9
                  unfold putK at HO8 HE8
                  clear hR7 hB7 hE7 hown7 hown6 hRow6 hB6 hE6
                  generalize w6.drew = w7 at *
                  go_wp2_with fail
                  go_roundg (L.length - (i + 1))
                  case measure => omega
                  case rel => exact ⟨i + 1, by omega, by go_num, rfl, HE8.out, by rw [HNS.out, ← HK.out, List.length_set, hXl]; exact HO8.out⟩
                · have hkn' : k < out.length := by omega
                  have HK : Hid ((X.take (k + 1) ++ (X.drop k).take (out.length - k)).set k x = out.take k ++ x :: out.drop k) := by
                    show (X.take (k + 1) ++ (X.drop k).take (out.length - k)).set k x = _
                    have e1 : (out ++ [zKn]).take (k + 1) = out.take (k + 1) := List.take_append_of_le_length (by omega)
                    have e2 : ((out ++ [zKn]).drop k).take (out.length - k) = out.drop k := by rw [List.drop_append_of_le_length (by omega), List.take_append_of_le_length (by rw [List.length_drop]; omega), List.take_of_length_le (by rw [List.length_drop]; omega)]
                    rw [← HXE.out, e1, e2]
                    exact ins_list x hkn'
                  have hsl1 := fun w => run_from w g6 (out.length + 1) cap6 (k + 1) ((k : Int) + 1) (by omega) (by omega)
                  have hsl2 := fun w => run_from w g6 (out.length + 1) cap6 k (k : Int) rfl (by omega)
                  rw [show out.length + 1 - (k + 1) = out.length - k by omega, if_neg (show ¬ cap6 = k + 1 by omega)] at hsl1
                  rw [if_neg (show ¬ cap6 = k by omega)] at hsl2
                  have hcp := run_copy_kn w6.drew 3 g6 k out.length (cap6 - (k + 1)) (cap6 - k) X hR7 hXl hkn'
                  have hYl : ((X.drop k).take (out.length - k)).length = out.length - k := by rw [List.length_take, List.length_drop]; omega
                  have hO8 : (w6.drew.setCells g6 ((k + 1) * 10) (((X.drop k).take (out.length - k)).flatMap Kn.cells)).ownsRow w1.heap.size 34 10 (.slice (some ⟨g6, 0, none⟩) (out.length + 1) cap6) (out.length + 1) ((X.take (k + 1) ++ (X.drop k).take (out.length - k)).flatMap Kn.cells) := by
                    have := own_sets hown7 (o := (k + 1) * 10) (vs := ((X.drop k).take (out.length - k)).flatMap Kn.cells) (by rw [flat_len Kn.cells 10 Kn.len, flat_len Kn.cells 10 Kn.len, hYl]; omega)
                    rw [setAll_flats X ((X.drop k).take (out.length - k)) (k + 1) (by rw [hYl]; omega), hYl, show X.drop (k + 1 + (out.length - k)) = [] from List.drop_eq_nil_of_le (by omega), List.append_nil] at this
                    exact this
                  have hE8 : Ext w1 (w6.drew.setCells g6 ((k + 1) * 10) (((X.drop k).take (out.length - k)).flatMap Kn.cells)) := Ext.grownRow hE7 hgw6 (grownRow_sets _ _ _ _)
                  have hB8 : Blk (w6.drew.setCells g6 ((k + 1) * 10) (((X.drop k).take (out.length - k)).flatMap Kn.cells)) gB 34 x.cells.toArray := (World.heap_setCells_other _ g6 _ _ hB7.lt (fun e => hne6 e.symm)).trans hB7
                  obtain ⟨Y, hY⟩ : ∃ Y, X.take (k + 1) ++ (X.drop k).take (out.length - k) = Y := ⟨_, rfl⟩
                  have hYY : Y.length = out.length + 1 := by rw [← hY, List.length_append, hYl, List.length_take]; omega
                  rw [hY] at HK hO8
                  have HKN := Lib.hid hkn
                  clear hkn hY hYl
                  go_still_tail 7, (by kernel_rfl)
                  change wpList _ _ _ _ _ w6.drew
                  obtain ⟨w8, hw8⟩ : ∃ w8, w6.drew.setCells g6 ((k + 1) * 10) (((X.drop k).take (out.length - k)).flatMap Kn.cells) = w8 := ⟨_, rfl⟩
                  rw [hw8] at hcp hO8 hE8 hB8
                  clear hw8
                  have hkX : k < Y.length := by omega
                  have hR8 := (row_of_own hO8).1
                  have HO9 : Hid ((putK w8 g6 (k * 10) x).ownsRow w1.heap.size 34 10 (.slice (some ⟨g6, 0, none⟩) (out.length + 1) cap6) (out.length + 1) ((Y.set k x).flatMap Kn.cells)) := by
                    have := own_sets hO8 (o := k * 10) (vs := x.cells) (by rw [flat_len Kn.cells 10 Kn.len, Kn.len]; omega)
                    rw [setAll_flat Kn.cells 10 (by omega) Kn.len Y k x hkX] at this
                    exact this
                  have HE9 : Hid (Ext w1 (putK w8 g6 (k * 10) x)) := Ext.grownRow hE8 hgw6 (grownRow_sets _ _ _ x.cells)
                  obtain ⟨c0, c1, c2, c3, c4, c5, c6, c7, c8, c9⟩ := Row.atK hR8 hkX
                  obtain ⟨f0, f1, f2, f3, f4, f5, f6, f7, f8, f9⟩ := Row.frzK hR8 hkX
                  obtain ⟨t0, t1, t2, t3, t4, t5, t6, t7, t8, t9⟩ := blk10 hB8
                  generalize Y[k] = zz at c0 c1 c2 c3 c4 c5 c6 c7 c8 c9
                  unfold putK at HO9 HE9
                  clear hR7 hB7 hE7 hown7 hown6 hRow6 hB6 hE6 hO8 hE8 hB8 hR8
                  generalize w6.drew = w7 at *
                  go_wp2_with fail
                  go_roundg (L.length - (i + 1))
                  case measure => omega
                  case rel => exact ⟨i + 1, by omega, by go_num, rfl, HE9.out, by rw [HNS.out, ← HK.out, List.length_set, hYY]; exact HO9.out⟩
              · have hd : y.d = x.d := (Dt.same_iff _ _).1 hsm
                have HNS : Hid (memV (L.take (i + 1)) = out.set j (orK y x)) := HJOIN.out _ hjl HY.out hd
                rw [hsm] at heq
                clear hsm hd
                go_upto_region 11 with fail
                go_quiet (fail)
                clear a0 a1 a2 a3 a4 a5 a6 a7 a8 a9 b0 b1 b2 b3 b4 b5 b6 b7 b8 b9 heq
                obtain ⟨wa, hwa⟩ : ∃ wa, w3.drewN nq = wa := ⟨_, rfl⟩
                have hEa : Ext wc wa := by rw [← hwa]; exact hE23.drewN nq
                rw [hwa]
                clear hwa
                have hOa := own_extD HOWC.out hEa
                have HXa : Hid (∀ W, Ext wa W → W.cell? ⟨g, j * 10 + 9, none⟩ = some (.int .u32 y.h) ∧ W.cell? ⟨gB, 9, none⟩ = some (.int .u32 x.h)) := fun W hW => by
                  have h1 := own_extD hOa hW
                  refine ⟨?_, (blk10 (hBx.ext (Ext.trans hEa hW))).2.2.2.2.2.2.2.2.2⟩
                  rw [h1.cellAt (j * 10 + 9) (by omega), flat_get Kn.cells 10 Kn.len out j 9 y (by rw [List.getElem?_eq_getElem hjl, HY.out]) (by omega)]
                  rfl
                have HOa := Lib.hid hOa
                have HEa := Lib.hid hEa
                clear hOa hEa
                have hwj : IntKind.i64.wrap ((j : Int)) = (j : Int) := by rw [IntKind.wrap_i64]; omega
                go_upto_region 12 with fail
                refine wp_region_sched (by kernel_rfl) 11 [(0, true), (1, true), (2, true), (3, true), (4, true), (5, true), (6, true), (7, true), (8, true), (9, true), (10, true), (11, false)] (fun W => W.cell? ⟨g, j * 10 + 9, none⟩ = some (.int .u32 y.h) ∧ W.cell? ⟨gB, 9, none⟩ = some (.int .u32 x.h)) (by kernel_rfl) (fun _ _ dd _ _ h => by cases dd <;> exact h) (HXa.out _ (Below.drew (Ext.refl wa))) (fun hHeld => ?_)
                iterate 11 ((refine sched_read (v := ?_) rfl (Or.inl ⟨by rfl, ?_⟩) hHeld ?_; rotate_left 1; · (intro w' hSw; obtain ⟨t0, t1⟩ := hSw; go_simp; (first | done | with_reducible rfl))); (try simp only [Act.put, List.setIfInBounds_toArray, List.set_cons_zero, List.set_cons_succ]))
                have h1 := own_setH (own_extD HOa.out (Below.drew (Ext.refl wa))) (i := j) hjl (orK y x) (by rw [HY.out]; rfl)
                have HOb := Lib.hid h1
                have HEb : Hid (Ext w1 (wa.drew.setCell ⟨g, j * 10 + 9, none⟩ (.int .u32 (orK y x).h))) := Below.setCell (Below.drew (Ext.trans hEc HEa.out)) ((HOa.out.lt g rfl).1) _
                have hfz : wa.drew.frozen? ⟨g, j * 10 + 9, none⟩ = false := (own_extD HOa.out (Below.drew (Ext.refl wa))).frozenAt _
                clear h1
                refine sched_tail rfl (by decide) (fun K hK => ?_)
                go_simp
                refine hK.out _ _ ?_
                clear hK K
                refine sched_done ?_
                go_wp2_with fail
                go_roundg (L.length - (i + 1))
                case measure => omega
                case rel => exact ⟨i + 1, by omega, by go_num, rfl, HEb.out, by rw [HNS.out, List.length_set]; exact HOb.out⟩
    · obtain rfl : i = L.length := by omega
      rw [List.take_length] at hown
      obtain ⟨A1, c1, rfl, hs1, hc1, hc1m⟩ := own_slice hown
      have HO := Lib.hid hown
      have HE := Lib.hid hE
      clear hown hE hs1
      have hiI : ¬ (L.length : Int) ≤ (l.length : Int) := by omega
      go_wp2_with fail
      go_ret
      exact ⟨_, rfl, own_base HO.out HZ.out, Ext.trans HE1.out HE.out⟩
end Go.Proofs.Ytfnnoncdocghjaa
