/- The walk of the law DeterminantUnions. -/
import Derived.Test.YthadaahemhamdaaAwake27t
import Derived.Test.YthadaahemhamdaaDets
import Derived.Test.YthadaahemhamdaaArgs27
import Derived.Test.YthadaahemhamdaaAdd27
import Derived.Test.YthadaahemhamdaaUnionPlain
import Derived.Test.YthadaahemhamdaaHasC27
namespace Go.Proofs.Ythadaahemhamdaa
open Go.RowKit Go.Sort
set_option linter.unusedVariables false

theorem has_grown {W : World} {A : Option Addr} {l : List Dt} (h : DtSeg W A l) (hn : l.length ≤ 1000) (c : Nat) (x : Dt) (d : Nat) (os : Array Obj) :
    Calls Try.prog 34 #[.slice A l.length c, .agg #[.int .i64 x.proc, .int .i64 x.index, .int .i64 x.ev.kind, .int .i64 x.ev.inc, .int .i64 x.ev.frm, .int .i64 x.ev.sinc, .int .i64 x.ev.sidx, .int .i64 x.ev.ord, .int .i64 x.ev.val]] (grow (redrawn W d) os) fun e w'' => e = .returned (.bool (hasB l x)) ∧ ∃ p : Regrown, w'' = grow (redrawn W p.d) p.os :=
  Calls.regrown_of (has_code A c l x _ (h.ext (below_regrown W d os)) hn)
def ExRel (w0 : World) (n g : Nat) (i : Value) (wr : World) : Prop := ∃ j : Nat, j ≤ n ∧ i = .int .i64 j ∧ g = n - j ∧ Ext w0 wr
def ExRel2 (w0 : World) (n g : Nat) (i : Value) (wr : World) : Prop := ∃ j : Nat, (j + 1 ≤ n ∨ j = 0) ∧ i = .int .i64 j ∧ g = n - (j + 1) ∧ Ext w0 wr

set_option maxRecDepth 100000 in
set_option maxHeartbeats 3200000 in
theorem unions_walk (a0 : Option Addr) (cap0 : Nat) (bs : List Int) (d : Dt) (w : World)
    (h0 : Seg w 1 a0 bs.length (bs.map (Value.int .u8)) ∧ bs.length ≤ cap0 ∧ cap0 ≤ maxLen ∧ ∀ b ∈ bs, 0 ≤ b ∧ b < 256) (hd : d.ok) :
    Calls Try.prog 11 #[.slice a0 bs.length cap0, d.val] w fun e w' => e = .returned (.bool true) ∧ Below w.heap.size w w' := by
  obtain ⟨hs0, hc0, hm0, hok0⟩ := h0
  have O0 := Lib.hid hok0
  clear hok0 hd
  unfold Dt.val
  have hB := Blk.new w 39 d.cells.toArray
  have hs1 := hs0.alloc (.cells d.cells.toArray 39)
  have hX := (Ext.refl w).allocs (.cells d.cells.toArray 39)
  obtain ⟨w0, hw0⟩ : ∃ w0, w.alloc (.cells d.cells.toArray 39) = w0 := ⟨_, rfl⟩
  rw [hw0] at hB hs1 hX
  have HW := Lib.hid hw0
  clear hw0 hs0
  go_enter Try.func11, Try.ntmps11
  go_wp2_with fail
  have e := HW.out
  unfold Dt.cells at e
  rw [e]
  clear e HW
  refine (awake_any w0).mono ?_
  rintro e w1 ⟨rfl, hE1⟩
  go_wp2_with fail
  refine (new_any a0 cap0 bs 200 w1 (hs1.ext hE1) hc0 hm0 (by omega) O0.out).mono ?_
  rintro e w2 ⟨rfl, hC, hE2⟩
  generalize bs.take 200 = cs at *
  have hcl := hC.lt
  have hX2 := Ext.trans hE1 hE2
  obtain ⟨c, hc⟩ : ∃ c, w1.heap.size = c := ⟨_, rfl⟩
  have hwc : w0.heap.size ≤ c := by rw [← hc]; exact hE1.size
  rw [hc] at hC hcl ⊢
  clear hc hE1 hE2 hs1 O0
  go_wp2_with fail
  refine (dets_any c cs 0 w2 hC 8 (by omega)).mono ?_
  rintro e w3 ⟨v3, xs, rfl, hown3, hl3, _, hg3, k3, hC3, _, _⟩
  have hX3 := Ext.grownRow hX2 hwc hg3
  have hcl3 := hC3.lt
  go_wp2_with fail
  refine (dets_any c cs k3 w3 hC3 8 (by omega)).mono ?_
  rintro e w4 ⟨v4, ys, rfl, hown4, hl4, _, hg4, k4, hC4, _, _⟩
  have hX4 := Ext.grownRow hX3 hwc hg4
  go_wp2_with fail
  refine (dets_any c cs k4 w4 hC4 8 (by omega)).mono ?_
  rintro e w5 ⟨v5, zs, rfl, hown5, hl5, _, hg5, k5, hC5, _, _⟩
  have hX5 := Ext.grownRow hX4 hwc hg5
  have hown35 := kept_c (kept_c hown3 hg4 hcl) hg5 hcl
  have hown45 := kept_c hown4 hg5 hcl3
  obtain ⟨A3, c3, rfl, hs3, _, _⟩ := own_slice hown35
  obtain ⟨A4, c4, rfl, hs4, _, _⟩ := own_slice hown45
  obtain ⟨A5, c5, rfl, hs5, _, _⟩ := own_slice hown5
  have hB5 := hB.ext hX5
  have hXX := Ext.trans hX hX5
  clear hown3 hown4 hown5 hown35 hown45 hg3 hg4 hg5 hC hC3 hC4 hC5 hX2 hX3 hX4 hX5 hB hX
  have hsl1 := stock_lenU (xs ++ ys)
  have hsl2 := stock_lenU (zs ++ ys)
  have hsl3 := stock_lenU (stockV (xs ++ ys) ++ zs)
  have hsl4 := stock_lenU (stockV (xs ++ ys) ++ [d])
  rw [List.length_append] at hsl1 hsl2 hsl3 hsl4
  have hsl4' : [d].length = 1 := rfl
  have HM1 := Lib.hid (fun W h h' => merge_any A3 A4 c3 c4 xs ys W h h' (by omega) (by omega))
  have HM2 := Lib.hid (fun W h h' => merge_any A5 A4 c5 c4 zs ys W h h' (by omega) (by omega))
  have HM3 := Lib.hid (fun A c W h h' => merge_any A A3 c c3 (stockV (zs ++ ys)) xs W h h' (by omega) (by omega))
  have HM4 := Lib.hid (fun W h h' => merge_any A4 A3 c4 c3 ys xs W h h' (by omega) (by omega))
  have HM5 := Lib.hid (fun A c W h h' => merge_any A A3 c c3 (stockV (xs ++ ys)) xs W h h' (by omega) (by omega))
  have HM6 := Lib.hid (fun A c W h h' => merge_any A A5 c c5 (stockV (xs ++ ys)) zs W h h' (by omega) (by omega))
  have HA1 := Lib.hid (fun A c W h => add_any A c (stockV (xs ++ ys)) d W h (by omega))
  have HA2 := Lib.hid (fun A c W h => add_any A c (stockV (stockV (xs ++ ys) ++ [d])) d W h (by omega))
  rw [un_three] at HM3
  rw [un_comm] at HM4
  rw [un_again] at HM5
  rw [add_twice] at HA2
  have HASC := Lib.hid (stock_asc (xs ++ ys))
  have HHAS := Lib.hid (has_un xs ys)
  obtain ⟨S, hS⟩ : ∃ S, stockV (xs ++ ys) = S := ⟨_, rfl⟩
  rw [hS] at hsl1 hsl3 hsl4 HM1 HM3 HM4 HM5 HM6 HA1 HA2 HASC HHAS
  obtain ⟨Tz, hTz⟩ : ∃ S, stockV (zs ++ ys) = S := ⟨_, rfl⟩
  rw [hTz] at hsl2 HM2 HM3
  obtain ⟨T, hT⟩ : ∃ T, stockV (S ++ zs) = T := ⟨_, rfl⟩
  rw [hT] at hsl3 HM3 HM6
  obtain ⟨U, hU⟩ : ∃ U, stockV (S ++ [d]) = U := ⟨_, rfl⟩
  rw [hU] at hsl4 HA1 HA2
  clear hS hTz hT hU
  go_wp2_with fail
  refine (HM1.out w5 hs3 hs4).mono ?_
  rintro e w6 ⟨A6, c6, rfl, hs6, _, _, hE6⟩
  go_wp2_with fail
  refine (HM2.out w6 (hs5.ext hE6) (hs4.ext hE6)).mono ?_
  rintro e w7 ⟨A7, c7, rfl, hs7, _, _, hE7⟩
  go_wp2_with fail
  refine (HM3.out A7 c7 w7 hs7 ((hs3.ext hE6).ext hE7)).mono ?_
  rintro e w8 ⟨A8, c8, rfl, hs8, _, _, hE8⟩
  have hE58 := Ext.trans hE6 (Ext.trans hE7 hE8)
  have g3 := hs3.ext hE58
  have g4 := hs4.ext hE58
  have g5 := hs5.ext hE58
  have g6 := hs6.ext (Ext.trans hE7 hE8)
  have hB8 := hB5.ext hE58
  have hXY := Ext.trans hXX hE58
  clear hs3 hs4 hs5 hs6 hs7 hE6 hE7 hE8 hE58 hXX hB5 HM1 HM2 HM3
  obtain ⟨b0, b1, b2, b3, b4, b5, b6, b7, b8⟩ := blk9 hB8
  have HONE := Lib.hid (own_one w8 d)
  have hE9 := (Ext.refl w8).allocs (.cells d.cells.toArray 39)
  go_wp2_with (at_builtin; first | (refine wpList_cat _ rfl _ _ rfl w8.heap.size _ [d] xs rfl HONE.out A3 c3 rfl (g3.ext hE9) (by simp; omega) hE9.size ?_; intro vA wA hownA hgA; have hEA : Ext w8 wA := Ext.own hE9 HONE.out (Nat.le_refl _) hgA) | (refine wpList_cat wA rfl _ _ rfl w8.heap.size vA ([d] ++ xs) ys rfl hownA A4 c4 rfl (g4.ext hEA) (by simp; omega) hEA.size ?_; intro vB wB hownB hgB; have hEB : Ext w8 wB := Ext.own hEA hownA (Nat.le_refl _) hgB) | (refine wpList_cat wB rfl _ _ rfl w8.heap.size vB (([d] ++ xs) ++ ys) zs rfl hownB A5 c5 rfl (g5.ext hEB) (by simp; omega) hEB.size ?_; intro vC wC hownC hgC; have hEC : Ext w8 wC := Ext.own hEB hownB (Nat.le_refl _) hgC))
  have hEC8 := hEC
  obtain ⟨AL, cL, rfl, hsL, _, _⟩ := own_slice hownC
  obtain ⟨L, hL⟩ : ∃ L, [d] ++ xs ++ ys ++ zs = L := ⟨_, rfl⟩
  have hLl : L.length ≤ 25 := by rw [← hL]; simp; omega
  rw [hL] at hsL ⊢
  have f3 := g3.ext hEC
  have f4 := g4.ext hEC
  have f5 := g5.ext hEC
  have f6 := g6.ext hEC
  have f8 := hs8.ext hEC
  have hBC := hB8.ext hEC
  have hXC := Ext.trans hXY hEC
  clear hL hownA hownB hownC hgA hgB hgC hEA hEB hEC hEC8 g3 g4 g5 g6 hs8 hB8 hXY b0 b1 b2 b3 b4 b5 b6 b7 b8 HONE hE9
  go_loopg [12] L.length (fun g i wr => ExRel wC L.length g i wr)
  case atStart => exact ⟨0, Nat.zero_le _, rfl, rfl, Ext.refl _⟩
  case round =>
    obtain ⟨j, hj, rfl, rfl, hE⟩ := hrel
    by_cases hlt : j < L.length
    · obtain ⟨bL, oL, rfl, _⟩ := Dt.at_ (hsL.ext hE) hlt
      obtain ⟨x, hx⟩ : ∃ x, L[j] = x := ⟨_, rfl⟩
      have fX := fun d os => grownT (hsL.ext hE) hlt hx d os
      have H1 := Lib.hid (fun d os => has_grown (f6.ext hE) (by omega) c6 x d os)
      have H2 := Lib.hid (fun d os => has_grown (f3.ext hE) (by omega) c3 x d os)
      have H3 := Lib.hid (fun d os => has_grown (f4.ext hE) (by omega) c4 x d os)
      rw [HHAS.out x] at H1
      have hj0 : (0 : Int) ≤ (j : Int) := by omega
      have hj1 : (j : Int) < (L.length : Int) := by omega
      clear hx
      generalize hasB xs x = vx at *
      generalize hasB ys x = vy at *
      rcases vx with _ | _
      · rw [Bool.false_or] at H1
        rcases vy with _ | _
        · go_upto_region 11 with fail
          refine wp_region_quiet_below (by kernel_rfl) (by kernel_rfl) ?_
          repeat (go_big_quiet_step (first | with_reducible exact H1.out _ _ | with_reducible exact H2.out _ _ | with_reducible exact H3.out _ _))
          refine wpQuiet_nil ?_
          intro _ hw'
          obtain ⟨⟨dq, osq⟩, hw''⟩ := hw'
          subst hw''
          go_wp2_with fail
          go_roundg (L.length - (j + 1))
          case measure => omega
          case rel => exact ⟨j + 1, by omega, by go_num, rfl, Ext.trans hE (below_regrown wr dq osq)⟩
        · go_upto_region 11 with fail
          refine wp_region_quiet_below (by kernel_rfl) (by kernel_rfl) ?_
          repeat (go_big_quiet_step (first | with_reducible exact H1.out _ _ | with_reducible exact H2.out _ _ | with_reducible exact H3.out _ _))
          refine wpQuiet_nil ?_
          intro _ hw'
          obtain ⟨⟨dq, osq⟩, hw''⟩ := hw'
          subst hw''
          go_wp2_with fail
          go_roundg (L.length - (j + 1))
          case measure => omega
          case rel => exact ⟨j + 1, by omega, by go_num, rfl, Ext.trans hE (below_regrown wr dq osq)⟩
      · rw [Bool.true_or] at H1
        go_upto_region 11 with fail
        refine wp_region_quiet_below (by kernel_rfl) (by kernel_rfl) ?_
        repeat (go_big_quiet_step (first | with_reducible exact H1.out _ _ | with_reducible exact H2.out _ _ | with_reducible exact H3.out _ _))
        refine wpQuiet_nil ?_
        intro _ hw'
        obtain ⟨⟨dq, osq⟩, hw''⟩ := hw'
        subst hw''
        go_wp2_with fail
        go_roundg (L.length - (j + 1))
        case measure => omega
        case rel => exact ⟨j + 1, by omega, by go_num, rfl, Ext.trans hE (below_regrown wr dq osq)⟩
    · obtain rfl : j = L.length := by omega
      clear hlt
      have f3 := f3.ext hE
      have f4 := f4.ext hE
      have f5 := f5.ext hE
      have f6 := f6.ext hE
      have f8 := f8.ext hE
      have hBC := hBC.ext hE
      have hXC := Ext.trans hXC hE
      go_wp2_with fail
      go_loopg [13] (S.length - 1) (fun g i w' => ExRel2 wr S.length g i w')
      case atStart => exact ⟨0, .inr rfl, rfl, rfl, Ext.refl _⟩
      case round =>
        rename World => wq
        obtain ⟨q, hq, rfl, rfl, hE2⟩ := hrel
        by_cases hlt : q + 1 < S.length
        · obtain ⟨bS, oS, rfl, _⟩ := Dt.at_ (f6.ext hE2) hlt
          obtain ⟨x, hx⟩ : ∃ x, S[q]'(by omega) = x := ⟨_, rfl⟩
          obtain ⟨y, hy⟩ : ∃ y, S[q + 1] = y := ⟨_, rfl⟩
          have hD := f6.ext hE2
          have fX := fun d os => grownT hD (by omega) hx d os
          have fY := fun d os => grownT hD hlt hy d os
          have CXY := Lib.hid (compare_sl x y)
          have hb1 := cmpD_bd x y
          have hneg := asc_step HASC.out q hlt
          rw [hx, hy] at hneg
          obtain ⟨v1, e1⟩ : ∃ v, cmpD x y = v := ⟨_, rfl⟩
          rw [e1] at CXY hb1 hneg
          have hq0 : (0 : Int) ≤ (q : Int) + 1 := by omega
          have hq1 : (q : Int) + 1 < (S.length : Int) := by omega
          have hq2 : (0 : Int) ≤ (q : Int) := by omega
          have hq3 : (q : Int) < (S.length : Int) := by omega
          have d1 : decide (0 ≤ v1) = false := decide_eq_false (by omega)
          clear hx hy e1 hD
          go_upto_region 16 with fail
          refine wp_region_quiet_below (by kernel_rfl) (by kernel_rfl) ?_
          repeat (go_big_quiet_step (first | with_reducible exact call_grownS CXY.out))
          refine wpQuiet_nil ?_
          intro _ hw'
          obtain ⟨⟨dq, osq⟩, hw''⟩ := hw'
          subst hw''
          go_wp2_with fail
          go_roundg (S.length - (q + 1 + 1))
          case measure => omega
          case rel => exact ⟨q + 1, .inl (by omega), by go_num, rfl, Ext.trans hE2 (below_regrown _ dq osq)⟩
        · have hq9 : ¬ ((q : Int) + 1 < (S.length : Int)) := by omega
          have f3 := f3.ext hE2
          have f4 := f4.ext hE2
          have f5 := f5.ext hE2
          have f6 := f6.ext hE2
          have f8 := f8.ext hE2
          have hBC := hBC.ext hE2
          have hXC := Ext.trans hXC hE2
          clear hE hE2
          have E0 := Below.drew (Ext.refl wq)
          have m1 : True := trivial
          have m2 : True := trivial
          have m3 : True := trivial
          have s1 : True := trivial
          have s2 : True := trivial
          have s3 : True := trivial
          have s4 : True := trivial
          have a1 : True := trivial
          have a2 : True := trivial
          have a3 : True := trivial
          have bs := blk9 hBC
          go_upto_region 18 with fail
          clear bs
          go_region_held3 (fun w' => w'.cell? ⟨w.heap.size, 0, none⟩ = some (.int .i64 d.proc) ∧ w'.cell? ⟨w.heap.size, 1, none⟩ = some (.int .i64 d.index) ∧ w'.cell? ⟨w.heap.size, 2, none⟩ = some (.int .i64 d.ev.kind) ∧ w'.cell? ⟨w.heap.size, 3, none⟩ = some (.int .i64 d.ev.inc) ∧ w'.cell? ⟨w.heap.size, 4, none⟩ = some (.int .i64 d.ev.frm) ∧ w'.cell? ⟨w.heap.size, 5, none⟩ = some (.int .i64 d.ev.sinc) ∧ w'.cell? ⟨w.heap.size, 6, none⟩ = some (.int .i64 d.ev.sidx) ∧ w'.cell? ⟨w.heap.size, 7, none⟩ = some (.int .i64 d.ev.ord) ∧ w'.cell? ⟨w.heap.size, 8, none⟩ = some (.int .i64 d.ev.val))
            (first | (refine blk9 (t := 39) ?_; (repeat (first | with_reducible refine Blk.drews ?_ | with_reducible refine Blk.drewNs ?_ _)); (first | with_reducible exact hBC | with_reducible exact hB10 | with_reducible exact hB12 | with_reducible exact hB14 | with_reducible exact hB16 | with_reducible exact hB17 | with_reducible exact hB18)))
            (first
              | (go_at_call 25; have _t := m1; refine (HM4.out _ (f4.ext E0) (f3.ext E0)).mono ?_; rintro e w10 ⟨A10, c10, rfl, hs10, _, _, hE10⟩; have E10 := Ext.trans E0 hE10; have hB10 := hBC.ext E10; clear m1)
              | (go_at_call 14; have _t := s1; refine (sameDets A6 A10 c6 c10 S w10 (f6.ext E10) hs10 (by omega)).mono ?_; rintro e w11 ⟨rfl, q11, rfl⟩; have E11 := Ext.trans E10 (Ext.drewn w10 q11); clear s1)
              | (go_at_call 25; have _t := m2; refine (HM5.out A6 c6 _ (f6.ext E11) (f3.ext E11)).mono ?_; rintro e w12 ⟨A12, c12, rfl, hs12, _, _, hE12⟩; have E12 := Ext.trans E11 hE12; have hB12 := hBC.ext E12; clear m2)
              | (go_at_call 14; have _t := s2; refine (sameDets A6 A12 c6 c12 S w12 (f6.ext E12) hs12 (by omega)).mono ?_; rintro e w13 ⟨rfl, q13, rfl⟩; have E13 := Ext.trans E12 (Ext.drewn w12 q13); clear s2)
              | (go_at_call 25; have _t := m3; refine (HM6.out A6 c6 _ (f6.ext E13) (f5.ext E13)).mono ?_; rintro e w14 ⟨A14, c14, rfl, hs14, _, _, hE14⟩; have E14 := Ext.trans E13 hE14; have hB14 := hBC.ext E14; clear m3)
              | (go_at_call 14; have _t := s3; refine (sameDets A8 A14 c8 c14 T w14 (f8.ext E14) hs14 (by omega)).mono ?_; rintro e w15 ⟨rfl, q15, rfl⟩; have E15 := Ext.trans E14 (Ext.drewn w14 q15); clear s3)
              | (go_at_call 32; have _t := a1; refine (HA1.out A6 c6 _ (f6.ext E15)).mono ?_; rintro e w16 ⟨A16, c16, rfl, hs16, _, _, hE16⟩; have E16 := Ext.trans E15 hE16; have hB16 := hBC.ext E16; clear a1)
              | (go_at_call 32; have _t := a2; refine (HA1.out A6 c6 w16 (f6.ext E16)).mono ?_; rintro e w17 ⟨A17, c17, rfl, hs17, _, _, hE17⟩; have E17 := Ext.trans E16 hE17; have hB17 := hBC.ext E17; clear a2)
              | (go_at_call 32; have _t := a3; refine (HA2.out A17 c17 w17 hs17).mono ?_; rintro e w18 ⟨A18, c18, rfl, hs18, _, _, hE18⟩; have E18 := Ext.trans E17 hE18; have hB18 := hBC.ext E18; clear a3)
              | (go_at_call 14; have _t := s4; refine (sameDets A16 A18 c16 c18 U w18 ((hs16.ext hE17).ext hE18) hs18 (by omega)).mono ?_; rintro e w19 ⟨rfl, q19, rfl⟩; have E19 := Ext.trans E18 (Ext.drewn w18 q19); clear s4))
          go_wp2_with fail
          go_ret
          exact ⟨rfl, Ext.trans hXC E19⟩
end Go.Proofs.Ythadaahemhamdaa
