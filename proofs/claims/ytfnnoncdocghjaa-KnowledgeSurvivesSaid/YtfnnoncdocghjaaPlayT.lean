/- Play, with a result that stays when a Spread is written. No statement of the seat is proved here. -/
import Derived.Test.YtfnnoncdocghjaaK8
import Derived.Test.YtfnnoncdocghjaaK7
import Derived.Laws.ResultCell
namespace Go.Proofs.Ytfnnoncdocghjaa
open Go.RowKit
set_option linter.unusedVariables false
set_option maxRecDepth 100000

def PlPostT (n f : Int) (l : List Av) (w : World) (e : Ending) (w' : World) : Prop := ∃ v, e = .returned (.tuple #[v, .int .i64 (playR n f l).1]) ∧ SpM w' v (playR n f l).2.1 (playR n f l).2.2 ∧ Ext w w' ∧ ∀ (W' : World) (g : Nat) (cs : Array Value), Blk w' g 50 cs → w'.grownBy W' (some g) → SpM W' v (playR n f l).2.1 (playR n f l).2.2
set_option maxHeartbeats 3200000 in
theorem play_typed (n f : Int) (A : Option Addr) (c : Nat) (l : List Av) (w : World) (hs : AvSeg w A l) :
    Calls Try.prog 24 #[.int .i64 n, .int .i64 f, .slice A l.length c] w (PlPostT n f l w) := by
  by_cases hR : okRange n f
  · by_cases hL : l.length ≤ 200
    · obtain ⟨h1, h2, h3, h4⟩ := hR
      obtain ⟨N, rfl⟩ : ∃ N : Nat, n = (N : Int) := ⟨n.toNat, by omega⟩
      have HV : Hid (playR N f l = (0, (playV N f l).ev, (playV N f l).kn)) := by show _ = _; unfold playR; rw [if_pos ⟨h1, h2, h3, h4⟩, if_pos hL, Int.toNat_natCast]
      unfold PlPostT
      rw [HV.out]
      have hN5 : N ≤ 5 := by omega
      have hL' : ¬ (200 : Int) < (l.length : Int) := by omega
      have d1 : decide ((N : Int) < 1) = false := decide_eq_false (by omega)
      have d2 : decide ((5 : Int) < (N : Int)) = false := decide_eq_false (by omega)
      have d3 : decide (f < 0) = false := decide_eq_false (by omega)
      have d4 : decide ((N : Int) < f) = false := decide_eq_false (by omega)
      have d5 : decide ((200 : Int) < (l.length : Int)) = false := decide_eq_false (by omega)
      obtain ⟨w1, hw1⟩ : ∃ w1, w.alloc (.cells #[.slice none 0 0, .slice none 0 0] 50) = w1 := ⟨_, rfl⟩
      have hX1 : Ext w w1 := by rw [← hw1]; exact (Ext.refl w).allocs _
      have hB1 : Blk w1 w.heap.size 50 #[.slice none 0 0, .slice none 0 0] := by rw [← hw1]; exact Blk.new w _ _
      have hz1 : w1.heap.size = w.heap.size + 1 := by rw [← hw1]; simp
      have HS := Lib.hid (hs.ext hX1)
      have HX1 := Lib.hid hX1
      have HB1 := Lib.hid hB1
      have HZ1 := Lib.hid hz1
      have r5 := mk_ints N (by omega) w1
      have hE2 : Ext w1 (w1.alloc (.cells ((List.replicate N 0).flatMap Nv).toArray 3)) := (Ext.refl w1).allocs _
      have hBo2 : Blk (w1.alloc (.cells ((List.replicate N 0).flatMap Nv).toArray 3)) w1.heap.size 3 ((List.replicate N 0).flatMap Nv).toArray := Blk.new w1 _ _
      have hz2 : (w1.alloc (.cells ((List.replicate N 0).flatMap Nv).toArray 3)).heap.size = w1.heap.size + 1 := by simp
      obtain ⟨w2, hw2⟩ : ∃ w2, w1.alloc (.cells ((List.replicate N 0).flatMap Nv).toArray 3) = w2 := ⟨_, rfl⟩
      rw [hw2] at r5 hE2 hBo2 hz2
      clear hs hX1 hB1 hw2
      go_enter Try.func24, Try.ntmps24
      go_upto_region 5 with fail
      have HBg : Hid (Blk (w2.alloc (.cells #[.int .i64 f, .slice none 0 0, .slice none 0 0, .slice (some ⟨w1.heap.size, 0, none⟩) N N, .slice none 0 0] 85)) w2.heap.size 85 #[.int .i64 f, .slice none 0 0, .slice none 0 0, .slice (some ⟨w1.heap.size, 0, none⟩) N N, .slice none 0 0]) := Blk.new w2 _ _
      have HBo : Hid (Blk (w2.alloc (.cells #[.int .i64 f, .slice none 0 0, .slice none 0 0, .slice (some ⟨w1.heap.size, 0, none⟩) N N, .slice none 0 0] 85)) w1.heap.size 3 ((List.replicate N 0).flatMap Nv).toArray) := Blk.ext hBo2 ((Ext.refl w2).allocs _)
      obtain ⟨go, hgo⟩ : ∃ go, w1.heap.size = go := ⟨_, rfl⟩
      obtain ⟨g, hgg⟩ : ∃ g, w2.heap.size = g := ⟨_, rfl⟩
      have hgog : go ≤ g := by omega
      have HZ2 := Lib.hid hz2
      clear hz1 hz2
      rw [hgo, hgg] at HBg
      rw [hgo] at HBo r5
      have hE3 : Ext w1 (w2.alloc (.cells #[.int .i64 f, .slice none 0 0, .slice none 0 0, .slice (some ⟨go, 0, none⟩) N N, .slice none 0 0] 85)) := hE2.allocs _
      have HGO := Lib.hid hgo
      have HR5 := Lib.hid r5
      go_upto_region 6 with fail
      clear r5
      generalize w2.alloc (.cells #[.int .i64 f, .slice none 0 0, .slice none 0 0, .slice (some ⟨go, 0, none⟩) N N, .slice none 0 0] 85) = W3 at hE3 HBg HBo ⊢
      have hgz : w1.heap.size ≤ g := by have := HZ2.out; omega
      have hgoz : w1.heap.size ≤ go := by have := HGO.out; omega
      go_cut [8] (fun s8 wx => s8 = .pointer (some ⟨g, 0, none⟩) ∧ ∃ p, CpM wx w1.heap.size g N f p ∧ p.st = startV N ∧ Ext w1 wx)
      case first =>
        refine wp_region_sch (by kernel_rfl) 8 (.read 0 (.read 1 (.read 3 (.two 2 4 (.one 4 (.read 5 (.read 6 (.read 7 (.one 8 .done))))) (.one 2 (.read 5 (.read 6 (.read 7 (.one 8 .done))))))))) (fun _ => True) (by kernel_rfl) (fun _ _ dd _ _ h => by cases dd <;> exact h) trivial (fun hHeld => ?_)
        iterate 3 ((refine sch_read (v := ?_) rfl (Or.inl ⟨by rfl, ?_⟩) hHeld ?_; rotate_left 1; · (intro w' hSw; go_simp; (first | done | with_reducible rfl))); (try simp only [Act.put, List.setIfInBounds_toArray, List.set_cons_zero, List.set_cons_succ]))
        refine sch_two rfl rfl (fun K hK => ?_) (fun K hK => ?_)
        · have hm1 := mk_evs N (by omega) W3.drew
          obtain ⟨ga, hga⟩ : ∃ ga, W3.drew.heap.size = ga := ⟨_, rfl⟩
          have b1 := Blk.new W3.drew 65 ((List.replicate N (⟨none, 0, []⟩ : Gr Ev)).flatMap Gr.cells).toArray
          have x1 : Ext W3 (W3.drew.alloc (.cells ((List.replicate N (⟨none, 0, []⟩ : Gr Ev)).flatMap Gr.cells).toArray 65)) := Ext.trans (Below.drew (Ext.refl W3)) ((Ext.refl W3.drew).allocs _)
          have hz1 : (W3.drew.alloc (.cells ((List.replicate N (⟨none, 0, []⟩ : Gr Ev)).flatMap Gr.cells).toArray 65)).heap.size = ga + 1 := by rw [← hga]; simp
          obtain ⟨wa, hwa⟩ : ∃ wa, W3.drew.alloc (.cells ((List.replicate N (⟨none, 0, []⟩ : Gr Ev)).flatMap Gr.cells).toArray 65) = wa := ⟨_, rfl⟩
          rw [hwa] at hm1 b1 x1 hz1
          rw [hga] at hm1 b1
          have hgW : W3.heap.size ≤ ga := by rw [← hga]; exact Nat.le_refl _
          go_simp
          refine hK.out _ _ trivial (fun hHeld => ?_)
          clear hK K
          try simp only [Act.put, List.setIfInBounds_toArray, List.set_cons_zero, List.set_cons_succ]
          clear hm1 hwa hga
          have hm2 := mk_kns N (by omega) wa
          rw [hz1] at hm2
          have b2 := Blk.new wa 26 ((List.replicate N (⟨none, 0, []⟩ : Gr Kn)).flatMap Gr.cells).toArray
          rw [hz1] at b2
          have x2 : Ext wa (wa.alloc (.cells ((List.replicate N (⟨none, 0, []⟩ : Gr Kn)).flatMap Gr.cells).toArray 26)) := (Ext.refl wa).allocs _
          obtain ⟨wb, hwb⟩ : ∃ wb, wa.alloc (.cells ((List.replicate N (⟨none, 0, []⟩ : Gr Kn)).flatMap Gr.cells).toArray 26) = wb := ⟨_, rfl⟩
          rw [hwb] at hm2 b2 x2
          refine sch_one rfl (fun K hK => ?_)
          go_simp
          refine hK.out _ _ trivial (fun hHeld => ?_)
          clear hK K
          try simp only [Act.put, List.setIfInBounds_toArray, List.set_cons_zero, List.set_cons_succ]
          clear hm2
          have hB1 := Blk.ext b1 x2
          have hX := Ext.trans x1 x2
          have hBg := Blk.ext HBg.out hX
          have hBo := Blk.ext HBo.out hX
          obtain ⟨⟨z0, z1, z2, z3, z4⟩, y0, y1, y2, y3, y4⟩ := blk5 hBg
          iterate 3 ((refine sch_read (v := ?_) rfl (Or.inl ⟨by rfl, ?_⟩) hHeld ?_; rotate_left 1; · (intro w' hSw; go_simp; (first | done | with_reducible rfl))); (try simp only [Act.put, List.setIfInBounds_toArray, List.set_cons_zero, List.set_cons_succ]))
          refine sch_tail rfl (by decide) (fun K hK => ?_)
          go_simp
          refine hK.out _ _ ?_
          clear hK K
          refine sch_done ?_
          go_wp2_with fail
          go_meet
          have hgaz : w1.heap.size ≤ ga := Nat.le_trans hE3.size hgW
          have hgaz1 : w1.heap.size ≤ ga + 1 := by omega
          refine ⟨rfl, _, ?_, CpM.start_st ga (ga + 1) go N, ?_⟩
          · exact CpM.start (put2of5 hBg _ _).1 (blk_typed hB1 (put2of5 hBg _ _).2 (TyRow.blk hBg (by decide))) (blk_typed b2 (put2of5 hBg _ _).2 (TyRow.blk hBg (by decide))) (blk_typed hBo (put2of5 hBg _ _).2 (TyRow.blk hBg (by decide))) hgz hgaz hgaz1 hgoz
          · exact ((Ext.trans hE3 hX).set hgz _).set hgz _
        · have hm1 := mk_kns N (by omega) W3.drew
          obtain ⟨ga, hga⟩ : ∃ ga, W3.drew.heap.size = ga := ⟨_, rfl⟩
          have b1 := Blk.new W3.drew 26 ((List.replicate N (⟨none, 0, []⟩ : Gr Kn)).flatMap Gr.cells).toArray
          have x1 : Ext W3 (W3.drew.alloc (.cells ((List.replicate N (⟨none, 0, []⟩ : Gr Kn)).flatMap Gr.cells).toArray 26)) := Ext.trans (Below.drew (Ext.refl W3)) ((Ext.refl W3.drew).allocs _)
          have hz1 : (W3.drew.alloc (.cells ((List.replicate N (⟨none, 0, []⟩ : Gr Kn)).flatMap Gr.cells).toArray 26)).heap.size = ga + 1 := by rw [← hga]; simp
          obtain ⟨wa, hwa⟩ : ∃ wa, W3.drew.alloc (.cells ((List.replicate N (⟨none, 0, []⟩ : Gr Kn)).flatMap Gr.cells).toArray 26) = wa := ⟨_, rfl⟩
          rw [hwa] at hm1 b1 x1 hz1
          rw [hga] at hm1 b1
          have hgW : W3.heap.size ≤ ga := by rw [← hga]; exact Nat.le_refl _
          go_simp
          refine hK.out _ _ trivial (fun hHeld => ?_)
          clear hK K
          try simp only [Act.put, List.setIfInBounds_toArray, List.set_cons_zero, List.set_cons_succ]
          clear hm1 hwa hga
          have hm2 := mk_evs N (by omega) wa
          rw [hz1] at hm2
          have b2 := Blk.new wa 65 ((List.replicate N (⟨none, 0, []⟩ : Gr Ev)).flatMap Gr.cells).toArray
          rw [hz1] at b2
          have x2 : Ext wa (wa.alloc (.cells ((List.replicate N (⟨none, 0, []⟩ : Gr Ev)).flatMap Gr.cells).toArray 65)) := (Ext.refl wa).allocs _
          obtain ⟨wb, hwb⟩ : ∃ wb, wa.alloc (.cells ((List.replicate N (⟨none, 0, []⟩ : Gr Ev)).flatMap Gr.cells).toArray 65) = wb := ⟨_, rfl⟩
          rw [hwb] at hm2 b2 x2
          refine sch_one rfl (fun K hK => ?_)
          go_simp
          refine hK.out _ _ trivial (fun hHeld => ?_)
          clear hK K
          try simp only [Act.put, List.setIfInBounds_toArray, List.set_cons_zero, List.set_cons_succ]
          clear hm2
          have hB1 := Blk.ext b1 x2
          have hX := Ext.trans x1 x2
          have hBg := Blk.ext HBg.out hX
          have hBo := Blk.ext HBo.out hX
          obtain ⟨⟨z0, z1, z2, z3, z4⟩, y0, y1, y2, y3, y4⟩ := blk5 hBg
          iterate 3 ((refine sch_read (v := ?_) rfl (Or.inl ⟨by rfl, ?_⟩) hHeld ?_; rotate_left 1; · (intro w' hSw; go_simp; (first | done | with_reducible rfl))); (try simp only [Act.put, List.setIfInBounds_toArray, List.set_cons_zero, List.set_cons_succ]))
          refine sch_tail rfl (by decide) (fun K hK => ?_)
          go_simp
          refine hK.out _ _ ?_
          clear hK K
          refine sch_done ?_
          go_wp2_with fail
          go_meet
          have hgaz : w1.heap.size ≤ ga := Nat.le_trans hE3.size hgW
          have hgaz1 : w1.heap.size ≤ ga + 1 := by omega
          refine ⟨rfl, _, ?_, CpM.start_st (ga + 1) ga go N, ?_⟩
          · exact CpM.start (put2of5 hBg _ _).1 (blk_typed b2 (put2of5 hBg _ _).2 (TyRow.blk hBg (by decide))) (blk_typed hB1 (put2of5 hBg _ _).2 (TyRow.blk hBg (by decide))) (blk_typed hBo (put2of5 hBg _ _).2 (TyRow.blk hBg (by decide))) hgz hgaz1 hgaz hgoz
          · exact ((Ext.trans hE3 hX).set hgz _).set hgz _
      case rest =>
        obtain ⟨rfl, p0, hC0, hst0, hE0⟩ := hcut
        have HC0 := Lib.hid hC0
        have HST0 := Lib.hid hst0
        have HE0 := Lib.hid hE0
        have HB1c := Lib.hid (Blk.ext HB1.out hE0)
        clear hC0 hst0 hE0
        go_wp2_with fail
        go_loopg [46] l.length (fun gg iv wr => PlRel w1 w.heap.size g N f l gg iv wr)
        case atStart => exact ⟨0, p0, Nat.zero_le _, rfl, rfl, HC0.out, HST0.out, HE0.out⟩
        case round =>
          obtain ⟨j, p, hj, rfl, rfl, hC, hst, hE⟩ := hrel
          by_cases hlt : j < l.length
          · have HWF := Lib.hid (WF.play N f (by omega) l j hj)
            have HNX := Lib.hid (playV_take N f l j hlt)
            rw [← hst] at HWF HNX
            obtain ⟨b, off, rfl, q0, q1, q2⟩ := Av.at_ (HS.out.ext hE) hlt
            obtain ⟨a, ha⟩ : ∃ a, l[j] = a := ⟨_, rfl⟩
            rw [ha] at q0 q1 q2 HNX
            clear ha
            have hj200 : j ≤ 200 := by omega
            have hEa : Ext wr (wr.alloc (.cells #[.int .i64 a.kind, .int .i64 a.proc, .int .i64 a.other] 74)) := (Ext.refl wr).allocs _
            have hBa : Blk (wr.alloc (.cells #[.int .i64 a.kind, .int .i64 a.proc, .int .i64 a.other] 74)) wr.heap.size 74 #[.int .i64 a.kind, .int .i64 a.proc, .int .i64 a.other] := Blk.new wr _ _
            have HCa := Lib.hid (hC.ext hEa)
            have hEx : Ext w1 (wr.alloc (.cells #[.int .i64 a.kind, .int .i64 a.proc, .int .i64 a.other] 74)) := Ext.trans hE hEa
            obtain ⟨ga, hga⟩ : ∃ ga, wr.heap.size = ga := ⟨_, rfl⟩
            rw [hga] at hBa
            have HEX := Lib.hid hEx
            have HBA := Lib.hid hBa
            have HZW : Hid (w1.heap.size ≤ (wr.alloc (.cells #[.int .i64 a.kind, .int .i64 a.proc, .int .i64 a.other] 74)).heap.size) := hEx.size
            clear hC hE hEa hEx hBa
            go_upto_region 10 with fail
            generalize wr.alloc (.cells #[.int .i64 a.kind, .int .i64 a.proc, .int .i64 a.other] 74) = wx at HCa HEX HBA HZW ⊢
            have z0 : wx.cell? ⟨ga, 0, none⟩ = some (.int .i64 a.kind) := (HBA.out.cell 0).trans rfl
            have z1 : wx.cell? ⟨ga, 1, none⟩ = some (.int .i64 a.proc) := (HBA.out.cell 1).trans rfl
            have z2 : wx.cell? ⟨ga, 2, none⟩ = some (.int .i64 a.other) := (HBA.out.cell 2).trans rfl
            clear q0 q1 q2
            have HSD := Lib.hid (send_any wx w1.heap.size g N j f p HCa.out HWF.out hj200 hN5 HZW.out a.proc a.other)
            have HRC := Lib.hid (receive_any wx w1.heap.size g N j f p HCa.out HWF.out hj200 hN5 HZW.out a.other)
            have HPR := Lib.hid (process_any wx w1.heap.size g N f p HCa.out a.proc hN5)
            by_cases k1 : a.kind = 1
            · have e1 : (a.kind == 1) = true := by simp [k1]
              have HA1 : Hid (actV N f p.st a = if canSend N p.st a.proc a.other then sendV f p.st a.proc.toNat a.other.toNat else p.st) := by show _ = _; unfold actV; rw [if_pos k1]
              clear k1
              go_wp2_with fail
              refine HSD.out.mono ?_
              rintro e w5 ⟨rfl, p', hC', hst', hL'⟩
              go_wp2_with fail
              go_roundg (l.length - (j + 1))
              case measure => omega
              case rel => exact ⟨j + 1, p', by omega, by go_num, rfl, hC', by rw [HNX.out, HA1.out]; exact hst', Below.trans HEX.out hL'⟩
            · have e1 : (a.kind == 1) = false := by simp [k1]
              by_cases k2 : a.kind = 2
              · have e2 : (a.kind == 2) = true := by simp [k2]
                have HA1 : Hid (actV N f p.st a = if canRecv p.st a.other then recvV p.st a.other.toNat else p.st) := by show _ = _; unfold actV; rw [if_neg k1, if_pos k2]
                clear k1 k2
                go_wp2_with fail
                refine HRC.out.mono ?_
                rintro e w5 ⟨rfl, p', hC', hst', hL'⟩
                go_wp2_with fail
                go_roundg (l.length - (j + 1))
                case measure => omega
                case rel => exact ⟨j + 1, p', by omega, by go_num, rfl, hC', by rw [HNX.out, HA1.out]; exact hst', Below.trans HEX.out hL'⟩
              · have e2 : (a.kind == 2) = false := by simp [k2]
                by_cases k3 : a.kind = 3
                · have e3 : (a.kind == 3) = true := by simp [k3]
                  have HA1 : Hid (actV N f p.st a = if okProc N a.proc then ckptV N p.st a.proc.toNat else p.st) := by show _ = _; unfold actV; rw [if_neg k1, if_neg k2, if_pos k3]
                  clear k1 k2 k3
                  by_cases hp : okProc N a.proc = true
                  · obtain ⟨pn, hpn⟩ : ∃ pn : Nat, a.proc = (pn : Int) := ⟨a.proc.toNat, by have := (okProc_iff.1 hp).1; omega⟩
                    rw [hp, if_pos rfl] at HA1
                    rw [hpn] at z1 HPR HA1 hp
                    rw [Int.toNat_natCast] at HA1
                    clear hpn
                    have hpl := (okProc_iff.1 hp).2
                    have hpl0 : (0 : Int) ≤ (pn : Int) := by omega
                    have hpN : pn < N := by omega
                    obtain ⟨sk, hsk⟩ : ∃ sk, p.t.K[pn]? = some sk := ⟨_, List.getElem?_eq_getElem (by rw [HCa.out.t.nk]; exact hpN)⟩
                    obtain ⟨G, hG1, hG2, -⟩ := HWF.out.g
                    have hkk := hG2 sk.l (List.mem_map.2 ⟨sk, List.mem_of_getElem? hsk, rfl⟩)
                    have hkl : sk.l.length ≤ 200 := by have := hkk.len; omega
                    have HKK : Hid (∀ k ∈ sk.l, okH k.h) := hkk.ok
                    have HKD : Hid (p.st.kn.getD pn [] = sk.l) := by show _ = _; simp [Cp.st, List.getD_eq_getElem?_getD, hsk]
                    clear hG1 hG2 hkk
                    go_wp2_with fail
                    refine HPR.out.mono ?_
                    rintro e w5 ⟨rfl, rfl⟩
                    rw [hp]
                    have hcS : ∀ W', Ext w5 W' → W'.cell? ⟨g, 2, none⟩ = some (.slice (some ⟨p.t.gk, 0, none⟩) N N) ∧ W'.cell? ⟨p.t.gk, pn, none⟩ = some (.slice sk.A sk.l.length sk.c) ∧ W'.cell? ⟨ga, 1, none⟩ = some (.int .i64 pn) := fun W' hW => by
                      have h9 := HCa.out.ext hW
                      exact ⟨h9.cells.2.2.1, h9.t.cellK hsk, by rw [hW.cell (p := ⟨ga, 1, none⟩) HBA.out.lt]; exact z1⟩
                    have HSS := Lib.hid hcS
                    clear hcS
                    go_wp2_with fail
                    refine wp_region_sched (by kernel_rfl) 19 [(0, true), (1, true), (2, true), (3, true), (4, true), (5, true), (6, true), (7, true), (8, true), (9, true), (10, true), (11, true), (12, true), (13, true), (14, true), (15, true), (16, true), (17, false), (18, true), (19, false)] (fun W' => W'.cell? ⟨g, 2, none⟩ = some (.slice (some ⟨p.t.gk, 0, none⟩) N N) ∧ W'.cell? ⟨p.t.gk, pn, none⟩ = some (.slice sk.A sk.l.length sk.c) ∧ W'.cell? ⟨ga, 1, none⟩ = some (.int .i64 pn)) (by kernel_rfl) (fun _ _ dd _ _ h => by cases dd <;> exact h) (HSS.out _ (Below.drew (Ext.refl w5))) (fun hHeld => ?_)
                    iterate 17 ((refine sched_read (v := ?_) rfl (Or.inl ⟨by rfl, ?_⟩) hHeld ?_; rotate_left 1; · (intro w' hSw; obtain ⟨t0, t1, t2⟩ := hSw; go_simp; (first | done | with_reducible rfl))); (try simp only [Act.put, List.setIfInBounds_toArray, List.set_cons_zero, List.set_cons_succ]))
                    have hEd : Ext w5 w5.drew := Below.drew (Ext.refl w5)
                    have HST5 := Lib.hid (stable_code sk.A sk.c sk.l N N (by omega) w5.drew (Seg.of_own (own_ext (HCa.out.t.k sk (List.mem_of_getElem? hsk)) hEd)) (by omega) HKK.out)
                    refine sched_eff rfl (fun K hK => ?_)
                    go_simp
                    refine HST5.out.mono ?_
                    rintro e9 w8 ⟨v, rfl, hown, hE⟩
                    obtain ⟨A8, c8, rfl, -, -, -⟩ := own_slice hown
                    have hE58 : Ext w5 w8 := Ext.trans hEd hE
                    refine hK.out _ _ (HSS.out _ hE58) (fun hHeld => ?_)
                    clear hK K HST5
                    try simp only [Act.put, List.setIfInBounds_toArray, List.set_cons_zero, List.set_cons_succ]
                    iterate 1 ((refine sched_read (v := ?_) rfl (Or.inl ⟨by rfl, ?_⟩) hHeld ?_; rotate_left 1; · (intro w' hSw; obtain ⟨t0, t1, t2⟩ := hSw; go_simp; (first | done | with_reducible rfl))); (try simp only [Act.put, List.setIfInBounds_toArray, List.set_cons_zero, List.set_cons_succ]))
                    have hC8 := HCa.out.ext hE58
                    have hO8 : KnOwn w8 w1.heap.size A8 c8 (sk.l.map (stK N)) := own_base hown HZW.out
                    have HC8 := Lib.hid (hC8.set_kn hpN hO8)
                    have HL8 : Hid (Ext w1 (w8.setCell ⟨p.t.gk, pn, none⟩ (.slice A8 (sk.l.map (stK N)).length c8))) := Below.setCell (Below.trans HEX.out (hE58.mono HZW.out)) HCa.out.t.zk _
                    have hfz8 : w8.frozen? ⟨p.t.gk, pn, none⟩ = false := hC8.t.kb.frozen _
                    have hce8 := hC8.t.cellK hsk
                    clear hown hE hE58 hEd hC8 hO8 hHeld
                    have hlm : (sk.l.map (stK N)).length = sk.l.length := List.length_map ..
                    rw [hlm] at HC8 HL8
                    refine sched_tail rfl (by decide) (fun K hK => ?_)
                    go_simp
                    refine hK.out _ (w8.setCell ⟨p.t.gk, pn, none⟩ (.slice A8 sk.l.length c8)) ?_
                    clear hK K
                    refine sched_done ?_
                    (try simp only [Exit.inBlock, Exit.then])
                    go_wp2_with fail
                    go_roundg (l.length - (j + 1))
                    case measure => omega
                    case rel =>
                      refine ⟨j + 1, _, by omega, by go_num, rfl, HC8.out, ?_, HL8.out⟩
                      rw [HNX.out, HA1.out]
                      unfold ckptV
                      rw [HKD.out]
                      simp [Cp.st, List.map_set]
                  · have hp' : okProc N a.proc = false := by simpa using hp
                    rw [hp', if_neg (by simp)] at HA1
                    go_wp2_with fail
                    refine HPR.out.mono ?_
                    rintro e w5 ⟨rfl, rfl⟩
                    rw [hp']
                    go_wp2_with fail
                    go_roundg (l.length - (j + 1))
                    case measure => omega
                    case rel => exact ⟨j + 1, p, by omega, by go_num, rfl, HCa.out, by rw [HNX.out, HA1.out], HEX.out⟩
                · have e3 : (a.kind == 3) = false := by simp [k3]
                  have HA1 : Hid (actV N f p.st a = p.st) := by show _ = _; unfold actV; rw [if_neg k1, if_neg k2, if_neg k3]
                  clear k1 k2 k3
                  go_wp2_with fail
                  go_roundg (l.length - (j + 1))
                  case measure => omega
                  case rel => exact ⟨j + 1, p, by omega, by go_num, rfl, HCa.out, by rw [HNX.out, HA1.out], HEX.out⟩
          · obtain rfl : j = l.length := by omega
            rw [List.take_of_length_le (Nat.le_refl _)] at hst
            have HST := Lib.hid hst
            obtain ⟨c0, c1, c2, c3, c4⟩ := hC.cells
            have hB6 := Blk.ext HB1.out hE
            obtain ⟨⟨x0, x1⟩, y0, y1⟩ := blk2 hB6
            have hput := Blk.put2s hB6 (.slice (some ⟨p.t.ge, 0, none⟩) N N) (.slice (some ⟨p.t.gk, 0, none⟩) N N)
            have hsp := (hC.t.typed hput.2 (TyRow.blk hB6 (by decide))).sp
            rw [show p.t.R.map Gr.l = (playV N f l).ev from congrArg Cm.ev hst, show p.t.K.map Gr.l = (playV N f l).kn from congrArg Cm.kn hst] at hsp
            have hEf := ((Ext.trans HX1.out hE).set (o := 0) (Nat.le_refl w.heap.size) (.slice (some ⟨p.t.ge, 0, none⟩) N N)).set (o := 1) (Nat.le_refl w.heap.size) (.slice (some ⟨p.t.gk, 0, none⟩) N N)
            have hty : ∀ (W' : World) (g9 : Nat) (cs : Array Value), Blk ((wr.setCell ⟨w.heap.size, 0, none⟩ (.slice (some ⟨p.t.ge, 0, none⟩) N N)).setCell ⟨w.heap.size, 1, none⟩ (.slice (some ⟨p.t.gk, 0, none⟩) N N)) g9 50 cs → World.grownBy ((wr.setCell ⟨w.heap.size, 0, none⟩ (.slice (some ⟨p.t.ge, 0, none⟩) N N)).setCell ⟨w.heap.size, 1, none⟩ (.slice (some ⟨p.t.gk, 0, none⟩) N N)) W' (some g9) → SpM W' (.agg #[.slice (some ⟨p.t.ge, 0, none⟩) N N, .slice (some ⟨p.t.gk, 0, none⟩) N N]) (playV N f l).ev (playV N f l).kn := fun W' g9 cs hB9 hg9 => by
              have h9 := ((hC.t.typed hput.2 (TyRow.blk hB6 (by decide))).typed hg9 (TyRow.blk hB9 (by decide))).sp
              rw [show p.t.R.map Gr.l = (playV N f l).ev from congrArg Cm.ev hst, show p.t.K.map Gr.l = (playV N f l).kn from congrArg Cm.kn hst] at h9
              exact h9
            have HTY := Lib.hid hty
            clear hty
            have HSP := Lib.hid hsp
            have HEF := Lib.hid hEf
            have HPUT := Lib.hid hput.1
            clear hsp hEf hput hB6 hst hC hE
            go_wp2_with fail
            (try simp only [Exit.inBlock, Exit.then])
            refine bodyPost_ret (res_sp HPUT.out rfl rfl) rfl ?_
            exact ⟨_, rfl, HSP.out, HEF.out, HTY.out⟩
    · have HV : Hid (playR n f l = (4, [], [])) := by show _ = _; unfold playR; rw [if_pos hR, if_neg hL]
      obtain ⟨h1, h2, h3, h4⟩ := hR
      have hL' : (200 : Int) < (l.length : Int) := by omega
      clear hL hs
      unfold PlPostT
      rw [HV.out]
      go_enter Try.func24, Try.ntmps24
      go_wp2_with fail
      (try simp only [Exit.inBlock, Exit.then]); refine bodyPost_ret (res_sp (Blk.new w _ _) rfl rfl) rfl ?_
      exact ⟨_, rfl, SpM.nil _, (Ext.refl w).allocs _, fun _ _ _ _ _ => SpM.nil _⟩
  · have HV : Hid (playR n f l = (3, [], [])) := by show _ = _; unfold playR; rw [if_neg hR]
    unfold PlPostT
    rw [HV.out]
    by_cases h1 : n < 1
    · go_enter Try.func24, Try.ntmps24
      go_wp2_with fail
      (try simp only [Exit.inBlock, Exit.then]); refine bodyPost_ret (res_sp (Blk.new w _ _) rfl rfl) rfl ?_
      exact ⟨_, rfl, SpM.nil _, (Ext.refl w).allocs _, fun _ _ _ _ _ => SpM.nil _⟩
    · by_cases h2 : 5 < n
      · go_enter Try.func24, Try.ntmps24
        go_wp2_with fail
        (try simp only [Exit.inBlock, Exit.then]); refine bodyPost_ret (res_sp (Blk.new w _ _) rfl rfl) rfl ?_
        exact ⟨_, rfl, SpM.nil _, (Ext.refl w).allocs _, fun _ _ _ _ _ => SpM.nil _⟩
      · by_cases h3 : f < 0
        · go_enter Try.func24, Try.ntmps24
          go_wp2_with fail
          (try simp only [Exit.inBlock, Exit.then]); refine bodyPost_ret (res_sp (Blk.new w _ _) rfl rfl) rfl ?_
          exact ⟨_, rfl, SpM.nil _, (Ext.refl w).allocs _, fun _ _ _ _ _ => SpM.nil _⟩
        · have h4 : n < f := by unfold okRange at hR; omega
          go_enter Try.func24, Try.ntmps24
          go_wp2_with fail
          (try simp only [Exit.inBlock, Exit.then]); refine bodyPost_ret (res_sp (Blk.new w _ _) rfl rfl) rfl ?_
          exact ⟨_, rfl, SpM.nil _, (Ext.refl w).allocs _, fun _ _ _ _ _ => SpM.nil _⟩
end Go.Proofs.Ytfnnoncdocghjaa
