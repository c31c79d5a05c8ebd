/- The law KnowledgePlays walked. No statement of the seat is proved here. -/
import Derived.Test.YtfnnoncdocghjaaK8
import Derived.Test.YtfnnoncdocghjaaK7
namespace Go.Proofs.Ytfnnoncdocghjaa
open Go.RowKit
set_option linter.unusedVariables false
set_option maxRecDepth 100000

theorem playR_bd (n f : Int) (l : List Av) : (∀ x ∈ (playR n f l).2.1, x.length ≤ 1000) ∧ (∀ x ∈ (playR n f l).2.2, x.length ≤ 1000) ∧ (playR n f l).2.1.length ≤ 1000 ∧ (playR n f l).2.2.length ≤ 1000 := by
  unfold playR
  split
  · rename_i hr
    split
    · rename_i hl
      have hn : n.toNat ≤ 5 := by have := hr.2.1; omega
      have hw := WF.play n.toNat f (by omega) l l.length (Nat.le_refl _)
      rw [List.take_length] at hw
      refine ⟨fun x hx => by have := hw.el x hx; omega, fun x hx => ?_, by rw [hw.e]; omega, by rw [hw.k]; omega⟩
      obtain ⟨G, h1, h2, -⟩ := hw.g
      have := (h2 x hx).len
      omega
    · exact ⟨by simp, by simp, by simp, by simp⟩
  · exact ⟨by simp, by simp, by simp, by simp⟩
theorem load_spv {W : World} {b : Nat} {v1 v2 : Value} (h : Blk W b 50 #[v1, v2]) : W.cell? ⟨b, 0, none⟩ = some v1 ∧ W.cell? ⟨b, 1, none⟩ = some v2 := (blk2 h).1
set_option maxHeartbeats 6400000 in
theorem plays_walk (n f : Int) (a2 : Option Addr) (cap2 : Nat) (la : List Av) (a3 : Option Addr) (cap3 : Nat) (bs : List Int) (w : World) (w0 : (Lit.int .i64 n).wf = true) (w1 : (Lit.int .i64 f).wf = true)
    (w2 : AvSeg w a2 la ∧ la.length ≤ cap2 ∧ cap2 ≤ maxLen) (w3 : Seg w 1 a3 bs.length (bs.map (Value.int .u8)) ∧ bs.length ≤ cap3 ∧ cap3 ≤ maxLen ∧ ∀ b ∈ bs, 0 ≤ b ∧ b < 256) :
    Calls Try.prog 5 #[.int .i64 n, .int .i64 f, .slice a2 la.length cap2, .slice a3 bs.length cap3] w fun e w' => e = .returned (.bool true) ∧ Below w.heap.size w w' := by
  have W2 := Lib.hid w2
  have W3 := Lib.hid w3
  have hcap : (la.length : Int) ≤ maxLen := by have := w2.2.1; have := w2.2.2; omega
  clear w0 w1 w2 w3
  by_cases h300 : la.length ≤ 300
  · have hd : decide ((300 : Int) < (la.length : Int)) = false := decide_eq_false (by omega)
    have hl3 : (la.length : Int) ≤ 300 := by omega
    clear hcap
    go_enter Try.func5, Try.ntmps5
    go_wp2_with fail
    refine (awake_any _).mono ?_
    rintro e wA ⟨rfl, hEA⟩
    have HEA := Lib.hid hEA
    clear hEA
    go_wp2_with fail
    refine (draw_any a3 cap3 bs wA (W3.out.1.ext HEA.out) W3.out.2.1 W3.out.2.2.1 W3.out.2.2.2).mono ?_
    rintro e wb ⟨N, f2, A, c, l, rfl, hN1, hN2, hf, hS, hl, hEB⟩
    have HEB := Lib.hid (Ext.trans HEA.out hEB)
    have HS := Lib.hid hS
    have HSA := Lib.hid (W2.out.1.ext HEB.out)
    clear hEB hS
    obtain ⟨P, hP⟩ : ∃ P, playR n f la = P := ⟨_, rfl⟩
    obtain ⟨Q, hQ⟩ : ∃ Q, playR N f2 l = Q := ⟨_, rfl⟩
    have hbP := playR_bd n f la
    have hbQ := playR_bd N f2 l
    rw [hP] at hbP
    rw [hQ] at hbQ
    have HP := Lib.hid hP
    have HQ := Lib.hid hQ
    have HBP := Lib.hid hbP
    have HBQ := Lib.hid hbQ
    have hX0 : Ext wb wb := Ext.refl wb
    clear hP hQ hbP hbQ
    go_wp2_with fail
    refine (play_any n f a2 cap2 la _ (HSA.out.ext hX0)).mono ?_
    rintro e w1 ⟨v, rfl, hsp, hE⟩
    rw [HP.out] at hsp ⊢
    obtain ⟨A1, B1, cA1, cB1, R1, K1, rfl, h1, h2, h3, h4⟩ := hsp
    have hAl : Ext w1 (w1.alloc (.cells #[.slice A1 R1.length cA1, .slice B1 K1.length cB1] 50)) := (Ext.refl w1).allocs _
    have hBk : Blk (w1.alloc (.cells #[.slice A1 R1.length cA1, .slice B1 K1.length cB1] 50)) w1.heap.size 50 #[.slice A1 R1.length cA1, .slice B1 K1.length cB1] := Blk.new w1 _ _
    have hX1 : Ext wb (w1.alloc (.cells #[.slice A1 R1.length cA1, .slice B1 K1.length cB1] 50)) := Ext.trans hX0 (Ext.trans hE hAl)
    have HSP1 : Hid (SpM (w1.alloc (.cells #[.slice A1 R1.length cA1, .slice B1 K1.length cB1] 50)) (.agg #[.slice A1 R1.length cA1, .slice B1 K1.length cB1]) P.2.1 P.2.2) := ⟨_, _, _, _, _, _, rfl, h1.ext hAl, h2.ext hAl, h3, h4⟩
    obtain ⟨r1, hr1⟩ : ∃ r, R1.length = r := ⟨_, rfl⟩
    obtain ⟨k1, hk1⟩ : ∃ k, K1.length = k := ⟨_, rfl⟩
    rw [hr1, hk1] at hBk hX1 HSP1 hAl ⊢
    clear hE hAl h1 h2 h3 h4 hr1 hk1
    have HB1 := Lib.hid hBk
    clear hBk
    clear hX0
    go_wp2_with fail
    refine (rplay_any n f a2 cap2 la _ (HSA.out.ext hX1)).mono ?_
    rintro e w2 ⟨v, rfl, hsp, hE⟩
    rw [HP.out] at hsp ⊢
    obtain ⟨A2, B2, cA2, cB2, R2, K2, rfl, h1, h2, h3, h4⟩ := hsp
    have hAl : Ext w2 (w2.alloc (.cells #[.slice A2 R2.length cA2, .slice B2 K2.length cB2] 50)) := (Ext.refl w2).allocs _
    have hBk : Blk (w2.alloc (.cells #[.slice A2 R2.length cA2, .slice B2 K2.length cB2] 50)) w2.heap.size 50 #[.slice A2 R2.length cA2, .slice B2 K2.length cB2] := Blk.new w2 _ _
    have hX2 : Ext wb (w2.alloc (.cells #[.slice A2 R2.length cA2, .slice B2 K2.length cB2] 50)) := Ext.trans hX1 (Ext.trans hE hAl)
    have HSP2 : Hid (SpM (w2.alloc (.cells #[.slice A2 R2.length cA2, .slice B2 K2.length cB2] 50)) (.agg #[.slice A2 R2.length cA2, .slice B2 K2.length cB2]) P.2.1 P.2.2) := ⟨_, _, _, _, _, _, rfl, h1.ext hAl, h2.ext hAl, h3, h4⟩
    obtain ⟨r2, hr2⟩ : ∃ r, R2.length = r := ⟨_, rfl⟩
    obtain ⟨k2, hk2⟩ : ∃ k, K2.length = k := ⟨_, rfl⟩
    rw [hr2, hk2] at hBk hX2 HSP2 hAl ⊢
    have HB1 := Lib.hid (Blk.ext HB1.out (Ext.trans hE hAl))
    have HSP1 := Lib.hid (HSP1.out.ext (Ext.trans hE hAl))
    clear hE hAl h1 h2 h3 h4 hr2 hk2
    have HB2 := Lib.hid hBk
    clear hBk
    clear hX1
    go_wp2_with fail
    refine (play_any N f2 A c l _ (HS.out.ext hX2)).mono ?_
    rintro e w3 ⟨v, rfl, hsp, hE⟩
    rw [HQ.out] at hsp ⊢
    obtain ⟨A3, B3, cA3, cB3, R3, K3, rfl, h1, h2, h3, h4⟩ := hsp
    have hAl : Ext w3 (w3.alloc (.cells #[.slice A3 R3.length cA3, .slice B3 K3.length cB3] 50)) := (Ext.refl w3).allocs _
    have hBk : Blk (w3.alloc (.cells #[.slice A3 R3.length cA3, .slice B3 K3.length cB3] 50)) w3.heap.size 50 #[.slice A3 R3.length cA3, .slice B3 K3.length cB3] := Blk.new w3 _ _
    have hX3 : Ext wb (w3.alloc (.cells #[.slice A3 R3.length cA3, .slice B3 K3.length cB3] 50)) := Ext.trans hX2 (Ext.trans hE hAl)
    have HSP3 : Hid (SpM (w3.alloc (.cells #[.slice A3 R3.length cA3, .slice B3 K3.length cB3] 50)) (.agg #[.slice A3 R3.length cA3, .slice B3 K3.length cB3]) Q.2.1 Q.2.2) := ⟨_, _, _, _, _, _, rfl, h1.ext hAl, h2.ext hAl, h3, h4⟩
    obtain ⟨r3, hr3⟩ : ∃ r, R3.length = r := ⟨_, rfl⟩
    obtain ⟨k3, hk3⟩ : ∃ k, K3.length = k := ⟨_, rfl⟩
    rw [hr3, hk3] at hBk hX3 HSP3 hAl ⊢
    have HB1 := Lib.hid (Blk.ext HB1.out (Ext.trans hE hAl))
    have HSP1 := Lib.hid (HSP1.out.ext (Ext.trans hE hAl))
    have HB2 := Lib.hid (Blk.ext HB2.out (Ext.trans hE hAl))
    have HSP2 := Lib.hid (HSP2.out.ext (Ext.trans hE hAl))
    clear hE hAl h1 h2 h3 h4 hr3 hk3
    have HB3 := Lib.hid hBk
    clear hBk
    clear hX2
    go_wp2_with fail
    refine (rplay_any N f2 A c l _ (HS.out.ext hX3)).mono ?_
    rintro e w4 ⟨v, rfl, hsp, hE⟩
    rw [HQ.out] at hsp ⊢
    obtain ⟨A4, B4, cA4, cB4, R4, K4, rfl, h1, h2, h3, h4⟩ := hsp
    have hAl : Ext w4 (w4.alloc (.cells #[.slice A4 R4.length cA4, .slice B4 K4.length cB4] 50)) := (Ext.refl w4).allocs _
    have hBk : Blk (w4.alloc (.cells #[.slice A4 R4.length cA4, .slice B4 K4.length cB4] 50)) w4.heap.size 50 #[.slice A4 R4.length cA4, .slice B4 K4.length cB4] := Blk.new w4 _ _
    have hX4 : Ext wb (w4.alloc (.cells #[.slice A4 R4.length cA4, .slice B4 K4.length cB4] 50)) := Ext.trans hX3 (Ext.trans hE hAl)
    have HSP4 : Hid (SpM (w4.alloc (.cells #[.slice A4 R4.length cA4, .slice B4 K4.length cB4] 50)) (.agg #[.slice A4 R4.length cA4, .slice B4 K4.length cB4]) Q.2.1 Q.2.2) := ⟨_, _, _, _, _, _, rfl, h1.ext hAl, h2.ext hAl, h3, h4⟩
    obtain ⟨r4, hr4⟩ : ∃ r, R4.length = r := ⟨_, rfl⟩
    obtain ⟨k4, hk4⟩ : ∃ k, K4.length = k := ⟨_, rfl⟩
    rw [hr4, hk4] at hBk hX4 HSP4 hAl ⊢
    have HB1 := Lib.hid (Blk.ext HB1.out (Ext.trans hE hAl))
    have HSP1 := Lib.hid (HSP1.out.ext (Ext.trans hE hAl))
    have HB2 := Lib.hid (Blk.ext HB2.out (Ext.trans hE hAl))
    have HSP2 := Lib.hid (HSP2.out.ext (Ext.trans hE hAl))
    have HB3 := Lib.hid (Blk.ext HB3.out (Ext.trans hE hAl))
    have HSP3 := Lib.hid (HSP3.out.ext (Ext.trans hE hAl))
    clear hE hAl h1 h2 h3 h4 hr4 hk4
    have HB4 := Lib.hid hBk
    clear hBk
    clear hX3
    have z1 := load_spv HB1.out
    have z2 := load_spv HB2.out
    obtain ⟨z10, z11⟩ := z1
    obtain ⟨z20, z21⟩ := z2
    have eP : (P.1 == P.1) = true := by simp
    have eQ : (Q.1 == Q.1) = true := by simp
    go_wp2_with fail
    refine (sameSp _ _ P.2.1 P.2.2 _ HSP1.out HSP2.out HBP.out.1 HBP.out.2.1 HBP.out.2.2.1 HBP.out.2.2.2).mono ?_
    rintro e w5 ⟨rfl, hE5⟩
    have hX5 := Ext.trans hX4 hE5
    obtain ⟨z30, z31⟩ := load_spv (Blk.ext HB3.out hE5)
    obtain ⟨z40, z41⟩ := load_spv (Blk.ext HB4.out hE5)
    have HS3 := Lib.hid (HSP3.out.ext hE5)
    have HS4 := Lib.hid (HSP4.out.ext hE5)
    clear z10 z11 z20 z21 hE5
    go_wp2_with fail
    refine (sameSp _ _ Q.2.1 Q.2.2 _ HS3.out HS4.out HBQ.out.1 HBQ.out.2.1 HBQ.out.2.2.1 HBQ.out.2.2.2).mono ?_
    rintro e w6 ⟨rfl, hE6⟩
    have HX6 := Lib.hid (Ext.trans hX5 hE6)
    clear z30 z31 z40 z41 hE6 hX5
    go_wp2_with fail
    go_ret
    exact ⟨rfl, Ext.trans HEB.out HX6.out⟩
  · have hd : decide ((300 : Int) < (la.length : Int)) = true := decide_eq_true (by omega)
    go_enter Try.func5, Try.ntmps5
    go_wp2_with fail
    refine (awake_any _).mono ?_
    rintro e wA ⟨rfl, hEA⟩
    have HEA := Lib.hid hEA
    clear hEA
    go_wp2_with fail
    go_ret
    exact ⟨rfl, HEA.out⟩
end Go.Proofs.Ytfnnoncdocghjaa
