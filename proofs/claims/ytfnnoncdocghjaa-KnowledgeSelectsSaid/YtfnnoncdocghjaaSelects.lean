/- The law KnowledgeSelects walked. No statement of the seat is proved here. -/
import Derived.Test.YtfnnoncdocghjaaArgsK
import Derived.Test.YtfnnoncdocghjaaSelK3
import Derived.Test.YtfnnoncdocghjaaSameK
namespace Go.Proofs.Ytfnnoncdocghjaa
open Go.RowKit
set_option linter.unusedVariables false
set_option maxRecDepth 100000

set_option maxHeartbeats 6400000 in
theorem selects_walk (a0 : Option Addr) (cap0 : Nat) (l : List Kn) (x1 x2 x3 : Int) (a4 : Option Addr) (cap4 : Nat) (bs : List Int) (w : World)
    (w0 : KnSeg w a0 l ∧ l.length ≤ cap0 ∧ cap0 ≤ maxLen ∧ ∀ k ∈ l, okH k.h) (w1 : (Lit.int .i64 x1).wf = true) (w2 : (Lit.int .i64 x2).wf = true) (w3 : (Lit.int .i64 x3).wf = true)
    (w4 : Seg w 1 a4 bs.length (bs.map (Value.int .u8)) ∧ bs.length ≤ cap4 ∧ cap4 ≤ maxLen ∧ ∀ b ∈ bs, 0 ≤ b ∧ b < 256) :
    Calls Try.prog 10 #[.slice a0 l.length cap0, .int .i64 x1, .int .i64 x2, .int .i64 x3, .slice a4 bs.length cap4] w fun e w' => e = .returned (.bool true) ∧ Below w.heap.size w w' := by
  have W0 := Lib.hid w0
  have W4 := Lib.hid w4
  have hcapl : (l.length : Int) ≤ maxLen := by have := w0.2.1; have := w0.2.2.1; omega
  clear w0 w4 w1 w2 w3
  by_cases h60 : l.length ≤ 60
  · have hd : decide ((60 : Int) < (l.length : Int)) = false := decide_eq_false (by omega)
    have hl6 : (l.length : Int) ≤ 60 := by omega
    clear hcapl
    go_enter Try.func10, Try.ntmps10
    go_wp2_with fail
    refine (awake_any _).mono ?_
    rintro e wA ⟨rfl, hEA⟩
    have HEA := Lib.hid hEA
    clear hEA
    go_wp2_with fail
    refine (new_any a4 cap4 bs 250 wA (W4.out.1.ext HEA.out) W4.out.2.1 W4.out.2.2.1 (by omega) W4.out.2.2.2).mono ?_
    rintro e wB ⟨rfl, hC, hEB⟩
    have hcl := hC.lt
    obtain ⟨c, hc⟩ : ∃ c, wA.heap.size = c := ⟨_, rfl⟩
    have hcc : wA.heap.size ≤ c := by omega
    rw [hc] at hC hcl ⊢
    have HEB := Lib.hid (Ext.trans HEA.out hEB)
    have HZB := Lib.hid (Nat.le_trans HEA.out.size hcc)
    clear hEB hc hcc
    go_wp2_with fail
    refine (known_first c (bs.take 250) 0 wB hC 12 (by omega)).mono ?_
    rintro e wC ⟨v, x, rfl, hown, hxl, hxok, hD⟩
    obtain ⟨A5, c5, rfl, hs5, -, -⟩ := own_slice hown
    have hEC : Ext w wC := Below.grown HEB.out hD.1 HEB.out.size (fun k hk => by injection hk with hk; have := HZB.out; omega)
    have HSX := Lib.hid hs5
    have HXOK := Lib.hid hxok
    have HEC := Lib.hid hEC
    clear hC hcl hown hs5 hD hxok hEC HEB HZB
    go_wp2_with fail
    refine (mod_any x1 36 _ (by omega) (by omega)).mono ?_
    rintro e wD ⟨rfl, rfl⟩
    obtain ⟨hk0, hk1⟩ := modv_bd x1 36 (by omega)
    generalize modv x1 36 = k0 at *
    go_wp2_with fail
    refine (mod_any x2 4 _ (by omega) (by omega)).mono ?_
    rintro e wD ⟨rfl, rfl⟩
    obtain ⟨hp0, hp1⟩ := modv_bd x2 4 (by omega)
    generalize modv x2 4 = pp at *
    go_wp2_with fail
    refine (mod_any x3 6 _ (by omega) (by omega)).mono ?_
    rintro e w5 ⟨rfl, rfl⟩
    obtain ⟨hi0, hi1⟩ := modv_bd x3 6 (by omega)
    generalize modv x3 6 = ii at *
    obtain ⟨m1, hm1⟩ : ∃ m1 : Nat, min (max x1 0) 32 = (m1 : Int) := ⟨(min (max x1 0) 32).toNat, by omega⟩
    obtain ⟨kk, hkk⟩ : ∃ kk, k0 - 1 = kk := ⟨_, rfl⟩
    obtain ⟨m2, hm2⟩ : ∃ m2 : Nat, min (max kk 0) 32 = (m2 : Int) := ⟨(min (max kk 0) 32).toNat, by omega⟩
    have HM1 := Lib.hid hm1
    have HM2 := Lib.hid hm2
    clear hm1 hm2
    have HSL := Lib.hid (W0.out.1.ext HEC.out)
    have HOK := Lib.hid W0.out.2.2.2
    have hE0 : Ext wC wC := Ext.refl wC
    go_wp2_with fail
    refine (carry_any a0 cap0 l x1 _ (HSL.out.ext hE0) (by omega) HOK.out).mono ?_
    rintro e wa ⟨v, rfl, hown, hEa⟩
    obtain ⟨Aa, ca, rfl, hsa, -, -⟩ := own_slice hown
    have hE0a := Ext.trans hE0 hEa
    clear hown hEa
    go_wp2_with fail
    refine (carry_ref a0 cap0 l x1 _ (HSL.out.ext hE0a) (by omega) HOK.out).mono ?_
    rintro e wb ⟨v, rfl, hown, hEb⟩
    obtain ⟨Ab, cb, rfl, hsb, -, -⟩ := own_slice hown
    have hE0b := Ext.trans hE0a hEb
    have hsa2 := hsa.ext hEb
    clear hown hsa hEb hE0 hE0a
    go_wp2_with fail
    have HS := sameKn Aa Ab ca cb (l.filter (keepF x1)) wb hsa2 hsb (by (try simp only [List.length_map]) ; first | omega | (have := List.length_filter_le (keepF x1) l; omega))
    try simp only [List.length_map] at HS
    refine HS.mono ?_
    clear HS
    rintro e wc ⟨rfl, nq, rfl⟩
    have hE1 : Ext wC (wb.drewN nq) := hE0b.drewN nq
    clear hsa2 hsb hE0b
    go_wp2_with fail
    refine (carry_any A5 c5 x kk _ (HSX.out.ext hE1) (by omega) HXOK.out).mono ?_
    rintro e wa ⟨v, rfl, hown, hEa⟩
    obtain ⟨Aa, ca, rfl, hsa, -, -⟩ := own_slice hown
    have hE1a := Ext.trans hE1 hEa
    clear hown hEa
    go_wp2_with fail
    refine (carry_ref A5 c5 x kk _ (HSX.out.ext hE1a) (by omega) HXOK.out).mono ?_
    rintro e wb ⟨v, rfl, hown, hEb⟩
    obtain ⟨Ab, cb, rfl, hsb, -, -⟩ := own_slice hown
    have hE1b := Ext.trans hE1a hEb
    have hsa2 := hsa.ext hEb
    clear hown hsa hEb hE1 hE1a
    go_wp2_with fail
    have HS := sameKn Aa Ab ca cb (x.filter (keepF kk)) wb hsa2 hsb (by (try simp only [List.length_map]) ; first | omega | (have := List.length_filter_le (keepF kk) x; omega))
    try simp only [List.length_map] at HS
    refine HS.mono ?_
    clear HS
    rintro e wc ⟨rfl, nq, rfl⟩
    have hE2 : Ext wC (wb.drewN nq) := hE1b.drewN nq
    clear hsa2 hsb hE1b
    go_wp2_with fail
    refine (stable_code a0 cap0 l x1 m1 HM1.out _ (HSL.out.ext hE2) (by omega) HOK.out).mono ?_
    rintro e wa ⟨v, rfl, hown, hEa⟩
    obtain ⟨Aa, ca, rfl, hsa, -, -⟩ := own_slice hown
    have hE2a := Ext.trans hE2 hEa
    clear hown hEa
    go_wp2_with fail
    refine (stable_ref a0 cap0 l x1 m1 HM1.out _ (HSL.out.ext hE2a) (by omega)).mono ?_
    rintro e wb ⟨v, rfl, hown, hEb⟩
    obtain ⟨Ab, cb, rfl, hsb, -, -⟩ := own_slice hown
    have hE2b := Ext.trans hE2a hEb
    have hsa2 := hsa.ext hEb
    clear hown hsa hEb hE2 hE2a
    go_wp2_with fail
    have HS := sameKn Aa Ab ca cb (l.map (stK m1)) wb hsa2 hsb (by (try simp only [List.length_map]) ; first | omega | (have := List.length_filter_le (fun _ => true) l; omega))
    try simp only [List.length_map] at HS
    refine HS.mono ?_
    clear HS
    rintro e wc ⟨rfl, nq, rfl⟩
    have hE3 : Ext wC (wb.drewN nq) := hE2b.drewN nq
    clear hsa2 hsb hE2b
    go_wp2_with fail
    refine (stable_code A5 c5 x kk m2 HM2.out _ (HSX.out.ext hE3) (by omega) HXOK.out).mono ?_
    rintro e wa ⟨v, rfl, hown, hEa⟩
    obtain ⟨Aa, ca, rfl, hsa, -, -⟩ := own_slice hown
    have hE3a := Ext.trans hE3 hEa
    clear hown hEa
    go_wp2_with fail
    refine (stable_ref A5 c5 x kk m2 HM2.out _ (HSX.out.ext hE3a) (by omega)).mono ?_
    rintro e wb ⟨v, rfl, hown, hEb⟩
    obtain ⟨Ab, cb, rfl, hsb, -, -⟩ := own_slice hown
    have hE3b := Ext.trans hE3a hEb
    have hsa2 := hsa.ext hEb
    clear hown hsa hEb hE3 hE3a
    go_wp2_with fail
    have HS := sameKn Aa Ab ca cb (x.map (stK m2)) wb hsa2 hsb (by (try simp only [List.length_map]) ; first | omega | (have := List.length_filter_le (fun _ => true) x; omega))
    try simp only [List.length_map] at HS
    refine HS.mono ?_
    clear HS
    rintro e wc ⟨rfl, nq, rfl⟩
    have hE4 : Ext wC (wb.drewN nq) := hE3b.drewN nq
    clear hsa2 hsb hE3b
    go_wp2_with fail
    refine (cut_any a0 cap0 l x2 x3 _ (HSL.out.ext hE4) (by omega)).mono ?_
    rintro e wa ⟨v, rfl, hown, hEa⟩
    obtain ⟨Aa, ca, rfl, hsa, -, -⟩ := own_slice hown
    have hE4a := Ext.trans hE4 hEa
    clear hown hEa
    go_wp2_with fail
    refine (rcut_any a0 cap0 l x2 x3 _ (HSL.out.ext hE4a) (by omega)).mono ?_
    rintro e wb ⟨v, rfl, hown, hEb⟩
    obtain ⟨Ab, cb, rfl, hsb, -, -⟩ := own_slice hown
    have hE4b := Ext.trans hE4a hEb
    have hsa2 := hsa.ext hEb
    clear hown hsa hEb hE4 hE4a
    go_wp2_with fail
    have HS := sameKn Aa Ab ca cb (l.filter (keepC x2 x3)) wb hsa2 hsb (by (try simp only [List.length_map]) ; first | omega | (have := List.length_filter_le (keepC x2 x3) l; omega))
    try simp only [List.length_map] at HS
    refine HS.mono ?_
    clear HS
    rintro e wc ⟨rfl, nq, rfl⟩
    have hE5 : Ext wC (wb.drewN nq) := hE4b.drewN nq
    clear hsa2 hsb hE4b
    go_wp2_with fail
    refine (cut_any A5 c5 x pp ii _ (HSX.out.ext hE5) (by omega)).mono ?_
    rintro e wa ⟨v, rfl, hown, hEa⟩
    obtain ⟨Aa, ca, rfl, hsa, -, -⟩ := own_slice hown
    have hE5a := Ext.trans hE5 hEa
    clear hown hEa
    go_wp2_with fail
    refine (rcut_any A5 c5 x pp ii _ (HSX.out.ext hE5a) (by omega)).mono ?_
    rintro e wb ⟨v, rfl, hown, hEb⟩
    obtain ⟨Ab, cb, rfl, hsb, -, -⟩ := own_slice hown
    have hE5b := Ext.trans hE5a hEb
    have hsa2 := hsa.ext hEb
    clear hown hsa hEb hE5 hE5a
    go_wp2_with fail
    have HS := sameKn Aa Ab ca cb (x.filter (keepC pp ii)) wb hsa2 hsb (by (try simp only [List.length_map]) ; first | omega | (have := List.length_filter_le (keepC pp ii) x; omega))
    try simp only [List.length_map] at HS
    refine HS.mono ?_
    clear HS
    rintro e wc ⟨rfl, nq, rfl⟩
    have hE6 : Ext wC (wb.drewN nq) := hE5b.drewN nq
    clear hsa2 hsb hE5b
    go_wp2_with fail
    refine (discard_any a0 cap0 l x2 x3 _ (HSL.out.ext hE6) (by omega)).mono ?_
    rintro e wa ⟨v, rfl, hown, hEa⟩
    obtain ⟨Aa, ca, rfl, hsa, -, -⟩ := own_slice hown
    have hE6a := Ext.trans hE6 hEa
    clear hown hEa
    go_wp2_with fail
    refine (rdiscard_any a0 cap0 l x2 x3 _ (HSL.out.ext hE6a) (by omega)).mono ?_
    rintro e wb ⟨v, rfl, hown, hEb⟩
    obtain ⟨Ab, cb, rfl, hsb, -, -⟩ := own_slice hown
    have hE6b := Ext.trans hE6a hEb
    have hsa2 := hsa.ext hEb
    clear hown hsa hEb hE6 hE6a
    go_wp2_with fail
    have HS := sameKn Aa Ab ca cb (l.filter (keepD x2 x3)) wb hsa2 hsb (by (try simp only [List.length_map]) ; first | omega | (have := List.length_filter_le (keepD x2 x3) l; omega))
    try simp only [List.length_map] at HS
    refine HS.mono ?_
    clear HS
    rintro e wc ⟨rfl, nq, rfl⟩
    have hE7 : Ext wC (wb.drewN nq) := hE6b.drewN nq
    clear hsa2 hsb hE6b
    go_wp2_with fail
    refine (discard_any A5 c5 x pp ii _ (HSX.out.ext hE7) (by omega)).mono ?_
    rintro e wa ⟨v, rfl, hown, hEa⟩
    obtain ⟨Aa, ca, rfl, hsa, -, -⟩ := own_slice hown
    have hE7a := Ext.trans hE7 hEa
    clear hown hEa
    go_wp2_with fail
    refine (rdiscard_any A5 c5 x pp ii _ (HSX.out.ext hE7a) (by omega)).mono ?_
    rintro e wb ⟨v, rfl, hown, hEb⟩
    obtain ⟨Ab, cb, rfl, hsb, -, -⟩ := own_slice hown
    have hE7b := Ext.trans hE7a hEb
    have hsa2 := hsa.ext hEb
    clear hown hsa hEb hE7 hE7a
    go_wp2_with fail
    have HS := sameKn Aa Ab ca cb (x.filter (keepD pp ii)) wb hsa2 hsb (by (try simp only [List.length_map]) ; first | omega | (have := List.length_filter_le (keepD pp ii) x; omega))
    try simp only [List.length_map] at HS
    refine HS.mono ?_
    clear HS
    rintro e wc ⟨rfl, nq, rfl⟩
    have hE8 : Ext wC (wb.drewN nq) := hE7b.drewN nq
    clear hsa2 hsb hE7b
    go_wp2_with fail
    refine (dets_any a0 cap0 l _ (HSL.out.ext hE8) (by omega)).mono ?_
    rintro e wa ⟨v, rfl, hown, hEa⟩
    obtain ⟨Aa, ca, rfl, hsa, -, -⟩ := own_slice hown
    have hE8a := Ext.trans hE8 hEa
    clear hown hEa
    go_wp2_with fail
    refine (dets_ref a0 cap0 l _ (HSL.out.ext hE8a) (by omega)).mono ?_
    rintro e wb ⟨v, rfl, hown, hEb⟩
    obtain ⟨Ab, cb, rfl, hsb, -, -⟩ := own_slice hown
    have hE8b := Ext.trans hE8a hEb
    have hsa2 := hsa.ext hEb
    clear hown hsa hEb hE8 hE8a
    go_wp2_with fail
    have HS := sameDets Aa Ab ca cb (l.map Kn.d) wb hsa2 hsb (by (try simp only [List.length_map]) ; first | omega | (have := List.length_filter_le (fun _ => true) l; omega))
    try simp only [List.length_map] at HS
    refine HS.mono ?_
    clear HS
    rintro e wc ⟨rfl, nq, rfl⟩
    have hE9 : Ext wC (wb.drewN nq) := hE8b.drewN nq
    clear hsa2 hsb hE8b
    go_wp2_with fail
    refine (dets_any A5 c5 x _ (HSX.out.ext hE9) (by omega)).mono ?_
    rintro e wa ⟨v, rfl, hown, hEa⟩
    obtain ⟨Aa, ca, rfl, hsa, -, -⟩ := own_slice hown
    have hE9a := Ext.trans hE9 hEa
    clear hown hEa
    go_wp2_with fail
    refine (dets_ref A5 c5 x _ (HSX.out.ext hE9a) (by omega)).mono ?_
    rintro e wb ⟨v, rfl, hown, hEb⟩
    obtain ⟨Ab, cb, rfl, hsb, -, -⟩ := own_slice hown
    have hE9b := Ext.trans hE9a hEb
    have hsa2 := hsa.ext hEb
    clear hown hsa hEb hE9 hE9a
    go_wp2_with fail
    have HS := sameDets Aa Ab ca cb (x.map Kn.d) wb hsa2 hsb (by (try simp only [List.length_map]) ; first | omega | (have := List.length_filter_le (fun _ => true) x; omega))
    try simp only [List.length_map] at HS
    refine HS.mono ?_
    clear HS
    rintro e wc ⟨rfl, nq, rfl⟩
    have hE10 : Ext wC (wb.drewN nq) := hE9b.drewN nq
    clear hsa2 hsb hE9b
    go_wp2_with fail
    go_ret
    exact ⟨rfl, Ext.trans HEC.out hE10⟩
  · have hd : decide ((60 : Int) < (l.length : Int)) = true := decide_eq_true (by omega)
    go_enter Try.func10, Try.ntmps10
    go_wp2_with fail
    refine (awake_any _).mono ?_
    rintro e wA ⟨rfl, hEA⟩
    have HEA := Lib.hid hEA
    clear hEA
    go_wp2_with fail
    go_ret
    exact ⟨rfl, HEA.out⟩
end Go.Proofs.Ytfnnoncdocghjaa
