/- The walk of the law DeterminantIntervals. -/
import Derived.Test.YthadaahemhamdaaAwake27t
import Derived.Test.YthadaahemhamdaaScene27
import Derived.Test.YthadaahemhamdaaArgs27
import Derived.Test.YthadaahemhamdaaIntvPlain
namespace Go.Proofs.Ythadaahemhamdaa
open Go.RowKit
set_option linter.unusedVariables false

def inR (n : Nat) (c : Int) : Bool := decide (0 ≤ c) && decide (c ≤ (n : Int))
theorem filt_take (l : List Int) (f : Int → Bool) (j : Nat) (hj : j < l.length) : (l.take (j + 1)).filter f = if f l[j] then (l.take j).filter f ++ [l[j]] else (l.take j).filter f := by
  rw [List.take_succ_eq_append_getElem hj, List.filter_append]
  by_cases h : f l[j] = true
  · rw [if_pos h]; simp [h]
  · rw [if_neg h]; simp [h]
def I1 (w : World) (ck : List Int) (n : Nat) (g : Nat) (fv lv cv iv : Value) (wr : World) : Prop :=
  ∃ j : Nat, j ≤ ck.length ∧ iv = .int .i64 j ∧ g = ck.length - j ∧ fv = .int .i64 (fstV ((ck.take j).filter (inR n))) ∧ lv = .int .i64 (lstV ((ck.take j).filter (inR n))) ∧ Ext w wr ∧ wr.ownsRow w.heap.size 3 1 cv ((ck.take j).filter (inR n)).length (((ck.take j).filter (inR n)).flatMap Iv)
def I2 (w : World) (m : Nat) (g : Nat) (iv : Value) (wr : World) : Prop := ∃ j : Nat, j < m ∧ iv = .int .i64 j ∧ g = m - j ∧ Ext w wr
theorem stock_lenI (l : List Dt) : (stockV l).length ≤ l.length := by
  have := cpt_len (sortD l)
  rw [sortD_len] at this
  exact this

theorem info_ev : (Try.prog.info? 37).map (fun i => (i.zero, i.size, i.bytes)) = some (some (.agg #[.int .i64 0, .int .i64 0, .int .i64 0, .int .i64 0, .int .i64 0, .int .i64 0, .int .i64 0]), 7, 56) := by kernel_rfl
theorem run_upto (w : World) (A : Option Addr) (n cap l : Nat) (li : Int) (hli : li = l) (hl : l ≤ cap) : (Instr.slice 22 (.slice A n cap) none (some (.int .i64 li)) none).run Try.prog w = .ok (.slice (if cap = 0 then A else A.map (·.add (0 * 7))) l cap) w := by
  subst hli
  obtain ⟨i0, hi, hz0, hz1, hz2⟩ := info_parts info_ev
  have h1 : (0 : Int) ≤ (l : Int) := by omega
  have h2 : (l : Int) ≤ (cap : Int) := by omega
  by_cases hc : cap = 0
  · subst hc
    obtain rfl : l = 0 := by omega
    simp [Instr.slice, Instr.sliceBounds, run_underlying Try.underlying22, go_sem, sizeOf, typeInfo, hi]
  · simp [Instr.slice, Instr.sliceBounds, run_underlying Try.underlying22, go_sem, sizeOf, typeInfo, hi, h1, h2, hc]
theorem ev_upto {w : World} {A : Option Addr} {es : List Ev} (h : EvSeg w A es) (cap l : Nat) (hl : l ≤ es.length) : EvSeg w (if cap = 0 then A else A.map (·.add (0 * 7))) (es.take l) := by
  have e : es.flatMap Ev.cells = (es.take l).flatMap Ev.cells ++ (es.drop l).flatMap Ev.cells := by rw [← List.flatMap_append, List.take_append_drop]
  refine ⟨flat_len Ev.cells 7 Ev.len _, fun hn => ?_⟩
  rw [List.length_take] at hn
  obtain ⟨b, off, rfl, hb, hc⟩ := h.2 (by omega)
  have hadd : (⟨b, off, none⟩ : Addr).add (0 * 7) = ⟨b, off, none⟩ := by unfold Addr.add; split <;> simp_all
  refine ⟨b, off, ?_, hb, fun j u hu => hc j u ?_⟩
  · split
    · rfl
    · rw [Option.map_some, hadd]
  · rw [e, List.getElem?_append_left (List.getElem?_eq_some_iff.1 hu).1]; exact hu

set_option maxRecDepth 100000 in
set_option maxHeartbeats 1600000 in
theorem intv_walk (a0 : Option Addr) (cap0 : Nat) (bs : List Int) (w : World)
    (h0 : Seg w 1 a0 bs.length (bs.map (Value.int .u8)) ∧ bs.length ≤ cap0 ∧ cap0 ≤ maxLen ∧ ∀ b ∈ bs, 0 ≤ b ∧ b < 256) :
    Calls Try.prog 8 #[.slice a0 bs.length cap0] w fun e w' => e = .returned (.bool true) ∧ Below w.heap.size w w' := by
  obtain ⟨hs0, hc0, hm0, hok0⟩ := h0
  have O0 := Lib.hid hok0
  clear hok0
  go_enter Try.func8, Try.ntmps8
  go_wp2_with fail
  refine (awake_any w).mono ?_
  rintro e w1 ⟨rfl, hE1⟩
  go_wp2_with fail
  refine (scene_any a0 cap0 bs w1 (hs0.ext hE1) hc0 hm0 O0.out).mono ?_
  rintro e w2 ⟨p, es, ck, st, Ae, Ac, As, ce, cc, cs, rfl, he, hc, hst, hp, _, ok1, ok2, ok3, n1, n2, n3, hce, hcem, hE2⟩
  have P1 := Lib.hid ok1
  have P2 := Lib.hid ok2
  have P3 := Lib.hid ok3
  have HP := Lib.hid hp
  have hX2 := Ext.trans hE1 hE2
  have hnI : (es.length : Int) ≤ 12 := by omega
  have hckI : (ck.length : Int) ≤ 14 := by omega
  clear ok1 ok2 ok3 hp hE1 hE2 hs0 O0
  go_wp2_with fail
  go_loopg [7, 8, 9, 10] ck.length (fun g fv lv cv iv wr => I1 w2 ck es.length g fv lv cv iv wr)
  case atStart => exact ⟨0, Nat.zero_le _, rfl, rfl, rfl, rfl, Ext.refl _, own_nil _ _ _ _ _⟩
  case round =>
    obtain ⟨j, hj, rfl, rfl, rfl, rfl, hE, hown⟩ := hrel
    by_cases hjl : j < ck.length
    · obtain ⟨bb, ob, rfl, P0⟩ := Iv.at_ hc hjl
      have HT := Lib.hid (filt_take ck (inR es.length) j hjl)
      have HL := List.length_filter_le (inR es.length) (ck.take j)
      rw [List.length_take] at HL
      have hxI := P2.out ck[j] (List.getElem_mem hjl)
      unfold InI64 at hxI
      obtain ⟨C, hC⟩ : ∃ C, (ck.take j).filter (inR es.length) = C := ⟨_, rfl⟩
      rw [hC] at HT HL hown ⊢
      obtain ⟨x, hx⟩ : ∃ x, ck[j] = x := ⟨_, rfl⟩
      rw [hx] at HT P0 hxI
      have HP0 := Lib.hid P0
      have p0 := (hE.cell (World.block_lt_of_cell? w2 _ P0)).trans P0
      clear hC hx P0
      have hz := hE.size
      have hj0 : (0 : Int) ≤ (j : Int) := by omega
      have hj1 : (j : Int) < (ck.length : Int) := by omega
      have HF := Lib.hid (fstV_snoc C x)
      have HLS := Lib.hid (lstV_snoc C x)
      obtain ⟨f, hf⟩ : ∃ f, fstV C = f := ⟨_, rfl⟩
      obtain ⟨la, hla⟩ : ∃ la, lstV C = la := ⟨_, rfl⟩
      rw [hf] at HF ⊢
      rw [hla] at HLS ⊢
      have HFE := Lib.hid hf
      have HLE := Lib.hid hla
      clear hf hla
      by_cases q0 : 0 ≤ x
      · by_cases q1 : x ≤ (es.length : Int)
        · have HK : Hid (inR es.length x = true) := by show inR es.length x = true; simp [inR, q0, q1]
          by_cases q2 : f < 0
          · have HS : Hid (fstStep f x = x) := by show fstStep f x = x; unfold fstStep; rw [if_pos (.inl q2)]
            go_wp2_with (at_builtin; refine wpList_push Iv 1 8 Iv.len Iv.one (by omega) rfl _ _ _ rfl w2.heap.size 3 Try.underlying23 (by kernel_rfl) u9 C x rfl hown rfl (by unfold maxLen; omega) (by omega) hz ?_; intro v' w6 hown6 hg6; have hE6 : Ext w2 w6 := Ext.own hE hown (Nat.le_refl _) hg6; have p6 := (hE6.cell (World.block_lt_of_cell? w2 _ HP0.out)).trans HP0.out)
            go_roundg (ck.length - (j + 1))
            case measure => omega
            case rel => exact ⟨j + 1, by omega, by go_num, rfl, by rw [HT.out, HK.out, if_pos rfl, HF.out, HS.out], by rw [HT.out, HK.out, if_pos rfl, HLS.out], hE6, by rw [HT.out, HK.out]; exact hown6⟩
          · by_cases q3 : x < f
            · have HS : Hid (fstStep f x = x) := by show fstStep f x = x; unfold fstStep; rw [if_pos (.inr q3)]
              go_wp2_with (at_builtin; refine wpList_push Iv 1 8 Iv.len Iv.one (by omega) rfl _ _ _ rfl w2.heap.size 3 Try.underlying23 (by kernel_rfl) u9 C x rfl hown rfl (by unfold maxLen; omega) (by omega) hz ?_; intro v' w6 hown6 hg6; have hE6 : Ext w2 w6 := Ext.own hE hown (Nat.le_refl _) hg6; have p6 := (hE6.cell (World.block_lt_of_cell? w2 _ HP0.out)).trans HP0.out)
              go_roundg (ck.length - (j + 1))
              case measure => omega
              case rel => exact ⟨j + 1, by omega, by go_num, rfl, by rw [HT.out, HK.out, if_pos rfl, HF.out, HS.out], by rw [HT.out, HK.out, if_pos rfl, HLS.out], hE6, by rw [HT.out, HK.out]; exact hown6⟩
            · have HS : Hid (fstStep f x = f) := by show fstStep f x = f; unfold fstStep; rw [if_neg (by omega)]
              go_wp2_with (at_builtin; refine wpList_push Iv 1 8 Iv.len Iv.one (by omega) rfl _ _ _ rfl w2.heap.size 3 Try.underlying23 (by kernel_rfl) u9 C x rfl hown rfl (by unfold maxLen; omega) (by omega) hz ?_; intro v' w6 hown6 hg6; have hE6 : Ext w2 w6 := Ext.own hE hown (Nat.le_refl _) hg6; have p6 := (hE6.cell (World.block_lt_of_cell? w2 _ HP0.out)).trans HP0.out)
              go_roundg (ck.length - (j + 1))
              case measure => omega
              case rel => exact ⟨j + 1, by omega, by go_num, rfl, by rw [HT.out, HK.out, if_pos rfl, HF.out, HS.out], by rw [HT.out, HK.out, if_pos rfl, HLS.out], hE6, by rw [HT.out, HK.out]; exact hown6⟩
        · have HK : Hid (inR es.length x = false) := by show inR es.length x = false; simp [inR, q1]
          go_wp2_with fail
          go_roundg (ck.length - (j + 1))
          case measure => omega
          case rel => exact ⟨j + 1, by omega, by go_num, rfl, by rw [HT.out, HK.out, ← HFE.out]; rfl, by rw [HT.out, HK.out, ← HLE.out]; rfl, hE, by rw [HT.out, HK.out]; exact hown⟩
      · have HK : Hid (inR es.length x = false) := by show inR es.length x = false; simp [inR, q0]
        go_wp2_with fail
        go_roundg (ck.length - (j + 1))
        case measure => omega
        case rel => exact ⟨j + 1, by omega, by go_num, rfl, by rw [HT.out, HK.out, ← HFE.out]; rfl, by rw [HT.out, HK.out, ← HLE.out]; rfl, hE, by rw [HT.out, HK.out]; exact hown⟩
    · obtain rfl : j = ck.length := by omega
      rw [List.take_length] at hown ⊢
      have HC0 : Hid (∀ c ∈ ck.filter (inR es.length), 0 ≤ c ∧ c ≤ (es.length : Int)) := fun c hc => by
        have := (List.mem_filter.1 hc).2
        simp [inR] at this
        exact this
      have HCI : Hid (∀ c ∈ ck.filter (inR es.length), InI64 c) := fun c hc => P2.out c (List.mem_filter.1 hc).1
      have hcl := List.length_filter_le (inR es.length) ck
      obtain ⟨C, hC⟩ : ∃ C, ck.filter (inR es.length) = C := ⟨_, rfl⟩
      rw [hC] at hown HC0 HCI hcl ⊢
      clear hC
      have HEND := Lib.hid (ends_law C (fun c hc => (HC0.out c hc).1))
      have he2 := he.ext hE
      have hst2 := hst.ext hE
      have hX3 := Ext.trans hX2 hE
      obtain ⟨AC, cC, rfl, hsC, _, _⟩ := own_slice hown
      clear hown he hst hc hE hX2
      by_cases hne : C = []
      · have hfe : fstV C = -1 := by rw [hne]; rfl
        have HRN : Hid (restV p es C st = []) := by rw [hne]; exact rest_none p es st
        have HR := Lib.hid (rest_sl Ae AC As ce cC cs p es C st _ he2 hsC hst2 HP.out P1.out HCI.out P3.out (by omega) (by omega) (by omega))
        rw [HRN.out] at HR
        rw [hfe]
        have HNE := Lib.hid hne
        clear hne hfe
        go_wp2_with fail
        refine HR.out.mono ?_
        rintro e w5 ⟨v5, rfl, hown5, hE5⟩
        obtain ⟨A5, c5, rfl, hs5, _, _⟩ := own_slice hown5
        go_wp2_with fail
        go_ret
        exact ⟨rfl, Ext.trans hX3 hE5⟩
      · have HEN : Hid (fstV C ∈ C ∧ 0 ≤ fstV C ∧ fstV C ≤ lstV C ∧ lstV C ∈ C ∧ (∀ c ∈ C, fstV C ≤ c) ∧ ∀ c ∈ C, c ≤ lstV C) := by
          rcases HEND.out with h | h
          · exact absurd h.1 hne
          · exact h
        have hla := (HC0.out _ HEN.out.2.2.2.1).2
        have hf0 := HEN.out.2.1
        have hfl := HEN.out.2.2.1
        obtain ⟨last, hlast⟩ : ∃ last : Nat, (last : Int) = lstV C := ⟨(lstV C).toNat, by omega⟩
        have HLAW := Lib.hid (intv_law p es C st last HC0.out hne hlast)
        obtain ⟨m, hm0', hRm, hlm⟩ := HLAW.out
        have hrl := restTo_len C (stockV (st ++ linV p (es.take last))) (linV p es) (es.length + 1)
        have hmb : m ≤ 13 := by
          have e := congrArg List.length hRm
          rw [runI_len] at e
          unfold restV at e
          omega
        have hup := fun w => run_upto w Ae es.length ce last (last : Int) rfl (by omega)
        have hse := ev_upto he2 ce last (by omega)
        have HRM := Lib.hid hRm
        have HNE := Lib.hid hne
        rw [← hlast] at hlm hfl hla ⊢
        generalize (if ce = 0 then Ae else Ae.map (·.add (0 * 7))) = AL at hup hse
        obtain ⟨f, hf⟩ : ∃ f, fstV C = f := ⟨_, rfl⟩
        rw [hf] at hlm hfl hf0 HRM ⊢
        clear hne HLAW hRm hrl hlast HEND HEN hf
        have hfneg : ¬ f < 0 := by omega
        have hlastI : (last : Int) ≤ (ce : Int) := by omega
        have hll : (linV p (es.take last)).length ≤ 12 := by unfold linV; rw [lin_len, List.length_take]; omega
        have htl : (es.take last).length = last := by rw [List.length_take]; omega
        have HLI := Lib.hid (lineage_sl AL ce p (es.take last) wr hse (by rw [htl]; omega))
        rw [htl] at HLI
        have HLO := Lib.hid (lin_ok (es := es.take last) HP.out (fun e he => P1.out e (List.mem_of_mem_take he)) (by rw [htl]; omega))
        have hsl := stock_lenI (st ++ linV p (es.take last))
        rw [List.length_append] at hsl
        generalize linV p (es.take last) = LL at *
        have HOK : Hid (∀ d ∈ stockV (st ++ LL), d.ok) := fun d hd => by
          rcases List.mem_append.1 ((stock_mem _ d).1 hd) with h | h
          · exact P3.out d h
          · exact HLO.out d h
        obtain ⟨SS, hSS⟩ : ∃ SS, stockV (st ++ LL) = SS := ⟨_, rfl⟩
        have HM := Lib.hid (fun A c W h h' => merge_any As A cs c st LL W h h' (by omega) (by omega))
        rw [hSS] at HRM hsl HOK HM
        clear hSS
        go_wp2_with fail
        refine HLI.out.mono ?_
        rintro e w5 ⟨v5, rfl, hown5, hE5⟩
        obtain ⟨A5, c5, rfl, hs5, _, _⟩ := own_slice hown5
        clear hown5
        go_wp2_with fail
        refine (HM.out A5 c5 w5 (hst2.ext hE5) hs5).mono ?_
        rintro e w6 ⟨A6, c6, rfl, hs6, _, _, hE6⟩
        have hE56 := Ext.trans hE5 hE6
        have HR := Lib.hid (rest_sl Ae AC A6 ce cC c6 p es C SS w6 (he2.ext hE56) (hsC.ext hE56) hs6 HP.out P1.out HCI.out HOK.out (by omega) (by omega) (by omega))
        rw [HRM.out, runI_len] at HR
        go_wp2_with fail
        refine HR.out.mono ?_
        rintro e w7 ⟨v7, rfl, hown7, hE7⟩
        obtain ⟨A7, c7, rfl, hs7, _, _⟩ := own_slice hown7
        have hX7 := Ext.trans hX3 (Ext.trans hE56 hE7)
        obtain ⟨b7, o7, rfl, _, hcc⟩ := hs7.2 hm0'
        have hcell : ∀ k : Nat, k < m → w7.cell? ⟨b7, o7 + k, none⟩ = some (.int .i64 (f + (k : Int))) := fun k hk => hcc k _ (by
          have := flat_get Iv 1 Iv.len (runI f m) k 0 (f + (k : Int)) (runI_get f m k hk) (by omega)
          rw [Nat.mul_one, Nat.add_zero] at this
          rw [this]; rfl)
        have HCE := Lib.hid hcell
        obtain ⟨q, hq⟩ : ∃ q, m = q + 1 := ⟨m - 1, by omega⟩
        subst hq
        have c0 := hcell 0 (by omega)
        have cq := hcell q (by omega)
        simp only [Nat.add_zero, Int.natCast_zero, Int.add_zero] at c0
        have hff : (f != f) = false := by simp
        have hqI : (q : Int) ≤ 12 := by omega
        have hlq : ¬ f + (q : Int) < (last : Int) := by push_cast at hlm; omega
        have e1 : ((q : Int) + 1 == 0) = false := beq_eq_false_iff_ne.2 (by omega)
        have d3 : decide (f + (q : Int) < (last : Int)) = false := decide_eq_false hlq
        have d4 : (last : Int) ≤ f + (q : Int) := by omega
        have e5 : ¬ (q : Int) + 1 = 0 := by omega
        clear hown7 hs7 hcc hcell HR HM HLI hE5 hE6 hE56 hE7 hs5 hs6 hlq
        go_wp2_with fail
        go_loopg [12] (q + 1) (fun g iv wr => I2 w7 (q + 1) g iv wr)
        case atStart => exact ⟨0, by omega, rfl, rfl, Ext.refl _⟩
        case round =>
          obtain ⟨j, hj, rfl, rfl, hE8⟩ := hrel
          by_cases hjq : j < q
          · have p0 := (hE8.cell (World.block_lt_of_cell? w7 _ (HCE.out j (by omega)))).trans (HCE.out j (by omega))
            have p1 := (hE8.cell (World.block_lt_of_cell? w7 _ (HCE.out (j + 1) (by omega)))).trans (HCE.out (j + 1) (by omega))
            have hw1 : IntKind.i64.wrap ((j : Int) + 1) = (j : Int) + 1 := IntWalk.i64_in _ (by omega)
            have hw2 : IntKind.i64.wrap (f + (j : Int) + 1) = f + (j : Int) + 1 := IntWalk.i64_in _ (by omega)
            have hneq : (f + ((j : Int) + 1) != f + (j : Int) + 1) = false := by simp; omega
            push_cast at p1
            have i0 : (0 : Int) ≤ (j : Int) := by omega
            have i1 : (j : Int) < (q : Int) + 1 := by omega
            have i2 : (0 : Int) ≤ (j : Int) + 1 := by omega
            have i3 : (j : Int) + 1 < (q : Int) + 1 := by omega
            go_wp2_with fail
            go_quiet (fail)
            go_wp2_with fail
            go_roundg (q + 1 - (j + 1))
            case measure => omega
            case rel => exact ⟨j + 1, by omega, by go_num, rfl, hE8.drewN _⟩
          · have hjj : ¬ (j : Int) + 1 < (q : Int) + 1 := by omega
            go_wp2_with fail
            go_ret
            exact ⟨rfl, Ext.trans hX7 hE8⟩
end Go.Proofs.Ythadaahemhamdaa
