/- The reference's find and receipt. No statement of the seat is proved here. -/
import Derived.Test.YtooegndajfopkaaInsR
import Derived.Deep.LoopGhost
namespace Go.Proofs.Ytooegndajfopkaa
open Go.RowKit
set_option linter.unusedVariables false
set_option maxRecDepth 100000

theorem tabT_drop (tg : Int) (R : List TR) (p : Nat) (h : p < R.length) : tabE tg ((R.map TR.cs).drop p) p = rowE tg p (R[p].cs.drop 0) 0 ++ tabE tg ((R.map TR.cs).drop (p + 1)) (p + 1) := by
  rw [tabE_drop tg _ p (by simpa using h)]
  simp
theorem tabT_end (tg : Int) (R : List TR) (p : Nat) (h : R.length ≤ p) : tabE tg ((R.map TR.cs).drop p) p = [] := tabE_end tg _ p (by simpa using h)
def findV (E : List Ps) (r : Int) : Value := match fndE E r with | none => .tuple #[.int .i64 (-1), .int .i64 (-1)] | some x => .tuple #[.int .i64 (x.p : Int), .int .i64 (x.i : Int)]
theorem findV_hit {E : List Ps} {r : Int} {x : Ps} {B : List Ps} (h : fndE (x :: B) r = fndE E r) (hr : x.c.rsn = r) : findV E r = .tuple #[.int .i64 (x.p : Int), .int .i64 (x.i : Int)] := by
  unfold findV
  rw [← h, fndE, if_pos hr]
theorem findV_miss {E : List Ps} {r : Int} (h : fndE [] r = fndE E r) : findV E r = .tuple #[.int .i64 (-1), .int .i64 (-1)] := by
  unfold findV
  rw [← h]
  rfl
theorem fnd_skip {E : List Ps} {r : Int} {x : Ps} {B : List Ps} (h : fndE (x :: B) r = fndE E r) (hr : ¬ x.c.rsn = r) : fndE B r = fndE E r := by
  rw [← h, fndE, if_neg hr]
set_option maxHeartbeats 3200000 in
theorem find_any (A : Option Addr) (c : Nat) (R : List TR) (tg r : Int) (w : World) (hs : TabSeg w A R) (hR : R.length ≤ 200) (hr : ∀ r ∈ R, r.cs.length ≤ 200) :
    Calls Try.prog 36 #[.slice A R.length c, .int .i64 tg, .int .i64 r] w fun e w' => e = .returned (findV (tabE tg (R.map TR.cs) 0) r) ∧ w' = w := by
  obtain ⟨E, hEE⟩ : ∃ E, E = tabE tg (R.map TR.cs) 0 := ⟨_, rfl⟩
  rw [← hEE]
  obtain ⟨V, hV⟩ : ∃ V, V = findV E r := ⟨_, rfl⟩
  rw [← hV]
  have HE := Lib.hid hEE
  have HV := Lib.hid hV
  have HR := Lib.hid hr
  clear hEE hr hV
  have hR' : (R.length : Int) ≤ 200 := by omega
  go_enter Try.func36, Try.ntmps36
  go_wp2_with fail
  go_loopg [8] R.length (fun kx s8 wr => ∃ p : Nat, s8 = .int .i64 p ∧ p ≤ R.length ∧ R.length - p ≤ kx ∧ wr = w ∧ Hid (fndE (tabE tg ((R.map TR.cs).drop p) p) r = fndE E r))
  case atStart => exact ⟨0, rfl, Nat.zero_le _, by omega, rfl, by show _ = _; rw [HE.out]; simp⟩
  case round =>
    obtain ⟨p, rfl, hp, hkxo, rfl, HQ⟩ := hrel
    by_cases hlt : p < R.length
    · have hltz : (p : Int) < (R.length : Int) := by omega
      obtain ⟨tb, toff, rfl, pc⟩ := hs.at_ hlt
      obtain ⟨hrow, hrl, hrc⟩ := hs.row hlt
      have hlen := HR.out R[p] (List.getElem_mem hlt)
      have hq := HQ.out
      rw [tabT_drop tg R p hlt] at hq
      obtain ⟨TL, hTL⟩ : ∃ TL, TL = tabE tg ((R.map TR.cs).drop (p + 1)) (p + 1) := ⟨_, rfl⟩
      rw [← hTL] at hq
      have HTL := Lib.hid hTL
      clear hTL
      obtain ⟨⟨rA, rc, cs⟩, hRp⟩ : ∃ r : TR, r = R[p] := ⟨_, rfl⟩
      rw [← hRp] at hq pc hrow hlen
      simp only at hq pc hrow hlen
      have HQ1 := Lib.hid hq
      clear hq hRp hrl hrc HQ
      have hp0 : (0 : Int) ≤ (p : Int) := by omega
      have hlen' : (cs.length : Int) ≤ 200 := by omega
      go_wp2_with fail
      go_loopg [9] cs.length (fun kx s9 wr' => ∃ i : Nat, s9 = .int .i64 i ∧ i ≤ cs.length ∧ cs.length - i ≤ kx ∧ wr' = wr ∧ Hid (fndE (rowE tg p (cs.drop i) i ++ TL) r = fndE E r))
      case atStart => exact ⟨0, rfl, Nat.zero_le _, by omega, rfl, HQ1⟩
      case round =>
        clear HQ1
        obtain ⟨i, rfl, hi, hkx, rfl, HQ⟩ := hrel
        by_cases hlt2 : i < cs.length
        · have hlt2z : (i : Int) < (cs.length : Int) := by omega
          have hi0 : (0 : Int) ≤ (i : Int) := by omega
          obtain ⟨cb, coff, rfl, q0, q1, q2, q3⟩ := Cp.at_ hrow hlt2
          have hq := HQ.out
          rw [rowE_drop tg p cs i hlt2] at hq
          obtain ⟨⟨xt, xs, xv, xr⟩, hx⟩ : ∃ x : Cp, x = cs[i] := ⟨_, rfl⟩
          rw [← hx] at q0 q1 q2 q3 hq
          simp only at q0 q1 q2 q3 hq
          have HQ1 := Lib.hid hq
          clear hx hq HQ
          by_cases ht : xt = tg
          · have hb1 : (xt == tg) = true := by simp [ht]
            have hq := HQ1.out
            rw [if_pos ht, List.cons_append] at hq
            have HT := Lib.hid ht
            clear ht HQ1
            by_cases h2 : xr = r
            · have hb2 : (xr == r) = true := by simp [h2]
              have HV2 := Lib.hid (HV.out.trans (findV_hit hq h2))
              clear h2 hq
              go_wp2_with fail
              go_ret2
              exact ⟨by rw [HV2.out]; rfl, rfl⟩
            · have hb2 : (xr == r) = false := by simp [h2]
              have HQ := Lib.hid (fnd_skip hq h2)
              clear h2 hq
              go_wp2_with fail
              go_roundg (cs.length - (i + 1))
              case measure => omega
              case rel => exact ⟨i + 1, by go_num, by omega, Nat.le_refl _, rfl, HQ⟩
          · have hb1 : (xt == tg) = false := by simp [ht]
            have hq := HQ1.out
            rw [if_neg ht] at hq
            have HQ := Lib.hid hq
            clear ht HQ1 hq
            go_wp2_with fail
            go_roundg (cs.length - (i + 1))
            case measure => omega
            case rel => exact ⟨i + 1, by go_num, by omega, Nat.le_refl _, rfl, HQ⟩
        · have hlt2z : ¬ (i : Int) < (cs.length : Int) := by omega
          have hq := HQ.out
          rw [rowE_end tg p cs i (by omega), List.nil_append, HTL.out] at hq
          have HQ2 := Lib.hid hq
          clear hq HQ
          go_wp2_with fail
          go_roundg (R.length - (p + 1))
          case measure => omega
          case rel => exact ⟨p + 1, by go_num, by omega, Nat.le_refl _, rfl, HQ2⟩
    · have hltz : ¬ (p : Int) < (R.length : Int) := by omega
      have hq := HQ.out
      rw [tabT_end tg R _ (by omega)] at hq
      have HV2 := Lib.hid (HV.out.trans (findV_miss hq))
      clear hq HQ
      go_wp2_with fail
      go_ret2
      exact ⟨by rw [HV2.out]; rfl, rfl⟩
set_option maxHeartbeats 800000 in
theorem receipt_any (p : Int) (c : Cp) (w : World) : Calls Try.prog 37 #[.int .i64 p, .agg #[.int .i64 c.to, .int .i64 c.ssn, .int .i64 c.val, .int .i64 c.rsn]] w fun e w' => e = .returned (.agg #[.int .i64 p, .int .i64 c.ssn, .int .i64 c.val]) ∧ Ext w w' := by
  go_enter Try.func37, Try.ntmps37
  go_wp2_with fail
  refine bodyPost_ret (v := .agg #[.int .i64 p, .int .i64 c.ssn, .int .i64 c.val]) (by simp [results, Try.results37, go_sem]) rfl ?_
  exact ⟨rfl, ((Ext.refl w).allocs _).allocs _⟩
end Go.Proofs.Ytooegndajfopkaa
