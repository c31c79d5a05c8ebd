/- Restorable of the reference. No statement of the seat is proved here. -/
import Derived.Test.YthadaahemhamdaaRest
namespace Go.Proofs.Ythadaahemhamdaa
open Go.RowKit
set_option linter.unusedVariables false

/-- what the variable good holds at the head of the round k -/
def goodPre (ck : List Int) (st L : List Dt) : Nat → Bool
  | 0 => false
  | k + 1 => goodAt ck st L k
/-- what it holds behind the test of the determinant -/
def goodMid (ck : List Int) (st L : List Dt) : Nat → Bool
  | 0 => false
  | k + 1 => goodAt ck st L k && (match L[k]? with | some d => hasB st d | none => false)
theorem good_mid (ck : List Int) (st L : List Dt) (k : Nat) : goodAt ck st L k = (goodMid ck st L k || ckB ck k) := by
  cases k with
  | zero => simp [goodAt, goodMid]
  | succ k => rw [goodAt, goodMid, Bool.or_comm]; rfl

def RORel (w : World) (ck : List Int) (st L : List Dt) (g : Nat) (v gd i : Value) (wr : World) : Prop :=
  ∃ k : Nat, k ≤ L.length + 1 ∧ i = .int .i64 k ∧ g = L.length + 1 - k ∧ gd = .bool (goodPre ck st L k) ∧ wr.ownsRow w.heap.size 3 1 v (restTo ck st L k).length ((restTo ck st L k).flatMap Iv) ∧ Ext w wr
def RIRel (ck : List Int) (m : Bool) (k : Int) (gd i : Value) : Prop :=
  ∃ q : Nat, q ≤ ck.length ∧ i = .int .i64 q ∧ gd = .bool (m || ckB (ck.take q) k)

set_option maxHeartbeats 3200000 in
theorem rest_ref (Ae Ac As : Option Addr) (ce cc cs : Nat) (p : Int) (es : List Ev) (ck : List Int) (st : List Dt) (w : World) (he : EvSeg w Ae es) (hc : IntSeg w Ac ck) (hst : DtSeg w As st)
    (hn1 : es.length ≤ 1000) (hn2 : ck.length ≤ 1000) (hn3 : st.length ≤ 1000) :
    Calls Try.prog 19 #[.int .i64 p, .slice Ae es.length ce, .slice Ac ck.length cc, .slice As st.length cs] w (RowPost w 3 1 (restV p es ck st).length ((restV p es ck st).flatMap Iv)) := by
  have hLl : (linV p es).length = es.length := lin_len p es 0
  go_enter Try.func19, Try.ntmps19
  go_wp2_with fail
  go_loopg [9, 10, 11] (es.length + 1) (fun g v gd i wr => RORel w ck st (linV p es) g v gd i wr)
  case atStart => exact ⟨0, Nat.zero_le _, rfl, by rw [hLl]; rfl, rfl, own_nil _ _ _ _ _, Ext.refl _⟩
  case round =>
    obtain ⟨k, hk, rfl, rfl, rfl, hown, hX⟩ := hrel
    by_cases hlt : k ≤ es.length
    · have hRl := restTo_len ck st (linV p es) k
      have hmid : ∀ (W : World), Ext wr W → wr.ownsRow w.heap.size 3 1 u9 (restTo ck st (linV p es) k).length ((restTo ck st (linV p es) k).flatMap Iv) → True := fun _ _ _ => trivial
      clear hmid
      have HM := Lib.hid (good_mid ck st (linV p es) k)
      have HRT : Hid (restTo ck st (linV p es) (k + 1) = if goodAt ck st (linV p es) k = true then restTo ck st (linV p es) k ++ [(k : Int)] else restTo ck st (linV p es) k) := rfl
      have HPre : Hid (goodPre ck st (linV p es) (k + 1) = goodAt ck st (linV p es) k) := rfl
      rcases hgp : goodPre ck st (linV p es) k with _ | _
      · have HMid : Hid (goodMid ck st (linV p es) k = false) := by
          unfold Hid
          cases k with
          | zero => rfl
          | succ k => rw [goodMid, show goodAt ck st (linV p es) k = false from hgp]; rfl
        have HMG : Hid (goodAt ck st (linV p es) k = (false || ckB ck (k : Int))) := by unfold Hid; rw [HM.out, HMid.out]
        clear hgp HMid HM
        obtain ⟨m, hm⟩ : ∃ m, m = false := ⟨_, rfl⟩
        rw [← hm] at HMG
        have HM0 := Lib.hid hm
        clear hm
        go_wp2_with fail
        go_loop [10, 12] (fun gd i => RIRel ck m ((k : Int)) gd i) (fun _ i => ck.length - (intOf i).toNat)
        case atStart => exact ⟨0, Nat.zero_le _, rfl, by rw [HM0.out]; rfl⟩
        case round =>
          obtain ⟨q, hq, rfl, rfl⟩ := hrel
          by_cases hql : q < ck.length
          · obtain ⟨b', off', hA, c0⟩ := Iv.at_ (hc.ext hX) hql
            subst hA
            have c0' := mul_one_cell c0
            have HT := Lib.hid (ckB_take ck ((k : Int)) q hql)
            generalize ck[q] = y at *
            rcases hcur : (m || ckB (ck.take q) ((k : Int))) with _ | _
            · have HC := Lib.hid hcur
              clear hcur
              by_cases hy : y = (k : Int)
              · have hy' : (y == (k : Int)) = true := by simp [hy]
                have HY := Lib.hid hy'
                clear hy
                go_wp2_with fail
                go_round
                case rel => exact ⟨q + 1, by omega, by go_num, by rw [HT.out, HY.out]; simp⟩
                case measure => simp [intOf]; omega
              · have hy' : (y == (k : Int)) = false := by simp [hy]
                have HY := Lib.hid hy'
                clear hy
                go_wp2_with fail
                go_round
                case rel => exact ⟨q + 1, by omega, by go_num, by rw [HT.out, HY.out, Bool.or_false, HC.out]⟩
                case measure => simp [intOf]; omega
            · have HC := Lib.hid hcur
              clear hcur c0 c0'
              go_wp2_with fail
              go_round
              case rel => exact ⟨q + 1, by omega, by go_num, by rw [HT.out, ← Bool.or_assoc, HC.out]; rfl⟩
              case measure => simp [intOf]; omega
          · obtain rfl : q = ck.length := by omega
            have hg : (m || ckB (ck.take ck.length) ((k : Int))) = goodAt ck st (linV p es) (k) := by rw [List.take_of_length_le (Nat.le_refl _)]; exact HMG.out.symm
            rw [hg]
            clear hg
            rcases hgk : goodAt ck st (linV p es) (k) with _ | _
            · have HR : Hid (restTo ck st (linV p es) (k + 1) = restTo ck st (linV p es) (k)) := by unfold Hid; rw [HRT.out, hgk]; rfl
              have HP : Hid (goodPre ck st (linV p es) (k + 1) = false) := by unfold Hid; rw [HPre.out, hgk]
              clear hgk
              go_wp2_with fail
              go_roundg ((linV p es).length + 1 - (k + 1))
              case measure => omega
              case rel => exact ⟨k + 1, by omega, by go_num, rfl, by rw [HP.out], by rw [HR.out]; exact hown, hX⟩
            · have HR : Hid (restTo ck st (linV p es) (k + 1) = restTo ck st (linV p es) (k) ++ [(k : Int)]) := by unfold Hid; rw [HRT.out, hgk]; rfl
              have HP : Hid (goodPre ck st (linV p es) (k + 1) = true) := by unfold Hid; rw [HPre.out, hgk]
              clear hgk
              generalize restTo ck st (linV p es) (k) = R at *
              go_wp2_with (at_builtin; refine wpList_push_at Iv 1 8 Iv.len Iv.one (by omega) rfl _ _ _ rfl w.heap.size 3 Try.underlying23 (by kernel_rfl) u9 R ((k : Int)) (wr.heap.size) rfl hown rfl (by first | rfl | simp) (by unfold maxLen; omega) (by omega) (hX.size) ?_; intro v7 w7 hown7 hg7)
              have hX7 : Ext w w7 := Ext.own hX hown (Nat.le_refl _) hg7
              go_roundg ((linV p es).length + 1 - (k + 1))
              case measure => omega
              case rel => exact ⟨k + 1, by omega, by go_num, rfl, by rw [HP.out], by rw [HR.out]; exact hown7, hX7⟩
      · obtain ⟨k, rfl⟩ : ∃ k', k = k' + 1 := by
          cases k with
          | zero => simp [goodPre] at hgp
          | succ k => exact ⟨k, rfl⟩
        have hke : k < es.length := by omega
        obtain ⟨b, off, rfl, p0, p1, p2, p3, p4, p5, p6⟩ := Ev.at_ (he.ext hX) hke
        have hd : (linV p es)[k]? = some ⟨p, (k : Int) + 1, es[k]⟩ := by
          have h1 := linV_get p es 0 k hke
          rw [show linV p es = linFrom p es 0 from rfl, h1]
          congr 3
          omega
        have HMid : Hid (goodMid ck st (linV p es) (k + 1) = hasB st ⟨p, (k : Int) + 1, es[k]⟩) := by
          unfold Hid
          rw [goodMid, hd, show goodAt ck st (linV p es) k = true from hgp]; rfl
        have HMG : Hid (goodAt ck st (linV p es) (k + 1) = (hasB st ⟨p, (k : Int) + 1, es[k]⟩ || ckB ck ((k : Int) + 1))) := by unfold Hid; rw [HM.out, HMid.out]; rfl
        generalize es[k] = x at *
        clear hgp hd HM HMid
        go_wp2_with fail
        refine (has_ref As cs st ⟨p, (k : Int) + 1, x⟩ wr (hst.ext hX) (by omega)).mono ?_
        rintro e w2 ⟨rfl, hE2⟩
        generalize hasB st ⟨p, (k : Int) + 1, x⟩ = m at *
        have hX2 := hX.trans hE2
        have hown2 := own_ext hown hE2
        clear hX hown hE2
        go_wp2_with fail
        go_loop [10, 12] (fun gd i => RIRel ck m ((k : Int) + 1) gd i) (fun _ i => ck.length - (intOf i).toNat)
        case atStart => exact ⟨0, Nat.zero_le _, rfl, by simp [ckB]⟩
        case round =>
          obtain ⟨q, hq, rfl, rfl⟩ := hrel
          by_cases hql : q < ck.length
          · obtain ⟨b', off', hA, c0⟩ := Iv.at_ (hc.ext hX2) hql
            subst hA
            have c0' := mul_one_cell c0
            have HT := Lib.hid (ckB_take ck ((k : Int) + 1) q hql)
            generalize ck[q] = y at *
            rcases hcur : (m || ckB (ck.take q) ((k : Int) + 1)) with _ | _
            · have HC := Lib.hid hcur
              clear hcur
              by_cases hy : y = (k : Int) + 1
              · have hy' : (y == (k : Int) + 1) = true := by simp [hy]
                have HY := Lib.hid hy'
                clear hy
                go_wp2_with fail
                go_round
                case rel => exact ⟨q + 1, by omega, by go_num, by rw [HT.out, HY.out]; simp⟩
                case measure => simp [intOf]; omega
              · have hy' : (y == (k : Int) + 1) = false := by simp [hy]
                have HY := Lib.hid hy'
                clear hy
                go_wp2_with fail
                go_round
                case rel => exact ⟨q + 1, by omega, by go_num, by rw [HT.out, HY.out, Bool.or_false, HC.out]⟩
                case measure => simp [intOf]; omega
            · have HC := Lib.hid hcur
              clear hcur c0 c0'
              go_wp2_with fail
              go_round
              case rel => exact ⟨q + 1, by omega, by go_num, by rw [HT.out, ← Bool.or_assoc, HC.out]; rfl⟩
              case measure => simp [intOf]; omega
          · obtain rfl : q = ck.length := by omega
            have hg : (m || ckB (ck.take ck.length) ((k : Int) + 1)) = goodAt ck st (linV p es) (k + 1) := by rw [List.take_of_length_le (Nat.le_refl _)]; exact HMG.out.symm
            rw [hg]
            clear hg
            rcases hgk : goodAt ck st (linV p es) (k + 1) with _ | _
            · have HR : Hid (restTo ck st (linV p es) (k + 1 + 1) = restTo ck st (linV p es) (k + 1)) := by unfold Hid; rw [HRT.out, hgk]; rfl
              have HP : Hid (goodPre ck st (linV p es) (k + 1 + 1) = false) := by unfold Hid; rw [HPre.out, hgk]
              clear hgk
              go_wp2_with fail
              go_roundg ((linV p es).length + 1 - (k + 1 + 1))
              case measure => omega
              case rel => exact ⟨k + 1 + 1, by omega, by go_num, rfl, by rw [HP.out], by rw [HR.out]; exact hown2, hX2⟩
            · have HR : Hid (restTo ck st (linV p es) (k + 1 + 1) = restTo ck st (linV p es) (k + 1) ++ [(k : Int) + 1]) := by unfold Hid; rw [HRT.out, hgk]; rfl
              have HP : Hid (goodPre ck st (linV p es) (k + 1 + 1) = true) := by unfold Hid; rw [HPre.out, hgk]
              clear hgk
              generalize restTo ck st (linV p es) (k + 1) = R at *
              go_wp2_with (at_builtin; refine wpList_push_at Iv 1 8 Iv.len Iv.one (by omega) rfl _ _ _ rfl w.heap.size 3 Try.underlying23 (by kernel_rfl) u9 R ((k : Int) + 1) (w2.heap.size) rfl hown2 rfl (by first | rfl | simp) (by unfold maxLen; omega) (by omega) (hX2.size) ?_; intro v7 w7 hown7 hg7)
              have hX7 : Ext w w7 := Ext.own hX2 hown2 (Nat.le_refl _) hg7
              go_roundg ((linV p es).length + 1 - (k + 1 + 1))
              case measure => omega
              case rel => exact ⟨k + 1 + 1, by omega, by go_num, rfl, by rw [HP.out], by rw [HR.out]; exact hown7, hX7⟩
    · obtain rfl : k = es.length + 1 := by omega
      go_wp2_with fail
      go_ret
      exact ⟨_, rfl, hown, hX⟩
end Go.Proofs.Ythadaahemhamdaa
