/- The library's symmetric merge. No statement of the seat is proved here. -/
import Derived.Test.YtooegndajfopkaaSym1
import Derived.WalkKit
import Derived.Shelf.SlSortCmp.KitK
import Derived.Sort.WalkB2
import Derived.Sort.WalkB12
import Derived.Deep.LoopGhost
namespace Go.Proofs.Ytooegndajfopkaa
open Go.Shelf Go.RowKit Go.Lib Go.Sort
variable {P : Program} {α : Type} [Inhabited α]
set_option linter.unusedVariables false

set_option maxHeartbeats 16000000 in
set_option maxRecDepth 1000000 in
theorem symm_w {k : Nat} (L : LayR P k) (enc : α → List Value) (cf : α → α → Int) (g : Nat) (cb : Array Value) (blk off cap : Nat) (d0 : Array α) (w0 : World)
    (eg : ∀ args w, (callFunc g args).run P w = .ok (.enter g args) w) (hcmp : CmpLays P g cb enc k cf blk off d0.size w0) (R : RowK enc k w0 blk off d0) (hsz : d0.size < 4611686018427387904) :
    ∀ (f a m b : Nat) (d : Array α) (w : World), b - a ≤ f → d0.size = d.size → SWK enc k w0 blk off d w → a < m → m < b → b ≤ d.size →
    Calls P 41 #[.slice (some ⟨blk, off, none⟩) d.size cap, .int .i64 a, .int .i64 m, .int .i64 b, .func (.func g) #[] cb] w fun e w' => e = .returned (.tuple #[]) ∧ SWK enc k w0 blk off (symm (ltOf cf) f d a m b) w' := by
  have mixed := L.mixed; have t0 := L.t0; have a0 := L.a0; have z0 := L.z0; have v0 := L.v0; have t3 := L.t3; have a3 := L.a3; have z3 := L.z3; have v3 := L.v3; have t4 := L.t4; have a4 := L.a4; have z4 := L.z4; have v4 := L.v4; have t26 := L.t26; have a26 := L.a26; have z26 := L.z26; have v26 := L.v26; have t53 := L.t53; have a53 := L.a53; have z53 := L.z53; have v53 := L.v53; have t67 := L.t67; have a67 := L.a67; have z67 := L.z67; have v67 := L.v67; have aE := L.aE; have zE := L.zE
  have EY : ∀ args w, (callFunc 41 args).run P w = .ok (.enter 41 args) w := enters_of L.fSym (by kernel_rfl) rfl
  have ER : ∀ args w, (callFunc 42 args).run P w = .ok (.enter 42 args) w := enters_of L.fRot (by kernel_rfl) rfl
  have HC : Aside _ := hcmp
  clear hcmp
  intro f
  induction f with
  | zero => intro a m b d w h h1 h2 h3 h4; exact absurd h (by omega)
  | succ f ih =>
    intro a m b d w hf hs S ham hmb hb
    have hsz' : d.size < 4611686018427387904 := by omega
    have S0 : Aside (SWK enc k w0 blk off d w) := S
    have HR : Aside (∀ (x y z : Nat) (dk : Array α) (wk : World), dk.size = d.size → SWK enc k w0 blk off dk wk → x < y → y < z → z ≤ d.size → Calls P 42 #[.slice (some ⟨blk, off, none⟩) d.size cap, .int .i64 x, .int .i64 y, .int .i64 z, .func (.func g) #[] cb] wk fun e w' => e = .returned (.tuple #[]) ∧ SWK enc k w0 blk off (rotL dk y (y - x) (z - y)) w') := fun x y z dk wk h1 h2 h3 h4 h5 => by
      rw [← h1]
      exact rotate_w L enc g cb blk off cap x y z d0 dk w0 wk R (hs.trans h1.symm) h2 h3 h4 (by omega) (by omega)
    have HI : Aside (∀ (x y z : Nat) (dk : Array α) (wk : World), dk.size = d.size → SWK enc k w0 blk off dk wk → z - x ≤ f → x < y → y < z → z ≤ d.size → Calls P 41 #[.slice (some ⟨blk, off, none⟩) d.size cap, .int .i64 x, .int .i64 y, .int .i64 z, .func (.func g) #[] cb] wk fun e w' => e = .returned (.tuple #[]) ∧ SWK enc k w0 blk off (symm (ltOf cf) f dk x y z) w') := fun x y z dk wk h1 h2 h3 h4 h5 h6 => by
      rw [← h1]
      exact ih x y z dk wk h3 (hs.trans h1.symm) h2 h4 h5 (by omega)
    clear S ih
    go_enter L.fSym, Try.ntmps41
    by_cases h1 : m - a = 1
    · have h1z : (m : Int) - (a : Int) = 1 := by omega
      go_wp2_with fail
      go_loopg [10, 11] (b - m) (fun kx si sj wr => ∃ (i j : Nat), si = .int .i64 i ∧ sj = .int .i64 j ∧ m ≤ i ∧ i ≤ j ∧ j ≤ b ∧ j - i ≤ kx ∧ Aside (SWK enc k w0 blk off d wr) ∧ Hid (bsr (fun h => ltOf cf d[h]! d[a]!) i j = bsr (fun h => ltOf cf d[h]! d[a]!) (m) (b)))
      case atStart => exact ⟨m, b, by first | rfl | (congr 1; omega), by first | rfl | (congr 1; omega), Nat.le_refl _, by omega, Nat.le_refl _, Nat.le_refl _, S0, rfl⟩
      case round =>
        clear S0
        obtain ⟨i, j, rfl, rfl, him, hij, hjm, hkx, S1, HE⟩ := hrel
        by_cases hlt : i < j
        · have hltz : (i : Int) < (j : Int) := by omega
          obtain ⟨h, hh⟩ : ∃ h, h = (i + j) / 2 := ⟨_, rfl⟩
          have ehh : ((i : Int) + (j : Int)) / 2 = (h : Int) := by omega
          have hhi : i ≤ h := by omega
          have hhj : h < j := by omega
          have HH : Hid _ := hh
          clear hh

          cases hL : ltOf cf d[h]! d[a]! with
          | true =>
            have eas10 : ((h : Int)).toNat = h := by omega
            have pas10 : (0 : Int) ≤ (h : Int) := by omega
            have bas10 : (h : Int) < (d.size : Int) := by omega
            have ras10 : IntKind.i64.wrap ((h : Int)) = (h : Int) := by rw [IntKind.wrap_i64]; omega
            have ecs10 : ((a : Int)).toNat = a := by omega
            have pcs10 : (0 : Int) ≤ (a : Int) := by omega
            have bcs10 : (a : Int) < (d.size : Int) := by omega
            have rcs10 : IntKind.i64.wrap ((a : Int)) = (a : Int) := by rw [IntKind.wrap_i64]; omega
            obtain ⟨xs10, hxs10⟩ : ∃ x, x = d[h]! := ⟨_, rfl⟩
            obtain ⟨ys10, hys10⟩ : ∃ x, x = d[a]! := ⟨_, rfl⟩
            have ls10a := S1.out.ld R (by omega) P (h) (by omega)
            have ls10b := S1.out.ld R (by omega) P (a) (by omega)
            rw [← hxs10] at ls10a
            rw [← hys10] at ls10b
            have hcs10 := S1.out.cmp HC.out (by omega) xs10 ys10
            have hvs10 : cf xs10 ys10 < 0 := by rw [hxs10, hys10]; exact of_decide_eq_true hL
            have hds10 : decide (cf xs10 ys10 < 0) = true := decide_eq_true hvs10
            clear hxs10 hys10
            go_wp2_with fail
            go_quiet_grown (first | (go_at_fn g; refine Calls.grown_of (hcs10 _ _)))
            have S2 : Aside (SWK enc k w0 blk off d (grow (wr.drewN nq) osq)) := S1.out.grown nq osq
            clear ls10a ls10b hcs10 S1
            generalize grow (wr.drewN nq) osq = w2 at S2 ⊢
            clear nq osq
            go_wp2
            go_roundg (j - (h + 1))
            case measure => omega
            case rel =>
              have hq : bsr (fun h => ltOf cf d[h]! d[a]!) i j = bsr (fun h => ltOf cf d[h]! d[a]!) (h + 1) j := by
                rw [bsr_up _ hlt (by rw [← HH.out]; first | exact hL | (simp only [hL] <;> rfl)), ← HH.out]
              exact ⟨h + 1, j, by simp, rfl, by omega, by omega, hjm, Nat.le_refl _, S2, hq.symm.trans HE.out⟩
          | false =>
            have eas10 : ((h : Int)).toNat = h := by omega
            have pas10 : (0 : Int) ≤ (h : Int) := by omega
            have bas10 : (h : Int) < (d.size : Int) := by omega
            have ras10 : IntKind.i64.wrap ((h : Int)) = (h : Int) := by rw [IntKind.wrap_i64]; omega
            have ecs10 : ((a : Int)).toNat = a := by omega
            have pcs10 : (0 : Int) ≤ (a : Int) := by omega
            have bcs10 : (a : Int) < (d.size : Int) := by omega
            have rcs10 : IntKind.i64.wrap ((a : Int)) = (a : Int) := by rw [IntKind.wrap_i64]; omega
            obtain ⟨xs10, hxs10⟩ : ∃ x, x = d[h]! := ⟨_, rfl⟩
            obtain ⟨ys10, hys10⟩ : ∃ x, x = d[a]! := ⟨_, rfl⟩
            have ls10a := S1.out.ld R (by omega) P (h) (by omega)
            have ls10b := S1.out.ld R (by omega) P (a) (by omega)
            rw [← hxs10] at ls10a
            rw [← hys10] at ls10b
            have hcs10 := S1.out.cmp HC.out (by omega) xs10 ys10
            have hvs10 : ¬ cf xs10 ys10 < 0 := by rw [hxs10, hys10]; exact of_decide_eq_false hL
            have hds10 : decide (cf xs10 ys10 < 0) = false := decide_eq_false hvs10
            clear hxs10 hys10
            go_wp2_with fail
            go_quiet_grown (first | (go_at_fn g; refine Calls.grown_of (hcs10 _ _)))
            have S2 : Aside (SWK enc k w0 blk off d (grow (wr.drewN nq) osq)) := S1.out.grown nq osq
            clear ls10a ls10b hcs10 S1
            generalize grow (wr.drewN nq) osq = w2 at S2 ⊢
            clear nq osq
            go_wp2
            go_roundg (h - i)
            case measure => omega
            case rel =>
              have hq : bsr (fun h => ltOf cf d[h]! d[a]!) i j = bsr (fun h => ltOf cf d[h]! d[a]!) i h := by
                rw [bsr_dn _ hlt (by rw [← HH.out]; first | exact hL | (simp only [hL] <;> rfl)), ← HH.out]
              exact ⟨i, h, rfl, rfl, him, by omega, by omega, Nat.le_refl _, S2, hq.symm.trans HE.out⟩
        · have hltz : ¬ (i : Int) < (j : Int) := by omega
          obtain rfl : j = i := by omega
          have hq := HE.out
          rw [bsr_end _ (by omega)] at hq
          have HQ : Hid _ := hq
          clear hq HE
          go_wp2_with fail
          have hja : a ≤ j - 1 := by omega
          go_loopg [13] (j - 1 - a) (fun kx sk wr => ∃ (q : Nat) (dk : Array α), sk = .int .i64 q ∧ a ≤ q ∧ q ≤ j - 1 ∧ j - 1 - q ≤ kx ∧ dk.size = d.size ∧ Aside (SWK enc k w0 blk off dk wr) ∧ Hid (upS dk q (j - 1) = upS d a (j - 1)))
          case atStart => exact ⟨a, d, rfl, Nat.le_refl _, hja, Nat.le_refl _, rfl, S1, rfl⟩
          case round =>
            clear S1
            obtain ⟨q, dk, rfl, haq, hqj, hkx2, hds, S2, HU⟩ := hrel
            by_cases hl2 : q < j - 1
            · have hl2z : (q : Int) < (j : Int) - 1 := by omega
              go_wp2_with fail
              have ea4 : ((q : Int)).toNat = q := by omega
              have pa4 : (0 : Int) ≤ (q : Int) := by omega
              have ba4 : (q : Int) < (d.size : Int) := by omega
              have ra4 : IntKind.i64.wrap ((q : Int)) = (q : Int) := by rw [IntKind.wrap_i64]; omega
              have ec4 : ((q : Int) + 1).toNat = q + 1 := by omega
              have pc4 : (0 : Int) ≤ (q : Int) + 1 := by omega
              have bc4 : (q : Int) + 1 < (d.size : Int) := by omega
              have rc4 : IntKind.i64.wrap ((q : Int) + 1) = (q : Int) + 1 := by rw [IntKind.wrap_i64]; omega
              have S3 : Aside (SWK enc k w0 blk off (swp dk (q) (q + 1)) ((wr.drew.setCells blk (off + (q) * k) (enc dk[q + 1]!)).setCells blk (off + (q + 1) * k) (enc dk[q]!))) := S2.out.swapped R (q) (q + 1) (by omega) (by omega)
              have l4a := S2.out.ld1 R (by omega) P (q) (by omega)
              have l4b := S2.out.ld1 R (by omega) P (q + 1) (by omega)
              have s4a := S2.out.st1 R (by omega) P (q) (by omega) dk[q + 1]!
              have s4b := S2.out.st2 R (by omega) P (q) (q + 1) (by omega) (by omega) dk[q + 1]! dk[q]!
              have n4a : (enc dk[q]!).length = k := R.hk _
              have n4b : (enc dk[q + 1]!).length = k := R.hk _
              generalize enc dk[q]! = cI4 at S3 l4a s4b n4a
              generalize enc dk[q + 1]! = cJ4 at S3 l4b s4a s4b n4b
              clear S2
              go_wp2_with fail
              go_big_region_o
              clear l4a l4b s4a s4b
              generalize (wr.drew.setCells blk (off + (q) * k) cJ4).setCells blk (off + (q + 1) * k) cI4 = w3 at S3 ⊢
              go_wp2
              go_roundg (j - 1 - (q + 1))
              case measure => omega
              case rel =>
                have hu := HU.out
                rw [upS_go _ hl2] at hu
                exact ⟨q + 1, swp dk q (q + 1), by simp, by omega, by omega, Nat.le_refl _, by rw [size_swp]; exact hds, S3, hu⟩
            · have hl2z : ¬ (q : Int) < (j : Int) - 1 := by omega
              go_wp2
              ((try simp only [Exit.inBlock, Exit.then]); refine bodyPost_ret (results_none rfl _ _ _) rfl ?_)
              refine ⟨rfl, ?_⟩
              have hu := HU.out
              rw [upS_end _ hl2] at hu
              rw [symm, if_pos h1, ← HQ.out, ← hu]
              exact S2.out
    · have h1z : ¬ (m : Int) - (a : Int) = 1 := by omega
      have h1b : ((m : Int) - (a : Int) == 1) = false := by rw [beq_eq_false_iff_ne]; exact h1z
      by_cases h2 : b - m = 1
      · have h2z : (b : Int) - (m : Int) = 1 := by omega
        go_wp2_with fail
        go_loopg [14, 15] (m - a) (fun kx si sj wr => ∃ (i j : Nat), si = .int .i64 i ∧ sj = .int .i64 j ∧ a ≤ i ∧ i ≤ j ∧ j ≤ m ∧ j - i ≤ kx ∧ Aside (SWK enc k w0 blk off d wr) ∧ Hid (bsr (fun h => !ltOf cf d[m]! d[h]!) i j = bsr (fun h => !ltOf cf d[m]! d[h]!) (a) (m)))
        case atStart => exact ⟨a, m, by first | rfl | (congr 1; omega), by first | rfl | (congr 1; omega), Nat.le_refl _, by omega, Nat.le_refl _, Nat.le_refl _, S0, rfl⟩
        case round =>
          clear S0
          obtain ⟨i, j, rfl, rfl, him, hij, hjm, hkx, S1, HE⟩ := hrel
          by_cases hlt : i < j
          · have hltz : (i : Int) < (j : Int) := by omega
            obtain ⟨h, hh⟩ : ∃ h, h = (i + j) / 2 := ⟨_, rfl⟩
            have ehh : ((i : Int) + (j : Int)) / 2 = (h : Int) := by omega
            have hhi : i ≤ h := by omega
            have hhj : h < j := by omega
            have HH : Hid _ := hh
            clear hh

            cases hL : ltOf cf d[m]! d[h]! with
            | true =>
              have eas14 : ((m : Int)).toNat = m := by omega
              have pas14 : (0 : Int) ≤ (m : Int) := by omega
              have bas14 : (m : Int) < (d.size : Int) := by omega
              have ras14 : IntKind.i64.wrap ((m : Int)) = (m : Int) := by rw [IntKind.wrap_i64]; omega
              have ecs14 : ((h : Int)).toNat = h := by omega
              have pcs14 : (0 : Int) ≤ (h : Int) := by omega
              have bcs14 : (h : Int) < (d.size : Int) := by omega
              have rcs14 : IntKind.i64.wrap ((h : Int)) = (h : Int) := by rw [IntKind.wrap_i64]; omega
              obtain ⟨xs14, hxs14⟩ : ∃ x, x = d[m]! := ⟨_, rfl⟩
              obtain ⟨ys14, hys14⟩ : ∃ x, x = d[h]! := ⟨_, rfl⟩
              have ls14a := S1.out.ld R (by omega) P (m) (by omega)
              have ls14b := S1.out.ld R (by omega) P (h) (by omega)
              rw [← hxs14] at ls14a
              rw [← hys14] at ls14b
              have hcs14 := S1.out.cmp HC.out (by omega) xs14 ys14
              have hvs14 : cf xs14 ys14 < 0 := by rw [hxs14, hys14]; exact of_decide_eq_true hL
              have hds14 : decide (cf xs14 ys14 < 0) = true := decide_eq_true hvs14
              clear hxs14 hys14
              go_wp2_with fail
              go_quiet_grown (first | (go_at_fn g; refine Calls.grown_of (hcs14 _ _)))
              have S2 : Aside (SWK enc k w0 blk off d (grow (wr.drewN nq) osq)) := S1.out.grown nq osq
              clear ls14a ls14b hcs14 S1
              generalize grow (wr.drewN nq) osq = w2 at S2 ⊢
              clear nq osq
              go_wp2
              go_roundg (h - i)
              case measure => omega
              case rel =>
                have hq : bsr (fun h => !ltOf cf d[m]! d[h]!) i j = bsr (fun h => !ltOf cf d[m]! d[h]!) i h := by
                  rw [bsr_dn _ hlt (by rw [← HH.out]; first | exact hL | (simp only [hL] <;> rfl)), ← HH.out]
                exact ⟨i, h, rfl, rfl, him, by omega, by omega, Nat.le_refl _, S2, hq.symm.trans HE.out⟩
            | false =>
              have eas14 : ((m : Int)).toNat = m := by omega
              have pas14 : (0 : Int) ≤ (m : Int) := by omega
              have bas14 : (m : Int) < (d.size : Int) := by omega
              have ras14 : IntKind.i64.wrap ((m : Int)) = (m : Int) := by rw [IntKind.wrap_i64]; omega
              have ecs14 : ((h : Int)).toNat = h := by omega
              have pcs14 : (0 : Int) ≤ (h : Int) := by omega
              have bcs14 : (h : Int) < (d.size : Int) := by omega
              have rcs14 : IntKind.i64.wrap ((h : Int)) = (h : Int) := by rw [IntKind.wrap_i64]; omega
              obtain ⟨xs14, hxs14⟩ : ∃ x, x = d[m]! := ⟨_, rfl⟩
              obtain ⟨ys14, hys14⟩ : ∃ x, x = d[h]! := ⟨_, rfl⟩
              have ls14a := S1.out.ld R (by omega) P (m) (by omega)
              have ls14b := S1.out.ld R (by omega) P (h) (by omega)
              rw [← hxs14] at ls14a
              rw [← hys14] at ls14b
              have hcs14 := S1.out.cmp HC.out (by omega) xs14 ys14
              have hvs14 : ¬ cf xs14 ys14 < 0 := by rw [hxs14, hys14]; exact of_decide_eq_false hL
              have hds14 : decide (cf xs14 ys14 < 0) = false := decide_eq_false hvs14
              clear hxs14 hys14
              go_wp2_with fail
              go_quiet_grown (first | (go_at_fn g; refine Calls.grown_of (hcs14 _ _)))
              have S2 : Aside (SWK enc k w0 blk off d (grow (wr.drewN nq) osq)) := S1.out.grown nq osq
              clear ls14a ls14b hcs14 S1
              generalize grow (wr.drewN nq) osq = w2 at S2 ⊢
              clear nq osq
              go_wp2
              go_roundg (j - (h + 1))
              case measure => omega
              case rel =>
                have hq : bsr (fun h => !ltOf cf d[m]! d[h]!) i j = bsr (fun h => !ltOf cf d[m]! d[h]!) (h + 1) j := by
                  rw [bsr_up _ hlt (by rw [← HH.out]; first | exact hL | (simp only [hL] <;> rfl)), ← HH.out]
                exact ⟨h + 1, j, by simp, rfl, by omega, by omega, hjm, Nat.le_refl _, S2, hq.symm.trans HE.out⟩
          · have hltz : ¬ (i : Int) < (j : Int) := by omega
            obtain rfl : j = i := by omega
            have hq := HE.out
            rw [bsr_end _ (by omega)] at hq
            have HQ : Hid _ := hq
            clear hq HE
            go_wp2_with fail
            go_loopg [17] (m - j) (fun kx sk wr => ∃ (q : Nat) (dk : Array α), sk = .int .i64 q ∧ j ≤ q ∧ q ≤ m ∧ q - j ≤ kx ∧ dk.size = d.size ∧ Aside (SWK enc k w0 blk off dk wr) ∧ Hid (dnS dk q j = dnS d m j))
            case atStart => exact ⟨m, d, rfl, hjm, Nat.le_refl _, Nat.le_refl _, rfl, S1, rfl⟩
            case round =>
              clear S1
              obtain ⟨q, dk, rfl, haq, hqj, hkx2, hds, S2, HU⟩ := hrel
              by_cases hl2 : j < q
              · obtain ⟨qp, rfl⟩ : ∃ qp, q = qp + 1 := ⟨q - 1, by omega⟩
                have hl2z : (j : Int) < (qp : Int) + 1 := by omega
                go_wp2_with fail
                have ea5 : ((qp : Int) + 1).toNat = qp + 1 := by omega
                have pa5 : (0 : Int) ≤ (qp : Int) + 1 := by omega
                have ba5 : (qp : Int) + 1 < (d.size : Int) := by omega
                have ra5 : IntKind.i64.wrap ((qp : Int) + 1) = (qp : Int) + 1 := by rw [IntKind.wrap_i64]; omega
                have ec5 : ((qp : Int)).toNat = qp := by omega
                have pc5 : (0 : Int) ≤ (qp : Int) := by omega
                have bc5 : (qp : Int) < (d.size : Int) := by omega
                have rc5 : IntKind.i64.wrap ((qp : Int)) = (qp : Int) := by rw [IntKind.wrap_i64]; omega
                have S3 : Aside (SWK enc k w0 blk off (swp dk (qp + 1) (qp)) ((wr.drew.setCells blk (off + (qp + 1) * k) (enc dk[qp]!)).setCells blk (off + (qp) * k) (enc dk[qp + 1]!))) := S2.out.swapped R (qp + 1) (qp) (by omega) (by omega)
                have l5a := S2.out.ld1 R (by omega) P (qp + 1) (by omega)
                have l5b := S2.out.ld1 R (by omega) P (qp) (by omega)
                have s5a := S2.out.st1 R (by omega) P (qp + 1) (by omega) dk[qp]!
                have s5b := S2.out.st2 R (by omega) P (qp + 1) (qp) (by omega) (by omega) dk[qp]! dk[qp + 1]!
                have n5a : (enc dk[qp + 1]!).length = k := R.hk _
                have n5b : (enc dk[qp]!).length = k := R.hk _
                generalize enc dk[qp + 1]! = cI5 at S3 l5a s5b n5a
                generalize enc dk[qp]! = cJ5 at S3 l5b s5a s5b n5b
                clear S2
                go_wp2_with fail
                go_big_region_o
                clear l5a l5b s5a s5b
                generalize (wr.drew.setCells blk (off + (qp + 1) * k) cJ5).setCells blk (off + (qp) * k) cI5 = w3 at S3 ⊢
                go_wp2
                go_roundg (qp - j)
                case measure => omega
                case rel =>
                  have hu := HU.out
                  rw [dnS_go _ hl2] at hu
                  exact ⟨qp, swp dk (qp + 1) qp, by first | rfl | simp, by omega, by omega, Nat.le_refl _, by rw [size_swp]; exact hds, S3, hu⟩
              · have hl2z : ¬ (j : Int) < (q : Int) := by omega
                go_wp2
                ((try simp only [Exit.inBlock, Exit.then]); refine bodyPost_ret (results_none rfl _ _ _) rfl ?_)
                refine ⟨rfl, ?_⟩
                have hu := HU.out
                rw [dnS_end _ hl2] at hu
                rw [symm, if_neg h1, if_pos h2, ← HQ.out, ← hu]
                exact S2.out
      · have h2z : ¬ (b : Int) - (m : Int) = 1 := by omega
        have h2b : ((b : Int) - (m : Int) == 1) = false := by rw [beq_eq_false_iff_ne]; exact h2z
        obtain ⟨mid, hmid⟩ : ∃ q, q = (a + b) / 2 := ⟨_, rfl⟩
        have emid : ((a : Int) + (b : Int)) / 2 = (mid : Int) := by omega
        have hm1 : a < mid := by omega
        have hm2 : mid < b := by omega
        have hm3 : 2 * mid ≤ a + b := by omega
        have hm4 : a + b ≤ 2 * mid + 1 := by omega
        have HM : Hid _ := hmid
        clear hmid
        by_cases hA : mid < m
        · have hAz : (mid : Int) < (m : Int) := by omega
          go_wp2_with fail
          go_loopg [20, 21] (mid - (mid + m - b)) (fun kx si sj wr => ∃ (i j : Nat), si = .int .i64 i ∧ sj = .int .i64 j ∧ (mid + m - b) ≤ i ∧ i ≤ j ∧ j ≤ mid ∧ j - i ≤ kx ∧ Aside (SWK enc k w0 blk off d wr) ∧ Hid (bsr (fun c => !ltOf cf d[mid + m - 1 - c]! d[c]!) i j = bsr (fun c => !ltOf cf d[mid + m - 1 - c]! d[c]!) ((mid + m - b)) (mid)))
          case atStart => exact ⟨(mid + m - b), mid, by first | rfl | (congr 1; omega), by first | rfl | (congr 1; omega), Nat.le_refl _, by omega, Nat.le_refl _, Nat.le_refl _, S0, rfl⟩
          case round =>
            clear S0
            obtain ⟨i, j, rfl, rfl, him, hij, hjm, hkx, S1, HE⟩ := hrel
            by_cases hlt : i < j
            · have hltz : (i : Int) < (j : Int) := by omega
              obtain ⟨h, hh⟩ : ∃ h, h = (i + j) / 2 := ⟨_, rfl⟩
              have ehh : ((i : Int) + (j : Int)) / 2 = (h : Int) := by omega
              have hhi : i ≤ h := by omega
              have hhj : h < j := by omega
              have HH : Hid _ := hh
              clear hh
              obtain ⟨q, hqq⟩ : ∃ q, q = mid + m - 1 - h := ⟨_, rfl⟩
              have eqq : (mid : Int) + (m : Int) - 1 - (h : Int) = (q : Int) := by omega
              have hqd : q < d.size := by omega
              have hqb : q + h + 1 = mid + m := by omega
              have HQQ : Hid _ := hqq
              clear hqq
              cases hL : ltOf cf d[q]! d[h]! with
              | true =>
                have eas20 : ((q : Int)).toNat = q := by omega
                have pas20 : (0 : Int) ≤ (q : Int) := by omega
                have bas20 : (q : Int) < (d.size : Int) := by omega
                have ras20 : IntKind.i64.wrap ((q : Int)) = (q : Int) := by rw [IntKind.wrap_i64]; omega
                have ecs20 : ((h : Int)).toNat = h := by omega
                have pcs20 : (0 : Int) ≤ (h : Int) := by omega
                have bcs20 : (h : Int) < (d.size : Int) := by omega
                have rcs20 : IntKind.i64.wrap ((h : Int)) = (h : Int) := by rw [IntKind.wrap_i64]; omega
                obtain ⟨xs20, hxs20⟩ : ∃ x, x = d[q]! := ⟨_, rfl⟩
                obtain ⟨ys20, hys20⟩ : ∃ x, x = d[h]! := ⟨_, rfl⟩
                have ls20a := S1.out.ld R (by omega) P (q) (by omega)
                have ls20b := S1.out.ld R (by omega) P (h) (by omega)
                rw [← hxs20] at ls20a
                rw [← hys20] at ls20b
                have hcs20 := S1.out.cmp HC.out (by omega) xs20 ys20
                have hvs20 : cf xs20 ys20 < 0 := by rw [hxs20, hys20]; exact of_decide_eq_true hL
                have hds20 : decide (cf xs20 ys20 < 0) = true := decide_eq_true hvs20
                clear hxs20 hys20
                go_wp2_with fail
                go_quiet_grown (first | (go_at_fn g; refine Calls.grown_of (hcs20 _ _)))
                have S2 : Aside (SWK enc k w0 blk off d (grow (wr.drewN nq) osq)) := S1.out.grown nq osq
                clear ls20a ls20b hcs20 S1
                generalize grow (wr.drewN nq) osq = w2 at S2 ⊢
                clear nq osq
                go_wp2
                go_roundg (h - i)
                case measure => omega
                case rel =>
                  have hq : bsr (fun c => !ltOf cf d[mid + m - 1 - c]! d[c]!) i j = bsr (fun c => !ltOf cf d[mid + m - 1 - c]! d[c]!) i h := by
                    rw [bsr_dn _ hlt (by rw [← HH.out]; first | exact hL | (simp only [← HQQ.out, hL] <;> rfl)), ← HH.out]
                  exact ⟨i, h, rfl, rfl, him, by omega, by omega, Nat.le_refl _, S2, hq.symm.trans HE.out⟩
              | false =>
                have eas20 : ((q : Int)).toNat = q := by omega
                have pas20 : (0 : Int) ≤ (q : Int) := by omega
                have bas20 : (q : Int) < (d.size : Int) := by omega
                have ras20 : IntKind.i64.wrap ((q : Int)) = (q : Int) := by rw [IntKind.wrap_i64]; omega
                have ecs20 : ((h : Int)).toNat = h := by omega
                have pcs20 : (0 : Int) ≤ (h : Int) := by omega
                have bcs20 : (h : Int) < (d.size : Int) := by omega
                have rcs20 : IntKind.i64.wrap ((h : Int)) = (h : Int) := by rw [IntKind.wrap_i64]; omega
                obtain ⟨xs20, hxs20⟩ : ∃ x, x = d[q]! := ⟨_, rfl⟩
                obtain ⟨ys20, hys20⟩ : ∃ x, x = d[h]! := ⟨_, rfl⟩
                have ls20a := S1.out.ld R (by omega) P (q) (by omega)
                have ls20b := S1.out.ld R (by omega) P (h) (by omega)
                rw [← hxs20] at ls20a
                rw [← hys20] at ls20b
                have hcs20 := S1.out.cmp HC.out (by omega) xs20 ys20
                have hvs20 : ¬ cf xs20 ys20 < 0 := by rw [hxs20, hys20]; exact of_decide_eq_false hL
                have hds20 : decide (cf xs20 ys20 < 0) = false := decide_eq_false hvs20
                clear hxs20 hys20
                go_wp2_with fail
                go_quiet_grown (first | (go_at_fn g; refine Calls.grown_of (hcs20 _ _)))
                have S2 : Aside (SWK enc k w0 blk off d (grow (wr.drewN nq) osq)) := S1.out.grown nq osq
                clear ls20a ls20b hcs20 S1
                generalize grow (wr.drewN nq) osq = w2 at S2 ⊢
                clear nq osq
                go_wp2
                go_roundg (j - (h + 1))
                case measure => omega
                case rel =>
                  have hq : bsr (fun c => !ltOf cf d[mid + m - 1 - c]! d[c]!) i j = bsr (fun c => !ltOf cf d[mid + m - 1 - c]! d[c]!) (h + 1) j := by
                    rw [bsr_up _ hlt (by rw [← HH.out]; first | exact hL | (simp only [← HQQ.out, hL] <;> rfl)), ← HH.out]
                  exact ⟨h + 1, j, by simp, rfl, by omega, by omega, hjm, Nat.le_refl _, S2, hq.symm.trans HE.out⟩
            · have hltz : ¬ (i : Int) < (j : Int) := by omega
              obtain rfl : j = i := by omega
              have hq := HE.out
              rw [bsr_end _ (by omega)] at hq
              have HQ : Hid _ := hq
              clear hq HE
              have HS : Hid (j = symS (ltOf cf) d a m b) := by
                show _ = _
                unfold symS
                rw [← HM.out, if_pos hA]
                exact HQ.out
              obtain ⟨e, he⟩ : ∃ e, e = mid + m - j := ⟨_, rfl⟩
              have hez : (mid : Int) + (m : Int) - (j : Int) = (e : Int) := by omega
              have he1 : e + j = mid + m := by omega
              have HEE : Hid _ := he
              clear he
              by_cases q1 : j < mid
              · by_cases q2 : a < j
                · by_cases q3 : e < b
                  · have c0 : (j : Int) < (m : Int) := by omega
                    have k0 : decide ((j : Int) < (m : Int)) = true := decide_eq_true c0
                    have c1 : (m : Int) < (e : Int) := by omega
                    have k1 : decide ((m : Int) < (e : Int)) = true := decide_eq_true c1
                    have c2 : (a : Int) < (j : Int) := by omega
                    have k2 : decide ((a : Int) < (j : Int)) = true := decide_eq_true c2
                    have c3 : (j : Int) < (mid : Int) := by omega
                    have k3 : decide ((j : Int) < (mid : Int)) = true := decide_eq_true c3
                    have c4 : (mid : Int) < (e : Int) := by omega
                    have k4 : decide ((mid : Int) < (e : Int)) = true := decide_eq_true c4
                    have c5 : (e : Int) < (b : Int) := by omega
                    have k5 : decide ((e : Int) < (b : Int)) = true := decide_eq_true c5
                    go_wp2_with fail
                    refine (HR.out j m e d wr rfl S1.out (by omega) (by omega) (by omega)).mono ?_
                    rintro e' w2 ⟨rfl, S2'⟩
                    have S2 : Aside _ := S2'
                    clear S2' S1
                    have Z2 : (rotL d m (m - j) (e - m)).size = d.size := size_rotL _ _ _ _ _ (Nat.le_refl _)
                    have Y2 : Aside _ := Z2
                    clear Z2
                    go_wp2_with fail
                    refine (HI.out a j mid (rotL d m (m - j) (e - m)) w2 Y2.out S2.out (by omega) (by omega) (by omega) (by omega)).mono ?_
                    rintro e' w3 ⟨rfl, S3'⟩
                    have S3 : Aside _ := S3'
                    clear S3' S2
                    have Y3 : Aside ((symm (ltOf cf) f (rotL d m (m - j) (e - m)) a j mid).size = d.size) := (size_symm _ _ _ _ _ _).trans Y2.out
                    go_wp2_with fail
                    refine (HI.out mid e b (symm (ltOf cf) f (rotL d m (m - j) (e - m)) a j mid) w3 Y3.out S3.out (by omega) (by omega) (by omega) (by omega)).mono ?_
                    rintro e' w4 ⟨rfl, S4'⟩
                    have S4 : Aside _ := S4'
                    clear S4' S3
                    go_wp2_with fail
                    ((try simp only [Exit.inBlock, Exit.then]); first | refine bodyPost_end (results_none rfl _ _ _) rfl ?_ | refine bodyPost_ret (results_none rfl _ _ _) rfl ?_)
                    refine ⟨rfl, ?_⟩
                    rw [symm, if_neg h1, if_neg h2]
                    dsimp only
                    rw [← HM.out, ← HS.out, ← HEE.out, if_pos (show (mid < e ∧ e < b) by omega), if_pos (show (a < j ∧ j < mid) by omega), if_pos (show (j < m ∧ m < e) by omega)]
                    exact S4.out
                  · have c0 : (j : Int) < (m : Int) := by omega
                    have k0 : decide ((j : Int) < (m : Int)) = true := decide_eq_true c0
                    have c1 : (m : Int) < (e : Int) := by omega
                    have k1 : decide ((m : Int) < (e : Int)) = true := decide_eq_true c1
                    have c2 : (a : Int) < (j : Int) := by omega
                    have k2 : decide ((a : Int) < (j : Int)) = true := decide_eq_true c2
                    have c3 : (j : Int) < (mid : Int) := by omega
                    have k3 : decide ((j : Int) < (mid : Int)) = true := decide_eq_true c3
                    have c4 : (mid : Int) < (e : Int) := by omega
                    have k4 : decide ((mid : Int) < (e : Int)) = true := decide_eq_true c4
                    have c5 : ¬ (e : Int) < (b : Int) := by omega
                    have k5 : decide ((e : Int) < (b : Int)) = false := decide_eq_false c5
                    go_wp2_with fail
                    refine (HR.out j m e d wr rfl S1.out (by omega) (by omega) (by omega)).mono ?_
                    rintro e' w2 ⟨rfl, S2'⟩
                    have S2 : Aside _ := S2'
                    clear S2' S1
                    have Z2 : (rotL d m (m - j) (e - m)).size = d.size := size_rotL _ _ _ _ _ (Nat.le_refl _)
                    have Y2 : Aside _ := Z2
                    clear Z2
                    go_wp2_with fail
                    refine (HI.out a j mid (rotL d m (m - j) (e - m)) w2 Y2.out S2.out (by omega) (by omega) (by omega) (by omega)).mono ?_
                    rintro e' w3 ⟨rfl, S3'⟩
                    have S3 : Aside _ := S3'
                    clear S3' S2
                    have Y3 : Aside ((symm (ltOf cf) f (rotL d m (m - j) (e - m)) a j mid).size = d.size) := (size_symm _ _ _ _ _ _).trans Y2.out
                    go_wp2_with fail
                    ((try simp only [Exit.inBlock, Exit.then]); first | refine bodyPost_end (results_none rfl _ _ _) rfl ?_ | refine bodyPost_ret (results_none rfl _ _ _) rfl ?_)
                    refine ⟨rfl, ?_⟩
                    rw [symm, if_neg h1, if_neg h2]
                    dsimp only
                    rw [← HM.out, ← HS.out, ← HEE.out, if_neg (show ¬ (mid < e ∧ e < b) by omega), if_pos (show (a < j ∧ j < mid) by omega), if_pos (show (j < m ∧ m < e) by omega)]
                    exact S3.out
                · by_cases q3 : e < b
                  · have c0 : (j : Int) < (m : Int) := by omega
                    have k0 : decide ((j : Int) < (m : Int)) = true := decide_eq_true c0
                    have c1 : (m : Int) < (e : Int) := by omega
                    have k1 : decide ((m : Int) < (e : Int)) = true := decide_eq_true c1
                    have c2 : ¬ (a : Int) < (j : Int) := by omega
                    have k2 : decide ((a : Int) < (j : Int)) = false := decide_eq_false c2
                    have c4 : (mid : Int) < (e : Int) := by omega
                    have k4 : decide ((mid : Int) < (e : Int)) = true := decide_eq_true c4
                    have c5 : (e : Int) < (b : Int) := by omega
                    have k5 : decide ((e : Int) < (b : Int)) = true := decide_eq_true c5
                    go_wp2_with fail
                    refine (HR.out j m e d wr rfl S1.out (by omega) (by omega) (by omega)).mono ?_
                    rintro e' w2 ⟨rfl, S2'⟩
                    have S2 : Aside _ := S2'
                    clear S2' S1
                    have Z2 : (rotL d m (m - j) (e - m)).size = d.size := size_rotL _ _ _ _ _ (Nat.le_refl _)
                    have Y2 : Aside _ := Z2
                    clear Z2
                    go_wp2_with fail
                    refine (HI.out mid e b (rotL d m (m - j) (e - m)) w2 Y2.out S2.out (by omega) (by omega) (by omega) (by omega)).mono ?_
                    rintro e' w3 ⟨rfl, S3'⟩
                    have S3 : Aside _ := S3'
                    clear S3' S2
                    go_wp2_with fail
                    ((try simp only [Exit.inBlock, Exit.then]); first | refine bodyPost_end (results_none rfl _ _ _) rfl ?_ | refine bodyPost_ret (results_none rfl _ _ _) rfl ?_)
                    refine ⟨rfl, ?_⟩
                    rw [symm, if_neg h1, if_neg h2]
                    dsimp only
                    rw [← HM.out, ← HS.out, ← HEE.out, if_pos (show (mid < e ∧ e < b) by omega), if_neg (show ¬ (a < j ∧ j < mid) by omega), if_pos (show (j < m ∧ m < e) by omega)]
                    exact S3.out
                  · have c0 : (j : Int) < (m : Int) := by omega
                    have k0 : decide ((j : Int) < (m : Int)) = true := decide_eq_true c0
                    have c1 : (m : Int) < (e : Int) := by omega
                    have k1 : decide ((m : Int) < (e : Int)) = true := decide_eq_true c1
                    have c2 : ¬ (a : Int) < (j : Int) := by omega
                    have k2 : decide ((a : Int) < (j : Int)) = false := decide_eq_false c2
                    have c4 : (mid : Int) < (e : Int) := by omega
                    have k4 : decide ((mid : Int) < (e : Int)) = true := decide_eq_true c4
                    have c5 : ¬ (e : Int) < (b : Int) := by omega
                    have k5 : decide ((e : Int) < (b : Int)) = false := decide_eq_false c5
                    go_wp2_with fail
                    refine (HR.out j m e d wr rfl S1.out (by omega) (by omega) (by omega)).mono ?_
                    rintro e' w2 ⟨rfl, S2'⟩
                    have S2 : Aside _ := S2'
                    clear S2' S1
                    have Z2 : (rotL d m (m - j) (e - m)).size = d.size := size_rotL _ _ _ _ _ (Nat.le_refl _)
                    have Y2 : Aside _ := Z2
                    clear Z2
                    go_wp2_with fail
                    ((try simp only [Exit.inBlock, Exit.then]); first | refine bodyPost_end (results_none rfl _ _ _) rfl ?_ | refine bodyPost_ret (results_none rfl _ _ _) rfl ?_)
                    refine ⟨rfl, ?_⟩
                    rw [symm, if_neg h1, if_neg h2]
                    dsimp only
                    rw [← HM.out, ← HS.out, ← HEE.out, if_neg (show ¬ (mid < e ∧ e < b) by omega), if_neg (show ¬ (a < j ∧ j < mid) by omega), if_pos (show (j < m ∧ m < e) by omega)]
                    exact S2.out
              · have c0 : (j : Int) < (m : Int) := by omega
                have k0 : decide ((j : Int) < (m : Int)) = true := decide_eq_true c0
                have c1 : ¬ (m : Int) < (e : Int) := by omega
                have k1 : decide ((m : Int) < (e : Int)) = false := decide_eq_false c1
                have c2 : (a : Int) < (j : Int) := by omega
                have k2 : decide ((a : Int) < (j : Int)) = true := decide_eq_true c2
                have c3 : ¬ (j : Int) < (mid : Int) := by omega
                have k3 : decide ((j : Int) < (mid : Int)) = false := decide_eq_false c3
                have c4 : (mid : Int) < (e : Int) := by omega
                have k4 : decide ((mid : Int) < (e : Int)) = true := decide_eq_true c4
                have c5 : (e : Int) < (b : Int) := by omega
                have k5 : decide ((e : Int) < (b : Int)) = true := decide_eq_true c5
                go_wp2_with fail
                refine (HI.out mid e b d wr rfl S1.out (by omega) (by omega) (by omega) (by omega)).mono ?_
                rintro e' w2 ⟨rfl, S2'⟩
                have S2 : Aside _ := S2'
                clear S2' S1
                go_wp2_with fail
                ((try simp only [Exit.inBlock, Exit.then]); first | refine bodyPost_end (results_none rfl _ _ _) rfl ?_ | refine bodyPost_ret (results_none rfl _ _ _) rfl ?_)
                refine ⟨rfl, ?_⟩
                rw [symm, if_neg h1, if_neg h2]
                dsimp only
                rw [← HM.out, ← HS.out, ← HEE.out, if_pos (show (mid < e ∧ e < b) by omega), if_neg (show ¬ (a < j ∧ j < mid) by omega), if_neg (show ¬ (j < m ∧ m < e) by omega)]
                exact S2.out
        · have hAz : ¬ (mid : Int) < (m : Int) := by omega
          go_wp2_with fail
          go_loopg [20, 21] (m - a) (fun kx si sj wr => ∃ (i j : Nat), si = .int .i64 i ∧ sj = .int .i64 j ∧ a ≤ i ∧ i ≤ j ∧ j ≤ m ∧ j - i ≤ kx ∧ Aside (SWK enc k w0 blk off d wr) ∧ Hid (bsr (fun c => !ltOf cf d[mid + m - 1 - c]! d[c]!) i j = bsr (fun c => !ltOf cf d[mid + m - 1 - c]! d[c]!) (a) (m)))
          case atStart => exact ⟨a, m, by first | rfl | (congr 1; omega), by first | rfl | (congr 1; omega), Nat.le_refl _, by omega, Nat.le_refl _, Nat.le_refl _, S0, rfl⟩
          case round =>
            clear S0
            obtain ⟨i, j, rfl, rfl, him, hij, hjm, hkx, S1, HE⟩ := hrel
            by_cases hlt : i < j
            · have hltz : (i : Int) < (j : Int) := by omega
              obtain ⟨h, hh⟩ : ∃ h, h = (i + j) / 2 := ⟨_, rfl⟩
              have ehh : ((i : Int) + (j : Int)) / 2 = (h : Int) := by omega
              have hhi : i ≤ h := by omega
              have hhj : h < j := by omega
              have HH : Hid _ := hh
              clear hh
              obtain ⟨q, hqq⟩ : ∃ q, q = mid + m - 1 - h := ⟨_, rfl⟩
              have eqq : (mid : Int) + (m : Int) - 1 - (h : Int) = (q : Int) := by omega
              have hqd : q < d.size := by omega
              have hqb : q + h + 1 = mid + m := by omega
              have HQQ : Hid _ := hqq
              clear hqq
              cases hL : ltOf cf d[q]! d[h]! with
              | true =>
                have eas20 : ((q : Int)).toNat = q := by omega
                have pas20 : (0 : Int) ≤ (q : Int) := by omega
                have bas20 : (q : Int) < (d.size : Int) := by omega
                have ras20 : IntKind.i64.wrap ((q : Int)) = (q : Int) := by rw [IntKind.wrap_i64]; omega
                have ecs20 : ((h : Int)).toNat = h := by omega
                have pcs20 : (0 : Int) ≤ (h : Int) := by omega
                have bcs20 : (h : Int) < (d.size : Int) := by omega
                have rcs20 : IntKind.i64.wrap ((h : Int)) = (h : Int) := by rw [IntKind.wrap_i64]; omega
                obtain ⟨xs20, hxs20⟩ : ∃ x, x = d[q]! := ⟨_, rfl⟩
                obtain ⟨ys20, hys20⟩ : ∃ x, x = d[h]! := ⟨_, rfl⟩
                have ls20a := S1.out.ld R (by omega) P (q) (by omega)
                have ls20b := S1.out.ld R (by omega) P (h) (by omega)
                rw [← hxs20] at ls20a
                rw [← hys20] at ls20b
                have hcs20 := S1.out.cmp HC.out (by omega) xs20 ys20
                have hvs20 : cf xs20 ys20 < 0 := by rw [hxs20, hys20]; exact of_decide_eq_true hL
                have hds20 : decide (cf xs20 ys20 < 0) = true := decide_eq_true hvs20
                clear hxs20 hys20
                go_wp2_with fail
                go_quiet_grown (first | (go_at_fn g; refine Calls.grown_of (hcs20 _ _)))
                have S2 : Aside (SWK enc k w0 blk off d (grow (wr.drewN nq) osq)) := S1.out.grown nq osq
                clear ls20a ls20b hcs20 S1
                generalize grow (wr.drewN nq) osq = w2 at S2 ⊢
                clear nq osq
                go_wp2
                go_roundg (h - i)
                case measure => omega
                case rel =>
                  have hq : bsr (fun c => !ltOf cf d[mid + m - 1 - c]! d[c]!) i j = bsr (fun c => !ltOf cf d[mid + m - 1 - c]! d[c]!) i h := by
                    rw [bsr_dn _ hlt (by rw [← HH.out]; first | exact hL | (simp only [← HQQ.out, hL] <;> rfl)), ← HH.out]
                  exact ⟨i, h, rfl, rfl, him, by omega, by omega, Nat.le_refl _, S2, hq.symm.trans HE.out⟩
              | false =>
                have eas20 : ((q : Int)).toNat = q := by omega
                have pas20 : (0 : Int) ≤ (q : Int) := by omega
                have bas20 : (q : Int) < (d.size : Int) := by omega
                have ras20 : IntKind.i64.wrap ((q : Int)) = (q : Int) := by rw [IntKind.wrap_i64]; omega
                have ecs20 : ((h : Int)).toNat = h := by omega
                have pcs20 : (0 : Int) ≤ (h : Int) := by omega
                have bcs20 : (h : Int) < (d.size : Int) := by omega
                have rcs20 : IntKind.i64.wrap ((h : Int)) = (h : Int) := by rw [IntKind.wrap_i64]; omega
                obtain ⟨xs20, hxs20⟩ : ∃ x, x = d[q]! := ⟨_, rfl⟩
                obtain ⟨ys20, hys20⟩ : ∃ x, x = d[h]! := ⟨_, rfl⟩
                have ls20a := S1.out.ld R (by omega) P (q) (by omega)
                have ls20b := S1.out.ld R (by omega) P (h) (by omega)
                rw [← hxs20] at ls20a
                rw [← hys20] at ls20b
                have hcs20 := S1.out.cmp HC.out (by omega) xs20 ys20
                have hvs20 : ¬ cf xs20 ys20 < 0 := by rw [hxs20, hys20]; exact of_decide_eq_false hL
                have hds20 : decide (cf xs20 ys20 < 0) = false := decide_eq_false hvs20
                clear hxs20 hys20
                go_wp2_with fail
                go_quiet_grown (first | (go_at_fn g; refine Calls.grown_of (hcs20 _ _)))
                have S2 : Aside (SWK enc k w0 blk off d (grow (wr.drewN nq) osq)) := S1.out.grown nq osq
                clear ls20a ls20b hcs20 S1
                generalize grow (wr.drewN nq) osq = w2 at S2 ⊢
                clear nq osq
                go_wp2
                go_roundg (j - (h + 1))
                case measure => omega
                case rel =>
                  have hq : bsr (fun c => !ltOf cf d[mid + m - 1 - c]! d[c]!) i j = bsr (fun c => !ltOf cf d[mid + m - 1 - c]! d[c]!) (h + 1) j := by
                    rw [bsr_up _ hlt (by rw [← HH.out]; first | exact hL | (simp only [← HQQ.out, hL] <;> rfl)), ← HH.out]
                  exact ⟨h + 1, j, by simp, rfl, by omega, by omega, hjm, Nat.le_refl _, S2, hq.symm.trans HE.out⟩
            · have hltz : ¬ (i : Int) < (j : Int) := by omega
              obtain rfl : j = i := by omega
              have hq := HE.out
              rw [bsr_end _ (by omega)] at hq
              have HQ : Hid _ := hq
              clear hq HE
              have HS : Hid (j = symS (ltOf cf) d a m b) := by
                show _ = _
                unfold symS
                rw [← HM.out, if_neg hA]
                exact HQ.out
              obtain ⟨e, he⟩ : ∃ e, e = mid + m - j := ⟨_, rfl⟩
              have hez : (mid : Int) + (m : Int) - (j : Int) = (e : Int) := by omega
              have he1 : e + j = mid + m := by omega
              have HEE : Hid _ := he
              clear he
              by_cases q1 : j < m
              · by_cases q2 : a < j
                · by_cases q3 : e < b
                  · have c0 : (j : Int) < (m : Int) := by omega
                    have k0 : decide ((j : Int) < (m : Int)) = true := decide_eq_true c0
                    have c1 : (m : Int) < (e : Int) := by omega
                    have k1 : decide ((m : Int) < (e : Int)) = true := decide_eq_true c1
                    have c2 : (a : Int) < (j : Int) := by omega
                    have k2 : decide ((a : Int) < (j : Int)) = true := decide_eq_true c2
                    have c3 : (j : Int) < (mid : Int) := by omega
                    have k3 : decide ((j : Int) < (mid : Int)) = true := decide_eq_true c3
                    have c4 : (mid : Int) < (e : Int) := by omega
                    have k4 : decide ((mid : Int) < (e : Int)) = true := decide_eq_true c4
                    have c5 : (e : Int) < (b : Int) := by omega
                    have k5 : decide ((e : Int) < (b : Int)) = true := decide_eq_true c5
                    go_wp2_with fail
                    refine (HR.out j m e d wr rfl S1.out (by omega) (by omega) (by omega)).mono ?_
                    rintro e' w2 ⟨rfl, S2'⟩
                    have S2 : Aside _ := S2'
                    clear S2' S1
                    have Z2 : (rotL d m (m - j) (e - m)).size = d.size := size_rotL _ _ _ _ _ (Nat.le_refl _)
                    have Y2 : Aside _ := Z2
                    clear Z2
                    go_wp2_with fail
                    refine (HI.out a j mid (rotL d m (m - j) (e - m)) w2 Y2.out S2.out (by omega) (by omega) (by omega) (by omega)).mono ?_
                    rintro e' w3 ⟨rfl, S3'⟩
                    have S3 : Aside _ := S3'
                    clear S3' S2
                    have Y3 : Aside ((symm (ltOf cf) f (rotL d m (m - j) (e - m)) a j mid).size = d.size) := (size_symm _ _ _ _ _ _).trans Y2.out
                    go_wp2_with fail
                    refine (HI.out mid e b (symm (ltOf cf) f (rotL d m (m - j) (e - m)) a j mid) w3 Y3.out S3.out (by omega) (by omega) (by omega) (by omega)).mono ?_
                    rintro e' w4 ⟨rfl, S4'⟩
                    have S4 : Aside _ := S4'
                    clear S4' S3
                    go_wp2_with fail
                    ((try simp only [Exit.inBlock, Exit.then]); first | refine bodyPost_end (results_none rfl _ _ _) rfl ?_ | refine bodyPost_ret (results_none rfl _ _ _) rfl ?_)
                    refine ⟨rfl, ?_⟩
                    rw [symm, if_neg h1, if_neg h2]
                    dsimp only
                    rw [← HM.out, ← HS.out, ← HEE.out, if_pos (show (mid < e ∧ e < b) by omega), if_pos (show (a < j ∧ j < mid) by omega), if_pos (show (j < m ∧ m < e) by omega)]
                    exact S4.out
                  · have c0 : (j : Int) < (m : Int) := by omega
                    have k0 : decide ((j : Int) < (m : Int)) = true := decide_eq_true c0
                    have c1 : (m : Int) < (e : Int) := by omega
                    have k1 : decide ((m : Int) < (e : Int)) = true := decide_eq_true c1
                    have c2 : (a : Int) < (j : Int) := by omega
                    have k2 : decide ((a : Int) < (j : Int)) = true := decide_eq_true c2
                    have c3 : (j : Int) < (mid : Int) := by omega
                    have k3 : decide ((j : Int) < (mid : Int)) = true := decide_eq_true c3
                    have c4 : (mid : Int) < (e : Int) := by omega
                    have k4 : decide ((mid : Int) < (e : Int)) = true := decide_eq_true c4
                    have c5 : ¬ (e : Int) < (b : Int) := by omega
                    have k5 : decide ((e : Int) < (b : Int)) = false := decide_eq_false c5
                    go_wp2_with fail
                    refine (HR.out j m e d wr rfl S1.out (by omega) (by omega) (by omega)).mono ?_
                    rintro e' w2 ⟨rfl, S2'⟩
                    have S2 : Aside _ := S2'
                    clear S2' S1
                    have Z2 : (rotL d m (m - j) (e - m)).size = d.size := size_rotL _ _ _ _ _ (Nat.le_refl _)
                    have Y2 : Aside _ := Z2
                    clear Z2
                    go_wp2_with fail
                    refine (HI.out a j mid (rotL d m (m - j) (e - m)) w2 Y2.out S2.out (by omega) (by omega) (by omega) (by omega)).mono ?_
                    rintro e' w3 ⟨rfl, S3'⟩
                    have S3 : Aside _ := S3'
                    clear S3' S2
                    have Y3 : Aside ((symm (ltOf cf) f (rotL d m (m - j) (e - m)) a j mid).size = d.size) := (size_symm _ _ _ _ _ _).trans Y2.out
                    go_wp2_with fail
                    ((try simp only [Exit.inBlock, Exit.then]); first | refine bodyPost_end (results_none rfl _ _ _) rfl ?_ | refine bodyPost_ret (results_none rfl _ _ _) rfl ?_)
                    refine ⟨rfl, ?_⟩
                    rw [symm, if_neg h1, if_neg h2]
                    dsimp only
                    rw [← HM.out, ← HS.out, ← HEE.out, if_neg (show ¬ (mid < e ∧ e < b) by omega), if_pos (show (a < j ∧ j < mid) by omega), if_pos (show (j < m ∧ m < e) by omega)]
                    exact S3.out
                · by_cases q3 : e < b
                  · have c0 : (j : Int) < (m : Int) := by omega
                    have k0 : decide ((j : Int) < (m : Int)) = true := decide_eq_true c0
                    have c1 : (m : Int) < (e : Int) := by omega
                    have k1 : decide ((m : Int) < (e : Int)) = true := decide_eq_true c1
                    have c2 : ¬ (a : Int) < (j : Int) := by omega
                    have k2 : decide ((a : Int) < (j : Int)) = false := decide_eq_false c2
                    have c4 : (mid : Int) < (e : Int) := by omega
                    have k4 : decide ((mid : Int) < (e : Int)) = true := decide_eq_true c4
                    have c5 : (e : Int) < (b : Int) := by omega
                    have k5 : decide ((e : Int) < (b : Int)) = true := decide_eq_true c5
                    go_wp2_with fail
                    refine (HR.out j m e d wr rfl S1.out (by omega) (by omega) (by omega)).mono ?_
                    rintro e' w2 ⟨rfl, S2'⟩
                    have S2 : Aside _ := S2'
                    clear S2' S1
                    have Z2 : (rotL d m (m - j) (e - m)).size = d.size := size_rotL _ _ _ _ _ (Nat.le_refl _)
                    have Y2 : Aside _ := Z2
                    clear Z2
                    go_wp2_with fail
                    refine (HI.out mid e b (rotL d m (m - j) (e - m)) w2 Y2.out S2.out (by omega) (by omega) (by omega) (by omega)).mono ?_
                    rintro e' w3 ⟨rfl, S3'⟩
                    have S3 : Aside _ := S3'
                    clear S3' S2
                    go_wp2_with fail
                    ((try simp only [Exit.inBlock, Exit.then]); first | refine bodyPost_end (results_none rfl _ _ _) rfl ?_ | refine bodyPost_ret (results_none rfl _ _ _) rfl ?_)
                    refine ⟨rfl, ?_⟩
                    rw [symm, if_neg h1, if_neg h2]
                    dsimp only
                    rw [← HM.out, ← HS.out, ← HEE.out, if_pos (show (mid < e ∧ e < b) by omega), if_neg (show ¬ (a < j ∧ j < mid) by omega), if_pos (show (j < m ∧ m < e) by omega)]
                    exact S3.out
                  · have c0 : (j : Int) < (m : Int) := by omega
                    have k0 : decide ((j : Int) < (m : Int)) = true := decide_eq_true c0
                    have c1 : (m : Int) < (e : Int) := by omega
                    have k1 : decide ((m : Int) < (e : Int)) = true := decide_eq_true c1
                    have c2 : ¬ (a : Int) < (j : Int) := by omega
                    have k2 : decide ((a : Int) < (j : Int)) = false := decide_eq_false c2
                    have c4 : (mid : Int) < (e : Int) := by omega
                    have k4 : decide ((mid : Int) < (e : Int)) = true := decide_eq_true c4
                    have c5 : ¬ (e : Int) < (b : Int) := by omega
                    have k5 : decide ((e : Int) < (b : Int)) = false := decide_eq_false c5
                    go_wp2_with fail
                    refine (HR.out j m e d wr rfl S1.out (by omega) (by omega) (by omega)).mono ?_
                    rintro e' w2 ⟨rfl, S2'⟩
                    have S2 : Aside _ := S2'
                    clear S2' S1
                    have Z2 : (rotL d m (m - j) (e - m)).size = d.size := size_rotL _ _ _ _ _ (Nat.le_refl _)
                    have Y2 : Aside _ := Z2
                    clear Z2
                    go_wp2_with fail
                    ((try simp only [Exit.inBlock, Exit.then]); first | refine bodyPost_end (results_none rfl _ _ _) rfl ?_ | refine bodyPost_ret (results_none rfl _ _ _) rfl ?_)
                    refine ⟨rfl, ?_⟩
                    rw [symm, if_neg h1, if_neg h2]
                    dsimp only
                    rw [← HM.out, ← HS.out, ← HEE.out, if_neg (show ¬ (mid < e ∧ e < b) by omega), if_neg (show ¬ (a < j ∧ j < mid) by omega), if_pos (show (j < m ∧ m < e) by omega)]
                    exact S2.out
              · by_cases q2 : m < mid
                · have c0 : ¬ (j : Int) < (m : Int) := by omega
                  have k0 : decide ((j : Int) < (m : Int)) = false := decide_eq_false c0
                  have c2 : (a : Int) < (j : Int) := by omega
                  have k2 : decide ((a : Int) < (j : Int)) = true := decide_eq_true c2
                  have c3 : (j : Int) < (mid : Int) := by omega
                  have k3 : decide ((j : Int) < (mid : Int)) = true := decide_eq_true c3
                  have c4 : ¬ (mid : Int) < (e : Int) := by omega
                  have k4 : decide ((mid : Int) < (e : Int)) = false := decide_eq_false c4
                  go_wp2_with fail
                  refine (HI.out a j mid d wr rfl S1.out (by omega) (by omega) (by omega) (by omega)).mono ?_
                  rintro e' w2 ⟨rfl, S2'⟩
                  have S2 : Aside _ := S2'
                  clear S2' S1
                  have Y2 : Aside ((symm (ltOf cf) f d a j mid).size = d.size) := (size_symm _ _ _ _ _ _).trans rfl
                  go_wp2_with fail
                  ((try simp only [Exit.inBlock, Exit.then]); first | refine bodyPost_end (results_none rfl _ _ _) rfl ?_ | refine bodyPost_ret (results_none rfl _ _ _) rfl ?_)
                  refine ⟨rfl, ?_⟩
                  rw [symm, if_neg h1, if_neg h2]
                  dsimp only
                  rw [← HM.out, ← HS.out, ← HEE.out, if_neg (show ¬ (mid < e ∧ e < b) by omega), if_pos (show (a < j ∧ j < mid) by omega), if_neg (show ¬ (j < m ∧ m < e) by omega)]
                  exact S2.out
                · have c0 : ¬ (j : Int) < (m : Int) := by omega
                  have k0 : decide ((j : Int) < (m : Int)) = false := decide_eq_false c0
                  have c2 : (a : Int) < (j : Int) := by omega
                  have k2 : decide ((a : Int) < (j : Int)) = true := decide_eq_true c2
                  have c3 : ¬ (j : Int) < (mid : Int) := by omega
                  have k3 : decide ((j : Int) < (mid : Int)) = false := decide_eq_false c3
                  have c4 : ¬ (mid : Int) < (e : Int) := by omega
                  have k4 : decide ((mid : Int) < (e : Int)) = false := decide_eq_false c4
                  go_wp2_with fail
                  ((try simp only [Exit.inBlock, Exit.then]); first | refine bodyPost_end (results_none rfl _ _ _) rfl ?_ | refine bodyPost_ret (results_none rfl _ _ _) rfl ?_)
                  refine ⟨rfl, ?_⟩
                  rw [symm, if_neg h1, if_neg h2]
                  dsimp only
                  rw [← HM.out, ← HS.out, ← HEE.out, if_neg (show ¬ (mid < e ∧ e < b) by omega), if_neg (show ¬ (a < j ∧ j < mid) by omega), if_neg (show ¬ (j < m ∧ m < e) by omega)]
                  exact S1.out
end Go.Proofs.Ytooegndajfopkaa
