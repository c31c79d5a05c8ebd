/- The library's exchange of ranges and its rotation. No statement of the seat is proved here. -/
import Derived.Test.YtooegndajfopkaaSymDefs
import Derived.Shelf.SlSortCmp.KitK
import Derived.Sort.WalkB2
import Derived.Sort.WalkB12
import Derived.Deep.LoopGhost
namespace Go.Proofs.Ytooegndajfopkaa
open Go.Shelf Go.RowKit Go.Lib Go.Sort
variable {P : Program} {α : Type} [Inhabited α]
set_option linter.unusedVariables false

set_option maxHeartbeats 4000000 in
set_option maxRecDepth 1000000 in
theorem swapRange_w {k : Nat} (L : LayR P k) (enc : α → List Value) (g : Nat) (cb : Array Value) (blk off cap a b n : Nat) (d0 d : Array α) (w0 w : World)
    (R : RowK enc k w0 blk off d0) (hs : d0.size = d.size) (S : SWK enc k w0 blk off d w) (ha : a + n ≤ d.size) (hb : b + n ≤ d.size) (hsz : d.size < 4611686018427387904) :
    Calls P 43 #[.slice (some ⟨blk, off, none⟩) d.size cap, .int .i64 a, .int .i64 b, .int .i64 n, .func (.func g) #[] cb] w fun e w' => e = .returned (.tuple #[]) ∧ SWK enc k w0 blk off (swR d a b 0 n) w' := by
  have mixed := L.mixed; have t0 := L.t0; have a0 := L.a0; have z0 := L.z0; have v0 := L.v0; have t3 := L.t3; have a3 := L.a3; have z3 := L.z3; have v3 := L.v3; have t4 := L.t4; have a4 := L.a4; have z4 := L.z4; have v4 := L.v4; have t26 := L.t26; have a26 := L.a26; have z26 := L.z26; have v26 := L.v26; have t53 := L.t53; have a53 := L.a53; have z53 := L.z53; have v53 := L.v53; have t67 := L.t67; have a67 := L.a67; have z67 := L.z67; have v67 := L.v67; have aE := L.aE; have zE := L.zE
  have S0 : Aside (SWK enc k w0 blk off d w) := S
  clear S
  go_enter L.fSwr, Try.ntmps43
  go_wp2
  go_loopg [10] n (fun kx s10 wr => ∃ (i : Nat) (dk : Array α), s10 = .int .i64 i ∧ i ≤ n ∧ n - i ≤ kx ∧ dk.size = d.size ∧ Aside (SWK enc k w0 blk off dk wr) ∧ swR dk a b i n = swR d a b 0 n)
  case atStart => exact ⟨0, d, rfl, Nat.zero_le _, by omega, rfl, S0, rfl⟩
  case round =>
    clear S0
    obtain ⟨i, dk, rfl, hin, hkx, hds, S1, heq⟩ := hrel
    by_cases hlt : i < n
    · have hltz : (i : Int) < (n : Int) := by omega
      go_wp2_with fail
      have ea3 : ((a : Int) + (i : Int)).toNat = a + i := by omega
      have pa3 : (0 : Int) ≤ (a : Int) + (i : Int) := by omega
      have ba3 : (a : Int) + (i : Int) < (d.size : Int) := by omega
      have ra3 : IntKind.i64.wrap ((a : Int) + (i : Int)) = (a : Int) + (i : Int) := by rw [IntKind.wrap_i64]; omega
      have ec3 : ((b : Int) + (i : Int)).toNat = b + i := by omega
      have pc3 : (0 : Int) ≤ (b : Int) + (i : Int) := by omega
      have bc3 : (b : Int) + (i : Int) < (d.size : Int) := by omega
      have rc3 : IntKind.i64.wrap ((b : Int) + (i : Int)) = (b : Int) + (i : Int) := by rw [IntKind.wrap_i64]; omega
      have S2 : Aside (SWK enc k w0 blk off (swp dk (a + i) (b + i)) ((wr.drew.setCells blk (off + (a + i) * k) (enc dk[b + i]!)).setCells blk (off + (b + i) * k) (enc dk[a + i]!))) := S1.out.swapped R (a + i) (b + i) (by omega) (by omega)
      have l3a := S1.out.ld1 R (by omega) P (a + i) (by omega)
      have l3b := S1.out.ld1 R (by omega) P (b + i) (by omega)
      have s3a := S1.out.st1 R (by omega) P (a + i) (by omega) dk[b + i]!
      have s3b := S1.out.st2 R (by omega) P (a + i) (b + i) (by omega) (by omega) dk[b + i]! dk[a + i]!
      have n3a : (enc dk[a + i]!).length = k := R.hk _
      have n3b : (enc dk[b + i]!).length = k := R.hk _
      generalize enc dk[a + i]! = cI3 at S2 l3a s3b n3a
      generalize enc dk[b + i]! = cJ3 at S2 l3b s3a s3b n3b
      clear S1
      go_wp2_with fail
      go_big_region_o
      clear l3a l3b s3a s3b
      generalize (wr.drew.setCells blk (off + (a + i) * k) cJ3).setCells blk (off + (b + i) * k) cI3 = w2 at S2 ⊢
      go_wp2
      go_roundg (n - (i + 1))
      case measure => omega
      case rel =>
        rw [swR_go _ _ _ hlt] at heq
        exact ⟨i + 1, swp dk (a + i) (b + i), by simp, by omega, Nat.le_refl _, by rw [size_swp]; exact hds, S2, heq⟩
    · have hltz : ¬ (i : Int) < (n : Int) := by omega
      go_wp2
      go_end0
      refine ⟨rfl, ?_⟩
      rw [swR_end _ _ _ hlt] at heq
      rw [← heq]
      exact S1.out

set_option maxHeartbeats 4000000 in
set_option maxRecDepth 1000000 in
theorem rotate_w {k : Nat} (L : LayR P k) (enc : α → List Value) (g : Nat) (cb : Array Value) (blk off cap a m b : Nat) (d0 d : Array α) (w0 w : World)
    (R : RowK enc k w0 blk off d0) (hs : d0.size = d.size) (S : SWK enc k w0 blk off d w) (ha : a < m) (hm : m < b) (hb : b ≤ d.size) (hsz : d.size < 4611686018427387904) :
    Calls P 42 #[.slice (some ⟨blk, off, none⟩) d.size cap, .int .i64 a, .int .i64 m, .int .i64 b, .func (.func g) #[] cb] w fun e w' => e = .returned (.tuple #[]) ∧ SWK enc k w0 blk off (rotL d m (m - a) (b - m)) w' := by
  have mixed := L.mixed; have t0 := L.t0; have a0 := L.a0; have z0 := L.z0; have v0 := L.v0; have t3 := L.t3; have a3 := L.a3; have z3 := L.z3; have v3 := L.v3; have t4 := L.t4; have a4 := L.a4; have z4 := L.z4; have v4 := L.v4; have t26 := L.t26; have a26 := L.a26; have z26 := L.z26; have v26 := L.v26; have t53 := L.t53; have a53 := L.a53; have z53 := L.z53; have v53 := L.v53; have t67 := L.t67; have a67 := L.a67; have z67 := L.z67; have v67 := L.v67; have aE := L.aE; have zE := L.zE
  have S0 : Aside (SWK enc k w0 blk off d w) := S
  have ES : ∀ args w, (callFunc 43 args).run P w = .ok (.enter 43 args) w := enters_of L.fSwr (by kernel_rfl) rfl
  have HS : ∀ (x y n : Nat) (dk : Array α) (wk : World), dk.size = d.size → SWK enc k w0 blk off dk wk → x + n ≤ d.size → y + n ≤ d.size → Calls P 43 #[.slice (some ⟨blk, off, none⟩) d.size cap, .int .i64 x, .int .i64 y, .int .i64 n, .func (.func g) #[] cb] wk fun e w' => e = .returned (.tuple #[]) ∧ SWK enc k w0 blk off (swR dk x y 0 n) w' := fun x y n dk wk h1 h2 h3 h4 => by
    rw [← h1]
    exact swapRange_w L enc g cb blk off cap x y n d0 dk w0 wk R (hs.trans h1.symm) h2 (by omega) (by omega) (by omega)
  have HS' : Aside _ := HS
  clear HS S
  go_enter L.fRot, Try.ntmps42
  go_wp2
  go_loopg [10, 11] (b - a) (fun kx s10 s11 wr => ∃ (i j : Nat) (dk : Array α), s10 = .int .i64 i ∧ s11 = .int .i64 j ∧ 0 < i ∧ 0 < j ∧ i ≤ m - a ∧ j ≤ b - m ∧ i + j ≤ kx ∧ dk.size = d.size ∧ Aside (SWK enc k w0 blk off dk wr) ∧ rotL dk m i j = rotL d m (m - a) (b - m))
  case atStart => exact ⟨m - a, b - m, d, by rw [show (m : Int) - (a : Int) = ((m - a : Nat) : Int) by omega], by rw [show (b : Int) - (m : Int) = ((b - m : Nat) : Int) by omega], by omega, by omega, Nat.le_refl _, Nat.le_refl _, by omega, rfl, S0, rfl⟩
  case round =>
    clear S0
    obtain ⟨i, j, dk, rfl, rfl, hi0, hj0, him, hjm, hkx, hds, S1, heq⟩ := hrel
    have em : (m : Int) - (i : Int) = ((m - i : Nat) : Int) := by omega
    have HEQ : Aside _ := heq
    clear heq
    by_cases hij : i = j
    · subst hij
      have hc := HS'.out (m - i) m i dk wr hds S1.out (by omega) (by omega)
      go_wp2_with (go_at_fn 43; refine hc.mono ?_; rintro e w' ⟨rfl, S2⟩)
      go_end0
      refine ⟨rfl, ?_⟩
      rw [← HEQ.out, rotL_eq]
      exact S2
    · have hijz : ¬ (i : Int) = (j : Int) := by omega
      by_cases hgt : j < i
      · have hgtz : (j : Int) < (i : Int) := by omega
        have hc := HS'.out (m - i) m j dk wr hds S1.out (by omega) (by omega)
        go_wp2_with (go_at_fn 43; refine hc.mono ?_; rintro e w' ⟨rfl, S2⟩)
        go_roundg (i - j + j)
        case measure => omega
        case rel =>
          have h := HEQ.out
          rw [rotL_gt _ _ hgt hj0] at h
          exact ⟨i - j, j, _, by rw [show (i : Int) - (j : Int) = ((i - j : Nat) : Int) by omega], rfl, by omega, hj0, by omega, hjm, Nat.le_refl _, (size_swR _ _ _ j 0 dk (by omega)).trans hds, S2, h⟩
      · have hgtz : ¬ (j : Int) < (i : Int) := by omega
        have hltz : (i : Int) ≤ (j : Int) := by omega
        have hc := HS'.out (m - i) (m + j - i) i dk wr hds S1.out (by omega) (by omega)
        rw [show ((m + j - i : Nat) : Int) = (m : Int) + (j : Int) - (i : Int) by omega] at hc
        go_wp2_with (go_at_fn 43; refine hc.mono ?_; rintro e w' ⟨rfl, S2⟩)
        go_roundg (i + (j - i))
        case measure => omega
        case rel =>
          have h := HEQ.out
          rw [rotL_lt _ _ (by omega) hi0] at h
          exact ⟨i, j - i, _, rfl, by rw [show (j : Int) - (i : Int) = ((j - i : Nat) : Int) by omega], hi0, by omega, him, by omega, Nat.le_refl _, (size_swR _ _ _ i 0 dk (by omega)).trans hds, S2, h⟩
end Go.Proofs.Ytooegndajfopkaa
