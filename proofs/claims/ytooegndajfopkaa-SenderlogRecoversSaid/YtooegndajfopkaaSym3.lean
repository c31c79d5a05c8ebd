/- The library's stable sort at receipts. No statement of the seat is proved here. -/
import Derived.Test.YtooegndajfopkaaSym2
import Derived.Test.YtooegndajfopkaaRcCmp
namespace Go.Proofs
open Go.Shelf
def Try.insR_ren : Go.Shelf.Ren := ⟨fun | 20 => 40 | n => n, fun | 22 => 47 | 24 => 54 | 25 => 64 | 3 => 3 | 4 => 4 | 0 => 0 | n => n, fun | n => n⟩
theorem Try.insR : Go.Proofs.SlLaysF0.n20 Try.prog Try.insR_ren := {
  mixed := by kernel_rfl
  f20 := ⟨Try.f40.name, by decide, Try.func40.trans (congrArg some (by kernel_rfl))⟩
  t0 := Try.underlying0
  a0 := Try.isAgg0
  z0 := Try.sizeOf0
  v0 := Try.zeroValue0
  t3 := Try.underlying3
  a3 := Try.isAgg3
  z3 := Try.sizeOf3
  v3 := Try.zeroValue3
  t4 := Try.underlying4
  a4 := Try.isAgg4
  z4 := Try.sizeOf4
  v4 := Try.zeroValue4
  t22 := Try.underlying47
  a22 := Try.isAgg47
  z22 := Try.sizeOf47
  v22 := Try.zeroValue47
  t25 := Try.underlying64
  a25 := Try.isAgg64
  z25 := Try.sizeOf64
  v25 := Try.zeroValue64 }
end Go.Proofs
namespace Go.Proofs.Ytooegndajfopkaa
open Go.RowKit Go.Shelf Go.Lib Go.Sort
set_option linter.unusedVariables false
set_option maxRecDepth 100000

section
variable {α : Type} [Inhabited α]
/-- blocks of 20, sorted by insertion, from a on -/
def insB (lt : α → α → Bool) (d : Array α) (a n : Nat) : Array α := if a + 20 ≤ n then insB lt (insertionSort lt d a (a + 20)) (a + 20) n else insertionSort lt d a n
termination_by n - a
theorem insB_go (lt : α → α → Bool) (d : Array α) {a n : Nat} (h : a + 20 ≤ n) : insB lt d a n = insB lt (insertionSort lt d a (a + 20)) (a + 20) n := by rw [insB, if_pos h]
theorem insB_end (lt : α → α → Bool) (d : Array α) {a n : Nat} (h : ¬ a + 20 ≤ n) : insB lt d a n = insertionSort lt d a n := by rw [insB, if_neg h]
/-- one pass of merges of blocks of the size s, from a on -/
def mrgP (lt : α → α → Bool) (s n : Nat) (d : Array α) (a : Nat) : Array α :=
  if h : 0 < s ∧ a + 2 * s ≤ n then mrgP lt s n (symm lt n d a (a + s) (a + 2 * s)) (a + 2 * s) else if a + s < n then symm lt n d a (a + s) n else d
termination_by n - a
theorem mrgP_go (lt : α → α → Bool) (s n : Nat) (d : Array α) (a : Nat) (hs : 0 < s) (h : a + 2 * s ≤ n) : mrgP lt s n d a = mrgP lt s n (symm lt n d a (a + s) (a + 2 * s)) (a + 2 * s) := by
  rw [mrgP, dif_pos ⟨hs, h⟩]
theorem mrgP_one (lt : α → α → Bool) (s n : Nat) (d : Array α) (a : Nat) (h : ¬ a + 2 * s ≤ n) (h2 : a + s < n) : mrgP lt s n d a = symm lt n d a (a + s) n := by
  rw [mrgP, dif_neg (by omega), if_pos h2]
theorem mrgP_end (lt : α → α → Bool) (s n : Nat) (d : Array α) (a : Nat) (h : ¬ a + 2 * s ≤ n) (h2 : ¬ a + s < n) : mrgP lt s n d a = d := by
  rw [mrgP, dif_neg (by omega), if_neg h2]
theorem size_mrgP (lt : α → α → Bool) (s n : Nat) : ∀ (m a : Nat) (d : Array α), n - a ≤ m → (mrgP lt s n d a).size = d.size := by
  intro m
  induction m with
  | zero =>
    intro a d h
    rw [mrgP]
    by_cases h1 : 0 < s ∧ a + 2 * s ≤ n
    · omega
    · rw [dif_neg h1]; split
      · exact size_symm _ _ _ _ _ _
      · rfl
  | succ m ih =>
    intro a d h
    rw [mrgP]
    by_cases h1 : 0 < s ∧ a + 2 * s ≤ n
    · rw [dif_pos h1, ih _ _ (by omega), size_symm]
    · rw [dif_neg h1]; split
      · exact size_symm _ _ _ _ _ _
      · rfl
/-- all passes -/
def mrgA (lt : α → α → Bool) (s n : Nat) (d : Array α) : Array α := if h : 0 < s ∧ s < n then mrgA lt (s * 2) n (mrgP lt s n d 0) else d
termination_by n - s
theorem mrgA_go (lt : α → α → Bool) (s n : Nat) (d : Array α) (hs : 0 < s) (h : s < n) : mrgA lt s n d = mrgA lt (s * 2) n (mrgP lt s n d 0) := by rw [mrgA, dif_pos ⟨hs, h⟩]
theorem mrgA_end (lt : α → α → Bool) (s n : Nat) (d : Array α) (h : ¬ s < n) : mrgA lt s n d = d := by rw [mrgA, dif_neg (by omega)]
end

theorem rowR {w0 : World} {blk off : Nat} {d0 : Array Rc} (hH : HoldsK Rc.cells 3 w0 blk off d0) (hb : blk < w0.heap.size) : RowK Rc.cells 3 w0 blk off d0 := ⟨Rc.len, Rc.one, hH, hb⟩
theorem egR (args : Array Value) (w : World) : (callFunc 33 args).run Try.prog w = .ok (.enter 33 args) w := enters_of Try.func33 (by kernel_rfl) rfl args w
abbrev Srt (w0 : World) (blk off : Nat) (d : Array Rc) (W : World) : Prop := SWK Rc.cells 3 w0 blk off d W
theorem ins_r {w0 : World} {blk off : Nat} {d0 : Array Rc} (R : RowK Rc.cells 3 w0 blk off d0) (cap a b : Nat) (d : Array Rc) (w : World) (hs : d0.size = d.size) (S : Srt w0 blk off d w) (hab : a ≤ b) (hb : b ≤ d.size) (hsz : d.size < 4611686018427387904) :
    Calls Try.prog 40 #[.slice (some ⟨blk, off, none⟩) d.size cap, .int .i64 a, .int .i64 b, .func (.func 33) #[] #[]] w fun e w' => e = .returned (.tuple #[]) ∧ Srt w0 blk off (insertionSort (ltOf cmpRc) d a b) w' :=
  AnyQ.insertionSortCmpFunc_w Try.insR 3 layR.aE layR.zE Rc.cells cmpRc 33 #[] blk off cap a b d0 d w0 w egR (cmpLaysR _ _ _ _) R hs S swoR hab hb hsz
theorem symm_r {w0 : World} {blk off : Nat} {d0 : Array Rc} (R : RowK Rc.cells 3 w0 blk off d0) (cap f a m b : Nat) (d : Array Rc) (w : World) (hs : d0.size = d.size) (S : Srt w0 blk off d w) (hf : b - a ≤ f) (ham : a < m) (hmb : m < b) (hb : b ≤ d.size) (hsz : d.size < 4611686018427387904) :
    Calls Try.prog 41 #[.slice (some ⟨blk, off, none⟩) d.size cap, .int .i64 a, .int .i64 m, .int .i64 b, .func (.func 33) #[] #[]] w fun e w' => e = .returned (.tuple #[]) ∧ Srt w0 blk off (symm (ltOf cmpRc) f d a m b) w' :=
  symm_w layR Rc.cells cmpRc 33 #[] blk off cap d0 w0 egR (cmpLaysR _ _ _ _) R (by omega) f a m b d w hf hs S ham hmb hb
theorem size_ins (d : Array Rc) {a b : Nat} (hab : a ≤ b) (hb : b ≤ d.size) : (insertionSort (ltOf cmpRc) d a b).size = d.size := (insertionSort_holds swoR d a b hab hb).1.1
theorem size_insB : ∀ (m a n : Nat) (d : Array Rc), n - a ≤ m → a ≤ n → n ≤ d.size → (insB (ltOf cmpRc) d a n).size = d.size := by
  intro m
  induction m with
  | zero =>
    intro a n d h1 h2 h3
    rw [insB_end _ _ (by omega), size_ins d h2 h3]
  | succ m ih =>
    intro a n d h1 h2 h3
    by_cases h : a + 20 ≤ n
    · rw [insB_go _ _ h, ih _ _ _ (by omega) h (by rw [size_ins d (by omega) (by omega)]; exact h3), size_ins d (by omega) (by omega)]
    · rw [insB_end _ _ h, size_ins d h2 h3]

set_option maxHeartbeats 8000000 in
set_option maxRecDepth 1000000 in
theorem stableCmp_r {w0 : World} {blk off : Nat} {d : Array Rc} (R : RowK Rc.cells 3 w0 blk off d) (cap : Nat) (hsz : d.size < 1000000) :
    Calls Try.prog 38 #[.slice (some ⟨blk, off, none⟩) d.size cap, .int .i64 d.size, .func (.func 33) #[] #[]] w0 fun e w' => e = .returned (.tuple #[]) ∧ Srt w0 blk off (mrgA (ltOf cmpRc) 20 d.size (insB (ltOf cmpRc) d 0 d.size)) w' := by
  have S0 : Aside (Srt w0 blk off d w0) := SWK.start R.hH
  have RA : Aside _ := R
  have HI : Aside (∀ (a b : Nat) (dk : Array Rc) (w : World), dk.size = d.size → Srt w0 blk off dk w → a ≤ b → b ≤ d.size → Calls Try.prog 40 #[.slice (some ⟨blk, off, none⟩) d.size cap, .int .i64 a, .int .i64 b, .func (.func 33) #[] #[]] w fun e w' => e = .returned (.tuple #[]) ∧ Srt w0 blk off (insertionSort (ltOf cmpRc) dk a b) w') := fun a b dk w h1 h2 h3 h4 => by
    rw [← h1]
    exact ins_r R cap a b dk w h1.symm h2 h3 (by omega) (by omega)
  have HM : Aside (∀ (a m b : Nat) (dk : Array Rc) (w : World), dk.size = d.size → Srt w0 blk off dk w → a < m → m < b → b ≤ d.size → Calls Try.prog 41 #[.slice (some ⟨blk, off, none⟩) d.size cap, .int .i64 a, .int .i64 m, .int .i64 b, .func (.func 33) #[] #[]] w fun e w' => e = .returned (.tuple #[]) ∧ Srt w0 blk off (symm (ltOf cmpRc) d.size dk a m b) w') := fun a m b dk w h1 h2 h3 h4 h5 => by
    have h := symm_r R cap d.size a m b dk w h1.symm h2 (by omega) h3 h4 (by omega) (by omega)
    rw [h1] at h
    exact h
  have hsz' : (d.size : Int) < 1000000 := by omega
  clear R
  have hz : (insB (ltOf cmpRc) d 0 d.size).size = d.size := size_insB _ 0 _ d (Nat.le_refl _) (Nat.zero_le _) (Nat.le_refl _)
  obtain ⟨D, hD⟩ : ∃ D, D = insB (ltOf cmpRc) d 0 d.size := ⟨_, rfl⟩
  rw [← hD] at hz ⊢
  have HD : Hid _ := hD
  have HZ : Hid _ := hz
  clear hD hz
  go_enter Try.func38, Try.ntmps38
  go_wp2_with fail
  go_loopg [7, 8] d.size (fun kx s7 s8 wr => ∃ (a : Nat) (dk : Array Rc), s7 = .int .i64 a ∧ s8 = .int .i64 ((a + 20 : Nat) : Int) ∧ a ≤ d.size ∧ d.size - a ≤ kx ∧ dk.size = d.size ∧ Aside (Srt w0 blk off dk wr) ∧ Hid (insB (ltOf cmpRc) dk a d.size = D))
  case atStart => exact ⟨0, d, rfl, rfl, Nat.zero_le _, Nat.sub_le _ _, rfl, S0, HD.out.symm⟩
  case round =>
    clear S0
    obtain ⟨a, dk, rfl, rfl, han, hkx, hds, S1, HQ⟩ := hrel
    have e20 : ((a + 20 : Nat) : Int) = (a : Int) + 20 := by omega
    by_cases hlt : a + 20 ≤ d.size
    · have hltz : (a : Int) + 20 ≤ (d.size : Int) := by omega
      have hc := HI.out a (a + 20) dk wr hds S1.out (by omega) hlt
      rw [e20] at hc ⊢
      go_wp2_with fail
      refine hc.mono ?_
      rintro e w' ⟨rfl, S2⟩
      go_wp2_with fail
      go_roundg (d.size - (a + 20))
      case measure => omega
      case rel =>
        have h := HQ.out
        rw [insB_go _ _ hlt] at h
        exact ⟨a + 20, _, by rw [e20], by first | rfl | (congr 1; omega), hlt, Nat.le_refl _, (size_ins dk (by omega) (by omega)).trans hds, S2, h⟩
    · have hltz : ¬ (a : Int) + 20 ≤ (d.size : Int) := by omega
      have hc := HI.out a d.size dk wr hds S1.out han (Nat.le_refl _)
      have h := HQ.out
      rw [insB_end _ _ hlt] at h
      rw [h] at hc
      rw [e20]
      clear h HQ S1
      go_wp2_with fail
      refine hc.mono ?_
      rintro e w' ⟨rfl, S2'⟩
      go_wp2_with fail
      have S2 : Aside _ := S2'
      clear S2' hc hltz hlt e20 hkx hds
      go_loopg [6] d.size (fun kx s6 wr => ∃ (s : Nat) (dk : Array Rc), s6 = .int .i64 s ∧ 0 < s ∧ s < 3000000 ∧ d.size - s ≤ kx ∧ dk.size = d.size ∧ Aside (Srt w0 blk off dk wr) ∧ Hid (mrgA (ltOf cmpRc) s d.size dk = mrgA (ltOf cmpRc) 20 d.size D))
      case atStart => exact ⟨20, D, rfl, by omega, by omega, Nat.sub_le _ _, HZ.out, S2, rfl⟩
      case round =>
        clear S2
        obtain ⟨s, dk, rfl, hs0, hsb, hkx, hds, S1, HQ⟩ := hrel
        by_cases hlt : s < d.size
        · have hltz : (s : Int) < (d.size : Int) := by omega
          have hA : Hid (mrgA (ltOf cmpRc) (s * 2) d.size (mrgP (ltOf cmpRc) s d.size dk 0) = mrgA (ltOf cmpRc) 20 d.size D) := by
            have h := HQ.out
            rw [mrgA_go _ _ _ _ hs0 hlt] at h
            exact h
          have hPz : Hid ((mrgP (ltOf cmpRc) s d.size dk 0).size = d.size) := by
            show _ = _
            rw [size_mrgP _ _ _ _ _ _ (Nat.le_refl _)]; exact hds
          clear HQ
          obtain ⟨P, hP⟩ : ∃ P, P = mrgP (ltOf cmpRc) s d.size dk 0 := ⟨_, rfl⟩
          rw [← hP] at hA hPz
          have HP : Hid _ := hP
          clear hP
          go_wp2_with fail
          go_loopg [7, 8] d.size (fun kx s7 s8 wr => ∃ (a : Nat) (dj : Array Rc), s7 = .int .i64 a ∧ s8 = .int .i64 ((a + 2 * s : Nat) : Int) ∧ a ≤ d.size ∧ d.size - a ≤ kx ∧ dj.size = d.size ∧ Aside (Srt w0 blk off dj wr) ∧ Hid (P = mrgP (ltOf cmpRc) s d.size dj a))
          case atStart => exact ⟨0, dk, rfl, by first | rfl | (congr 1; omega), Nat.zero_le _, Nat.sub_le _ _, hds, S1, HP⟩
          case round =>
            clear S1 HP
            obtain ⟨a, dj, rfl, rfl, han, hkx2, hdj, S3, HQ⟩ := hrel
            have e2 : ((a + 2 * s : Nat) : Int) = (a : Int) + 2 * (s : Int) := by omega
            by_cases hl2 : a + 2 * s ≤ d.size
            · have hl2z : (a : Int) + 2 * (s : Int) ≤ (d.size : Int) := by omega
              have hc := HM.out a (a + s) (a + 2 * s) dj wr hdj S3.out (by omega) (by omega) hl2
              rw [e2, show ((a + s : Nat) : Int) = (a : Int) + (s : Int) by omega] at hc
              rw [e2]
              go_wp2_with fail
              refine hc.mono ?_
              rintro e w' ⟨rfl, S4⟩
              go_wp2_with fail
              go_roundg (d.size - (a + 2 * s))
              case measure => omega
              case rel =>
                have h := HQ.out
                rw [mrgP_go _ _ _ _ _ hs0 hl2] at h
                exact ⟨a + 2 * s, _, by rw [e2], by first | rfl | (congr 1; omega), hl2, Nat.le_refl _, (size_symm _ _ _ _ _ _).trans hdj, S4, h⟩
            · have hl2z : ¬ (a : Int) + 2 * (s : Int) ≤ (d.size : Int) := by omega
              rw [e2]
              by_cases hl3 : a + s < d.size
              · have hl3z : (a : Int) + (s : Int) < (d.size : Int) := by omega
                have hc := HM.out a (a + s) d.size dj wr hdj S3.out (by omega) hl3 (Nat.le_refl _)
                rw [show ((a + s : Nat) : Int) = (a : Int) + (s : Int) by omega] at hc
                have h := HQ.out
                rw [mrgP_one _ _ _ _ _ hl2 hl3] at h
                rw [← h] at hc
                clear h
                go_wp2_with fail
                refine hc.mono ?_
                rintro e w' ⟨rfl, S4⟩
                go_wp2_with fail
                go_roundg (d.size - s * 2)
                case measure => omega
                case rel => exact ⟨s * 2, P, by first | rfl | (congr 1; omega), by omega, by omega, Nat.le_refl _, hPz.out, S4, hA⟩
              · have hl3z : ¬ (a : Int) + (s : Int) < (d.size : Int) := by omega
                have h := HQ.out
                rw [mrgP_end _ _ _ _ _ hl2 hl3] at h
                have S4 := S3.out
                rw [← h] at S4
                have S5 : Aside _ := S4
                clear h S4 S3
                go_wp2_with fail
                go_roundg (d.size - s * 2)
                case measure => omega
                case rel => exact ⟨s * 2, P, by first | rfl | (congr 1; omega), by omega, by omega, Nat.le_refl _, hPz.out, S5, hA⟩
        · have hltz : ¬ (s : Int) < (d.size : Int) := by omega
          have h := HQ.out
          rw [mrgA_end _ _ _ _ hlt] at h
          have S3 := S1.out
          rw [h] at S3
          have S4 : Aside _ := S3
          clear h S3 S1 HQ
          go_wp2_with fail
          go_end0
          exact ⟨rfl, S4.out⟩
end Go.Proofs.Ytooegndajfopkaa
