/- What the library's stable sort does to an array: exchange of ranges, rotation, binary search, the symmetric merge. No statement of the seat is proved here. -/
import Derived.Shelf.SlSortCmp.NoneTotal
import Derived.Test.YtooegndajfopkaaProg
namespace Go.Proofs.Ytooegndajfopkaa
open Go.RowKit Go.Shelf Go.Lib Go.Sort
set_option linter.unusedVariables false

section
variable {α : Type} [Inhabited α]
/-- exchanges n elements from a + i on with those from b + i on -/
def swR (d : Array α) (a b i n : Nat) : Array α := if i < n then swR (swp d (a + i) (b + i)) a b (i + 1) n else d
termination_by n - i
theorem swR_go (d : Array α) (a b : Nat) {i n : Nat} (h : i < n) : swR d a b i n = swR (swp d (a + i) (b + i)) a b (i + 1) n := by
  rw [swR, if_pos h]
theorem swR_end (d : Array α) (a b : Nat) {i n : Nat} (h : ¬ i < n) : swR d a b i n = d := by
  rw [swR, if_neg h]
theorem size_swR (a b n : Nat) : ∀ (m i : Nat) (d : Array α), n - i ≤ m → (swR d a b i n).size = d.size := by
  intro m
  induction m with
  | zero => intro i d h; rw [swR_end d a b (by omega)]
  | succ m ih =>
    intro i d h
    by_cases hi : i < n
    · rw [swR_go d a b hi, ih (i + 1) _ (by omega), size_swp]
    · rw [swR_end d a b hi]
/-- the rotation: m - i is where the first block begins, i and j are the blocks' lengths -/
def rotL (d : Array α) (m i j : Nat) : Array α :=
  if h : i ≠ j ∧ 0 < i ∧ 0 < j then
    if j < i then rotL (swR d (m - i) m 0 j) m (i - j) j else rotL (swR d (m - i) (m + j - i) 0 i) m i (j - i)
  else swR d (m - i) m 0 i
termination_by i + j
theorem rotL_eq (d : Array α) (m i : Nat) : rotL d m i i = swR d (m - i) m 0 i := by
  rw [rotL, dif_neg (by omega)]
theorem rotL_gt (d : Array α) (m : Nat) {i j : Nat} (h : j < i) (hj : 0 < j) : rotL d m i j = rotL (swR d (m - i) m 0 j) m (i - j) j := by
  rw [rotL, dif_pos (by omega), if_pos h]
theorem rotL_lt (d : Array α) (m : Nat) {i j : Nat} (h : i < j) (hi : 0 < i) : rotL d m i j = rotL (swR d (m - i) (m + j - i) 0 i) m i (j - i) := by
  rw [rotL, dif_pos (by omega), if_neg (by omega)]
theorem size_rotL : ∀ (n : Nat) (d : Array α) (m i j : Nat), i + j ≤ n → (rotL d m i j).size = d.size := by
  intro n
  induction n with
  | zero =>
    intro d m i j h
    rw [rotL, dif_neg (by omega), size_swR _ _ _ i 0 d (by omega)]
  | succ n ih =>
    intro d m i j h
    by_cases hc : i ≠ j ∧ 0 < i ∧ 0 < j
    · by_cases hj : j < i
      · rw [rotL_gt d m hj hc.2.2, ih _ _ _ _ (by omega), size_swR _ _ _ j 0 d (by omega)]
      · rw [rotL_lt d m (by omega) hc.2.1, ih _ _ _ _ (by omega), size_swR _ _ _ i 0 d (by omega)]
    · rw [rotL, dif_neg hc, size_swR _ _ _ i 0 d (by omega)]
/-- the first place from i on where p fails, by halves -/
def bsr (p : Nat → Bool) (i j : Nat) : Nat := if i < j then (if p ((i + j) / 2) then bsr p ((i + j) / 2 + 1) j else bsr p i ((i + j) / 2)) else i
termination_by j - i
theorem bsr_up (p : Nat → Bool) {i j : Nat} (h : i < j) (hp : p ((i + j) / 2) = true) : bsr p i j = bsr p ((i + j) / 2 + 1) j := by
  rw [bsr, if_pos h, if_pos hp]
theorem bsr_dn (p : Nat → Bool) {i j : Nat} (h : i < j) (hp : p ((i + j) / 2) = false) : bsr p i j = bsr p i ((i + j) / 2) := by
  rw [bsr, if_pos h, if_neg (by rw [hp]; decide)]
theorem bsr_end (p : Nat → Bool) {i j : Nat} (h : ¬ i < j) : bsr p i j = i := by
  rw [bsr, if_neg h]
theorem bsr_in (p : Nat → Bool) : ∀ (n i j : Nat), j - i ≤ n → i ≤ j → i ≤ bsr p i j ∧ bsr p i j ≤ j := by
  intro n
  induction n with
  | zero => intro i j h hij; rw [bsr_end p (by omega)]; omega
  | succ n ih =>
    intro i j h hij
    by_cases hlt : i < j
    · cases hp : p ((i + j) / 2) with
      | true => rw [bsr_up p hlt hp]; have := ih ((i + j) / 2 + 1) j (by omega) (by omega); omega
      | false => rw [bsr_dn p hlt hp]; have := ih i ((i + j) / 2) (by omega) (by omega); omega
    · rw [bsr_end p hlt]; omega
/-- the element at k goes up to e -/
def upS (d : Array α) (k e : Nat) : Array α := if k < e then upS (swp d k (k + 1)) (k + 1) e else d
termination_by e - k
theorem upS_go (d : Array α) {k e : Nat} (h : k < e) : upS d k e = upS (swp d k (k + 1)) (k + 1) e := by rw [upS, if_pos h]
theorem upS_end (d : Array α) {k e : Nat} (h : ¬ k < e) : upS d k e = d := by rw [upS, if_neg h]
theorem size_upS (e : Nat) : ∀ (n k : Nat) (d : Array α), e - k ≤ n → (upS d k e).size = d.size := by
  intro n
  induction n with
  | zero => intro k d h; rw [upS_end d (by omega)]
  | succ n ih =>
    intro k d h
    by_cases hk : k < e
    · rw [upS_go d hk, ih _ _ (by omega), size_swp]
    · rw [upS_end d hk]
/-- the element at k goes down to e -/
def dnS (d : Array α) (k e : Nat) : Array α := if e < k then dnS (swp d k (k - 1)) (k - 1) e else d
termination_by k
theorem dnS_go (d : Array α) {k e : Nat} (h : e < k) : dnS d k e = dnS (swp d k (k - 1)) (k - 1) e := by rw [dnS, if_pos h]
theorem dnS_end (d : Array α) {k e : Nat} (h : ¬ e < k) : dnS d k e = d := by rw [dnS, if_neg h]
theorem size_dnS (e : Nat) : ∀ (n k : Nat) (d : Array α), k ≤ n → (dnS d k e).size = d.size := by
  intro n
  induction n with
  | zero => intro k d h; rw [dnS_end d (by omega)]
  | succ n ih =>
    intro k d h
    by_cases hk : e < k
    · rw [dnS_go d hk, ih _ _ (by omega), size_swp]
    · rw [dnS_end d hk]
/-- where the symmetric merge cuts -/
def symS (lt : α → α → Bool) (d : Array α) (a m b : Nat) : Nat :=
  if (a + b) / 2 < m then bsr (fun c => !lt d[(a + b) / 2 + m - 1 - c]! d[c]!) ((a + b) / 2 + m - b) ((a + b) / 2)
  else bsr (fun c => !lt d[(a + b) / 2 + m - 1 - c]! d[c]!) a m
/-- the symmetric merge -/
def symm (lt : α → α → Bool) : Nat → Array α → Nat → Nat → Nat → Array α
  | 0, d, _, _, _ => d
  | f + 1, d, a, m, b =>
    if m - a = 1 then upS d a (bsr (fun h => lt d[h]! d[a]!) m b - 1)
    else if b - m = 1 then dnS d m (bsr (fun h => !lt d[m]! d[h]!) a m)
    else
      let s := symS lt d a m b
      let e := (a + b) / 2 + m - s
      let d1 := if s < m ∧ m < e then rotL d m (m - s) (e - m) else d
      let d2 := if a < s ∧ s < (a + b) / 2 then symm lt f d1 a s ((a + b) / 2) else d1
      if (a + b) / 2 < e ∧ e < b then symm lt f d2 ((a + b) / 2) e b else d2
theorem size_symm (lt : α → α → Bool) : ∀ (f : Nat) (d : Array α) (a m b : Nat), (symm lt f d a m b).size = d.size := by
  intro f
  induction f with
  | zero => intro d a m b; rfl
  | succ f ih =>
    intro d a m b
    unfold symm
    split
    · exact size_upS _ _ _ _ (Nat.le_refl _)
    · split
      · exact size_dnS _ _ _ _ (Nat.le_refl _)
      · dsimp only
        have h1 : (if symS lt d a m b < m ∧ m < (a + b) / 2 + m - symS lt d a m b then rotL d m (m - symS lt d a m b) ((a + b) / 2 + m - symS lt d a m b - m) else d).size = d.size := by
          split
          · exact size_rotL _ _ _ _ _ (Nat.le_refl _)
          · rfl
        split
        · rw [ih]; split
          · rw [ih, h1]
          · exact h1
        · split
          · rw [ih, h1]
          · exact h1
end

/-- what the family's walks ask of the program: the bodies and the types that they name -/
structure LayR (P : Program) (k : Nat) : Prop where
  mixed : P.follows .mixedOrders = true
  fSym : P.funcs[41]? = some Try.f41
  fRot : P.funcs[42]? = some Try.f42
  fSwr : P.funcs[43]? = some Try.f43
  t0 : P.underlying 0 = some (TypeDesc.tuple #[])
  a0 : ∀ w, (isAgg 0).run P w = .ok false w
  z0 : ∀ w, (Go.sizeOf 0).run P w = .ok 1 w
  v0 : ∀ w, (zeroValue 0).run P w = .ok (Value.tuple #[]) w
  t3 : P.underlying 3 = some (TypeDesc.int IntKind.i64)
  a3 : ∀ w, (isAgg 3).run P w = .ok false w
  z3 : ∀ w, (Go.sizeOf 3).run P w = .ok 1 w
  v3 : ∀ w, (zeroValue 3).run P w = .ok (Value.int IntKind.i64 0) w
  t4 : P.underlying 4 = some (TypeDesc.bool)
  a4 : ∀ w, (isAgg 4).run P w = .ok false w
  z4 : ∀ w, (Go.sizeOf 4).run P w = .ok 1 w
  v4 : ∀ w, (zeroValue 4).run P w = .ok (Value.bool false) w
  t26 : P.underlying 47 = some (TypeDesc.slice 54)
  a26 : ∀ w, (isAgg 47).run P w = .ok false w
  z26 : ∀ w, (Go.sizeOf 47).run P w = .ok 1 w
  v26 : ∀ w, (zeroValue 47).run P w = .ok (Value.slice none 0 0) w
  t53 : P.underlying 64 = some (TypeDesc.func #[54, 54] #[3] false)
  a53 : ∀ w, (isAgg 64).run P w = .ok false w
  z53 : ∀ w, (Go.sizeOf 64).run P w = .ok 1 w
  v53 : ∀ w, (zeroValue 64).run P w = .ok (Value.nilFunc) w
  t67 : P.underlying 75 = some (TypeDesc.int IntKind.u64)
  a67 : ∀ w, (isAgg 75).run P w = .ok false w
  z67 : ∀ w, (Go.sizeOf 75).run P w = .ok 1 w
  v67 : ∀ w, (zeroValue 75).run P w = .ok (Value.int IntKind.u64 0) w
  aE : ∀ w, (isAgg 54).run P w = .ok true w
  zE : ∀ w, (Go.sizeOf 54).run P w = .ok k w
theorem layR : LayR Try.prog 3 where
  mixed := by kernel_rfl
  fSym := Try.func41
  fRot := Try.func42
  fSwr := Try.func43
  t0 := Try.underlying0
  a0 := Try.isAgg0
  z0 := Try.sizeOf0
  v0 := Try.zeroValue0
  t3 := Try.underlying3
  a3 := Try.isAgg3
  z3 := Try.sizeOf3
  v3 := Try.zeroValue3
  t4 := Try.underlying4
  a4 := Try.isAgg4
  z4 := Try.sizeOf4
  v4 := Try.zeroValue4
  t26 := Try.underlying47
  a26 := Try.isAgg47
  z26 := Try.sizeOf47
  v26 := Try.zeroValue47
  t53 := Try.underlying64
  a53 := Try.isAgg64
  z53 := Try.sizeOf64
  v53 := Try.zeroValue64
  t67 := Try.underlying75
  a67 := Try.isAgg75
  z67 := Try.sizeOf75
  v67 := Try.zeroValue75
  aE := fun w => by simp [isAgg, run_underlying, Try.underlying54]
  zE := fun w => by
    obtain ⟨i0, hi, hz0, hz1, hz2⟩ := info_parts (show (Try.prog.info? 54).map (fun i => (i.zero, i.size, i.bytes)) = some (some (.agg #[.int .i64 0, .int .i64 0, .int .i64 0]), 3, 24) by kernel_rfl)
    simp [Go.sizeOf, typeInfo, hi, hz1]
end Go.Proofs.Ytooegndajfopkaa
