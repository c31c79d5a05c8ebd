/- part, and what grows. No statement of the seat is proved here. -/
import Derived.Test.YthadaahemhamdaaRest2
import Derived.Test.YthadaahemhamdaaStock27
namespace Go.Proofs.Ythadaahemhamdaa
open Go.RowKit
set_option linter.unusedVariables false

theorem stock_lenG (l : List Dt) : (stockV l).length ≤ l.length := by
  have := cpt_len (sortD l)
  rw [sortD_len] at this
  exact this
theorem ckB_iff (ck : List Int) (k : Int) : ckB ck k = true ↔ k ∈ ck := by
  unfold ckB
  rw [List.any_eq_true]
  constructor
  · rintro ⟨x, hx, h⟩
    rw [← (beq_iff_eq.1 h)]; exact hx
  · exact fun h => ⟨k, h, by simp⟩
theorem good_mono {ck ck' : List Int} {st st' L : List Dt} (hc : ∀ k, k ∈ ck → k ∈ ck') (hs : ∀ d, d ∈ st → d ∈ st') : ∀ n, goodAt ck st L n = true → goodAt ck' st' L n = true
  | 0, h => by
    rw [goodAt] at h ⊢
    rw [ckB_iff] at h ⊢
    exact hc _ h
  | n + 1, h => by
    rw [goodAt] at h ⊢
    rw [Bool.or_eq_true] at h ⊢
    rcases h with h | h
    · left
      rw [ckB_iff] at h ⊢
      exact hc _ h
    · right
      rw [Bool.and_eq_true] at h ⊢
      refine ⟨good_mono hc hs n h.1, ?_⟩
      have h2 := h.2
      split at h2
      · rename_i d hd
        rw [hasB_iff] at h2
        rw [hasB_iff]
        exact hs _ h2
      · cases h2
theorem mem_restTo (ck : List Int) (st L : List Dt) (x : Int) : ∀ n, x ∈ restTo ck st L n ↔ ∃ k : Nat, k < n ∧ x = (k : Int) ∧ goodAt ck st L k = true
  | 0 => by simp [restTo]
  | n + 1 => by
    have ih := mem_restTo ck st L x n
    rw [restTo]
    split
    · rename_i hg
      rw [List.mem_append, ih, List.mem_singleton]
      constructor
      · rintro (⟨k, h1, h2⟩ | h)
        · exact ⟨k, by omega, h2⟩
        · exact ⟨n, by omega, h, hg⟩
      · rintro ⟨k, h1, h2, h3⟩
        by_cases e : k = n
        · subst e; exact .inr h2
        · exact .inl ⟨k, by omega, h2, h3⟩
    · rename_i hg
      rw [ih]
      constructor
      · rintro ⟨k, h1, h2⟩; exact ⟨k, by omega, h2⟩
      · rintro ⟨k, h1, h2, h3⟩
        by_cases e : k = n
        · subst e; exact absurd h3 hg
        · exact ⟨k, by omega, h2, h3⟩
theorem grow_all (p : Int) (es : List Ev) (ck : List Int) (st more : List Dt) (k : Int) (hk : 0 ≤ k ∧ k < (es.length : Int) + 1) :
    (∀ x ∈ restV p es ck st, x ∈ restV p es (ck ++ [k]) (stockV (st ++ more))) ∧ k ∈ restV p es (ck ++ [k]) (stockV (st ++ more)) := by
  unfold restV
  refine ⟨fun x hx => ?_, ?_⟩
  · rw [mem_restTo] at hx ⊢
    obtain ⟨q, h1, h2, h3⟩ := hx
    exact ⟨q, h1, h2, good_mono (fun y hy => List.mem_append_left _ hy) (fun d hd => (stock_mem _ d).2 (List.mem_append_left _ hd)) q h3⟩
  · rw [mem_restTo]
    refine ⟨k.toNat, by omega, by omega, ?_⟩
    have hc : ckB (ck ++ [k]) k = true := (ckB_iff _ _).2 (by simp)
    rcases hq : k.toNat with _ | q
    · rw [goodAt]
      rw [show (0 : Int) = k by omega]; exact hc
    · rw [goodAt, show ((q : Int) + 1) = k by omega, hc]; rfl
def PtO (w : World) (n : Nat) (g : Nat) (iv : Value) (wr : World) : Prop := ∃ j : Nat, j ≤ n ∧ iv = .int .i64 j ∧ g = n - j ∧ Ext w wr
def PtI (w : World) (b : List Int) (x : Int) (g : Nat) (fv jv : Value) (wr : World) : Prop := ∃ m : Nat, m ≤ b.length ∧ jv = .int .i64 m ∧ g = b.length - m ∧ Ext w wr ∧ fv = .bool (ckB (b.take m) x)
set_option maxRecDepth 100000 in
set_option maxHeartbeats 1600000 in
theorem part_all (A B : Option Addr) (ca cb : Nat) (a b : List Int) (w : World) (ha : IntSeg w A a) (hb : IntSeg w B b) (hla : a.length ≤ 1000) (hlb : b.length ≤ 1000) (hall : ∀ x ∈ a, x ∈ b) :
    Calls Try.prog 28 #[.slice A a.length ca, .slice B b.length cb] w (ExtPost w (.bool true)) := by
  have hla' : (a.length : Int) ≤ 1000 := by omega
  have hlb' : (b.length : Int) ≤ 1000 := by omega
  have HALL := Lib.hid hall
  clear hall
  go_enter Try.func28, Try.ntmps28
  go_wp2_with fail
  go_loopg [5] a.length (fun g iv wr => PtO w a.length g iv wr)
  case atStart => exact ⟨0, Nat.zero_le _, rfl, rfl, Ext.refl _⟩
  case round =>
    obtain ⟨i, hi, rfl, rfl, hE⟩ := hrel
    by_cases hil : i < a.length
    · have HM := Lib.hid (HALL.out a[i] (List.getElem_mem hil))
      obtain ⟨ba, oa, rfl, P0⟩ := Iv.at_ ha hil
      generalize a[i] = x at *
      have HP0 := Lib.hid P0
      clear P0
      have hi0 : (0 : Int) ≤ (i : Int) := by omega
      have hi1 : (i : Int) < (a.length : Int) := by omega
      go_wp2_with fail
      go_loopg [6, 7] b.length (fun g fv jv wr => PtI w b x g fv jv wr)
      case atStart => exact ⟨0, Nat.zero_le _, rfl, rfl, hE, rfl⟩
      case round =>
        clear hE
        obtain ⟨m, hm, rfl, rfl, hE, rfl⟩ := hrel
        by_cases hml : m < b.length
        · have HT := Lib.hid (ckB_take b x m hml)
          have p0 : wr.cell? ⟨ba, oa + i, none⟩ = some (.int .i64 x) := (hE.cell (World.block_lt_of_cell? w _ HP0.out)).trans HP0.out
          obtain ⟨bb, ob, rfl, p1⟩ := Iv.at_ (hb.ext hE) hml
          generalize b[m] = y at *
          have hm0 : (0 : Int) ≤ (m : Int) := by omega
          have hm1 : (m : Int) < (b.length : Int) := by omega
          obtain ⟨f, hf⟩ : ∃ f, ckB (b.take m) x = f := ⟨_, rfl⟩
          rw [hf] at HT ⊢
          clear hf
          rcases f with _ | _
          · by_cases hxy : x = y
            · have h1 : (x == y) = true := by simp [hxy]
              have h2 : (y == x) = true := by simp [hxy]
              rw [h2] at HT
              clear hxy h2
              go_wp2_with fail
              go_quiet (fail)
              go_wp2_with fail
              go_roundg (b.length - (m + 1))
              case measure => omega
              case rel => exact ⟨m + 1, by omega, by go_num, rfl, hE.drewN _, by rw [HT.out]; rfl⟩
            · have h1 : (x == y) = false := by simp [hxy]
              have h2 : (y == x) = false := by simp [Ne.symm hxy]
              rw [h2] at HT
              clear hxy h2
              go_wp2_with fail
              go_quiet (fail)
              go_wp2_with fail
              go_roundg (b.length - (m + 1))
              case measure => omega
              case rel => exact ⟨m + 1, by omega, by go_num, rfl, hE.drewN _, by rw [HT.out]; rfl⟩
          · go_wp2_with fail
            go_quiet (fail)
            go_wp2_with fail
            go_roundg (b.length - (m + 1))
            case measure => omega
            case rel => exact ⟨m + 1, by omega, by go_num, rfl, hE.drewN _, by rw [HT.out]; rfl⟩
        · obtain rfl : m = b.length := by omega
          rw [List.take_length, (ckB_iff b x).2 HM.out]
          go_wp2_with fail
          go_roundg (a.length - (i + 1))
          case measure => omega
          case rel => exact ⟨i + 1, by omega, by go_num, rfl, hE⟩
    · go_wp2_with fail
      go_ret
      exact ⟨rfl, hE⟩
end Go.Proofs.Ythadaahemhamdaa
