/- sort.Search, and search of package commit. No statement of the seat is proved here. -/
import Derived.Test.YtcljdkjlfciacaaPast2
import Derived.Shelf.Abstract
namespace Go.Proofs.Ytcljdkjlfciacaa
open Go.RowKit Go.Shelf
set_option linter.unusedVariables false

/-- where a search ends -/
def Least (p : Nat → Bool) (n r : Nat) : Prop := r ≤ n ∧ (∀ t, t < r → p t = false) ∧ ∀ t, r ≤ t → t < n → p t = true
def SrPost (p : Nat → Bool) (n : Nat) (w : World) (e : Ending) (w' : World) : Prop := ∃ r : Nat, e = .returned (.int .i64 r) ∧ Least p n r ∧ Ext w w'
set_option maxHeartbeats 4000000 in
set_option maxRecDepth 1000000 in
theorem sort_search (g : Nat) (cb : Array Value) (n : Nat) (p : Nat → Bool) (w : World) (eg : ∀ args w, (callFunc g args).run Try.prog w = .ok (.enter g args) w) (hsz : n < 4611686018427387904)
    (hf : ∀ (W : World), Ext w W → ∀ i : Nat, i < n → Calls Try.prog g (#[.int .i64 i] ++ cb) W (ExtPost W (.bool (p i))))
    (hmono : ∀ a b, a ≤ b → b < n → p a = true → p b = true) :
    Calls Try.prog 54 #[.int .i64 n, .func (.func g) #[] cb] w (SrPost p n w) := by
  have HF := Lib.hid hf
  have M := Lib.hid hmono
  clear hf hmono
  go_enter Try.func54, Try.ntmps54
  go_wp2
  go_loopg [5, 6] n (fun kx s5 s6 wr => ∃ (lo hi : Nat), s5 = .int .i64 lo ∧ s6 = .int .i64 hi ∧ lo ≤ hi ∧ hi ≤ n ∧ hi - lo ≤ kx ∧ Ext w wr ∧ Hid ((∀ t, t < lo → p t = false) ∧ (∀ t, hi ≤ t → t < n → p t = true)))
  case atStart => exact ⟨0, n, rfl, rfl, Nat.zero_le _, Nat.le_refl _, by omega, Ext.refl w, (⟨fun t ht => absurd ht (Nat.not_lt_zero _), fun t h1 h2 => by omega⟩ : (∀ t, t < 0 → p t = false) ∧ (∀ t, n ≤ t → t < n → p t = true))⟩
  case round =>
    obtain ⟨lo, hi, rfl, rfl, hlh, hin, hg, hE, I⟩ := hrel
    by_cases hlt : lo < hi
    · have hc := HF.out wr hE ((lo + hi) / 2) (by omega)
      rw [show (((lo + hi) / 2 : Nat) : Int) = ((lo : Int) + (hi : Int)) / 2 by omega] at hc
      cases hp : p ((lo + hi) / 2) <;> rw [hp] at hc
      · have HP := Lib.hid hp
        clear hp
        go_wp2_with (go_at_fn g; refine hc.mono ?_; rintro e w' ⟨rfl, hE'⟩)
        go_roundg (hi - ((lo + hi) / 2 + 1))
        case measure => omega
        case rel =>
          have I2 : Hid ((∀ t, t < (lo + hi) / 2 + 1 → p t = false) ∧ (∀ t, hi ≤ t → t < n → p t = true)) := ⟨fun t ht => (by
            cases h : p t with
            | false => rfl
            | true => have := M.out t ((lo + hi) / 2) (by omega) (by omega) h; rw [HP.out] at this; cases this), I.out.2⟩
          exact ⟨(lo + hi) / 2 + 1, hi, by rw [show ((lo : Int) + (hi : Int)) / 2 + 1 = (((lo + hi) / 2 + 1 : Nat) : Int) by omega], rfl, by omega, hin, Nat.le_refl _, Ext.trans hE hE', I2⟩
      · have HP := Lib.hid hp
        clear hp
        go_wp2_with (go_at_fn g; refine hc.mono ?_; rintro e w' ⟨rfl, hE'⟩)
        go_roundg ((lo + hi) / 2 - lo)
        case measure => omega
        case rel =>
          have I2 : Hid ((∀ t, t < lo → p t = false) ∧ (∀ t, (lo + hi) / 2 ≤ t → t < n → p t = true)) := ⟨I.out.1, fun t ht htn => M.out ((lo + hi) / 2) t ht htn HP.out⟩
          exact ⟨lo, (lo + hi) / 2, rfl, by rw [show ((lo : Int) + (hi : Int)) / 2 = (((lo + hi) / 2 : Nat) : Int) by omega], by omega, by omega, Nat.le_refl _, Ext.trans hE hE', I2⟩
    · obtain rfl : hi = lo := by omega
      go_wp2
      go_ret
      exact ⟨hi, rfl, ⟨hin, I.out.1, I.out.2⟩, hE⟩

set_option maxHeartbeats 800000 in
theorem element_any (A : Option Addr) (c : Nat) (l : List Int) (i : Nat) (w : World) (hs : IntSeg w A l) (hc : l.length ≤ c) (hm : c ≤ maxLen) :
    Calls Try.prog 38 #[.slice A l.length c, .int .i64 i] w (ExtPost w (.int .i64 (elX l i))) := by
  unfold maxLen at hm
  by_cases hi : i < l.length
  · obtain ⟨b, off, rfl, p0⟩ := Iv.at_ hs hi
    have HE := Lib.hid (elX_at hi)
    have d : decide ((i : Int) < (l.length : Int)) = true := decide_eq_true (by omega)
    have h0 : (0 : Int) ≤ (i : Int) := by omega
    have h1 : (i : Int) < (l.length : Int) := by omega
    generalize l[i] = x at *
    go_enter Try.func38, Try.ntmps38
    go_wp2_with fail
    go_ret
    exact ⟨by rw [HE.out]; rfl, Ext.refl w⟩
  · have HE : Hid (elX l i = 0) := by show _ = _; unfold elX; rw [List.getD_eq_getElem?_getD, List.getElem?_eq_none (by omega)]; rfl
    have d : decide ((i : Int) < (l.length : Int)) = false := decide_eq_false (by omega)
    go_enter Try.func38, Try.ntmps38
    go_wp2_with fail
    go_ret
    exact ⟨by rw [HE.out]; rfl, Ext.refl w⟩
set_option maxHeartbeats 800000 in
theorem elem_any (A : Option Addr) (c : Nat) (l : List Int) (i : Nat) (w : World) (hs : IntSeg w A l) (hc : l.length ≤ c) (hm : c ≤ maxLen) :
    Calls Try.prog 39 #[.slice A l.length c, .int .i64 i] w (ExtPost w (.int .i64 (elX l i))) := by
  unfold maxLen at hm
  by_cases hi : i < l.length
  · obtain ⟨b, off, rfl, p0⟩ := Iv.at_ hs hi
    have HE := Lib.hid (elX_at hi)
    have d : decide ((i : Int) < (l.length : Int)) = true := decide_eq_true (by omega)
    have h0 : (0 : Int) ≤ (i : Int) := by omega
    have h1 : (i : Int) < (l.length : Int) := by omega
    generalize l[i] = x at *
    go_enter Try.func39, Try.ntmps39
    go_wp2_with fail
    go_ret
    exact ⟨by rw [HE.out]; rfl, Ext.refl w⟩
  · have HE : Hid (elX l i = 0) := by show _ = _; unfold elX; rw [List.getD_eq_getElem?_getD, List.getElem?_eq_none (by omega)]; rfl
    have d : decide ((i : Int) < (l.length : Int)) = false := decide_eq_false (by omega)
    go_enter Try.func39, Try.ntmps39
    go_wp2_with fail
    go_ret
    exact ⟨by rw [HE.out]; rfl, Ext.refl w⟩
end Go.Proofs.Ytcljdkjlfciacaa
