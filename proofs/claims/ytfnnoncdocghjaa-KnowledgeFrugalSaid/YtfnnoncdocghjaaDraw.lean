/- draw of chapter 28. No statement of the seat is proved here. -/
import Derived.Test.YtfnnoncdocghjaaActs
namespace Go.Proofs.Ytfnnoncdocghjaa
open Go.RowKit
set_option linter.unusedVariables false
set_option maxRecDepth 100000

def DrawPost (w : World) (e : Ending) (w' : World) : Prop := ∃ (N f : Nat) (A : Option Addr) (c : Nat) (l : List Av), e = .returned (.tuple #[.int .i64 N, .int .i64 f, .slice A l.length c]) ∧ 2 ≤ N ∧ N ≤ 4 ∧ f ≤ N ∧ AvSeg w' A l ∧ l.length ≤ 60 ∧ Ext w w'
set_option maxHeartbeats 1600000 in
theorem draw_any (A : Option Addr) (cap : Nat) (bs : List Int) (w : World) (hs : Seg w 1 A bs.length (bs.map (Value.int .u8))) (hcap : bs.length ≤ cap) (hcap2 : cap ≤ maxLen) (hv : ∀ b ∈ bs, 0 ≤ b ∧ b < 256) :
    Calls Try.prog 23 #[.slice A bs.length cap] w (DrawPost w) := by
  have HN := Lib.hid (new_any A cap bs 200 w hs hcap hcap2 (by omega) hv)
  clear hs hv
  go_enter Try.func23, Try.ntmps23
  go_wp2_with fail
  refine HN.out.mono ?_
  rintro e w1 ⟨rfl, hC, hE1⟩
  have hcl := hC.lt
  obtain ⟨c, hc⟩ : ∃ c, w.heap.size = c := ⟨_, rfl⟩
  have hcc : w.heap.size ≤ c := by omega
  rw [hc] at hC hcl ⊢
  have HE1 := Lib.hid hE1
  clear HN hE1 hc
  go_wp2_with fail
  refine (next_any' c (bs.take 200) 0 w1 hC 3 (by omega) (by omega)).mono ?_
  rintro e w2 ⟨r2, rfl, ⟨hr20, hr21⟩, hD2⟩
  obtain ⟨n2, rfl⟩ : ∃ n2 : Nat, r2 = (n2 : Int) := ⟨r2.toNat, by omega⟩
  go_wp2_with fail
  refine (next_on hD2 (Ext.refl _) (2 + (n2 : Int) + 1) (by omega) (by omega)).mono ?_
  rintro e w3 ⟨r3, rfl, ⟨hr30, hr31⟩, hD3, hg3⟩
  obtain ⟨n3, rfl⟩ : ∃ n3 : Nat, r3 = (n3 : Int) := ⟨r3.toNat, by omega⟩
  go_wp2_with fail
  refine (acts_on c (bs.take 200) 0 w1 w3 hcl hD3 (2 + (n2 : Int)) 60 (by omega) (by omega) (by omega)).mono ?_
  rintro e w4 ⟨v, l, rfl, hown, hl, hD4⟩
  obtain ⟨A4, c4, rfl, hs4, -, -⟩ := own_slice hown
  have hEf : Ext w w4 := Below.grown HE1.out hD4.1 HE1.out.size (fun k hk => by injection hk with hk; omega)
  have HS4 := Lib.hid hs4
  have HEF := Lib.hid hEf
  clear hown hD2 hD3 hg3 hD4 hs4 hEf
  go_wp2_with fail
  (try simp only [Exit.inBlock, Exit.then])
  refine bodyPost_ret (results_tmp3 rfl _ _ _) rfl ?_
  exact ⟨2 + n2, n3, A4, c4, l, by simp, by omega, by omega, by omega, HS4.out, hl, HEF.out⟩
end Go.Proofs.Ytfnnoncdocghjaa
