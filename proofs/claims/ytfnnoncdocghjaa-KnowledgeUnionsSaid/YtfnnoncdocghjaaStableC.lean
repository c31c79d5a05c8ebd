/- Stable of package knowledge. No statement of the seat is proved here. -/
import Derived.Test.YtfnnoncdocghjaaMergeK
namespace Go.Proofs.Ytfnnoncdocghjaa
open Go.RowKit Go.Shelf Go.Lib
set_option linter.unusedVariables false
set_option maxRecDepth 100000

theorem stK_zero {k : Kn} (hk : okH k.h) : stK 0 k = k := orB_zero hk
theorem okH_bit {b : Nat} (hb : b < 32) : okH ((2 : Int) ^ b % 4294967296) := by
  have : ∀ i : Fin 32, okH ((2 : Int) ^ i.val % 4294967296) := by unfold okH; decide
  exact this ⟨b, hb⟩
theorem stK_step {k : Kn} (hk : okH k.h) {b : Nat} (hb : b < 32) : bits .or .u32 (stK b k).h ((2 : Int) ^ b % 4294967296) = (stK (b + 1) k).h := by
  have h1 := stK_ok (m := b) (by omega) k hk
  have h2 := okH_all (m := b) (by omega)
  have h3 := okH_bit hb
  have h4 := okH_all (m := b + 1) (by omega)
  have e1 := (bits_u32 h1.1 h1.2 h3.1 h3.2).2.1
  have e2 := (bits_u32 hk.1 hk.2 h2.1 h2.2).2.1
  have e3 := (bits_u32 h2.1 h2.2 h3.1 h3.2).2.1
  have e4 := (bits_u32 hk.1 hk.2 h4.1 h4.2).2.1
  have e5 := or_low hb
  rw [e3] at e5
  rw [e1]
  show _ = bits .or .u32 k.h ((2 : Int) ^ (b + 1) - 1)
  rw [e4, ← e5, Int.toNat_natCast]
  show (((bits .or .u32 k.h ((2 : Int) ^ b - 1)).toNat ||| _ : Nat) : Int) = _
  rw [e2, Int.toNat_natCast, Nat.or_assoc]
def SjRel (w0 : World) (g0 c0 : Nat) (X : List Kn) (x : Kn) (jj n m : Nat) (g : Nat) (i : Value) (wr : World) : Prop := ∃ b : Nat, b ≤ m ∧ i = .int .i64 b ∧ g = m - b ∧ Ext w0 wr ∧ wr.ownsRow w0.heap.size 34 10 (.slice (some ⟨g0, 0, none⟩) n c0) n ((X.set jj (stK b x)).flatMap Kn.cells)
theorem set_same {X : List Kn} {j : Nat} {x : Kn} (h : X[j]? = some x) : X.set j x = X := by
  apply List.ext_getElem?
  intro i
  rw [List.getElem?_set]
  split
  · rename_i e; subst e; rw [if_pos (List.getElem?_eq_some_iff.1 h).1, h]
  · rfl
set_option maxHeartbeats 1600000 in
theorem stable_code (A : Option Addr) (c : Nat) (l : List Kn) (n : Int) (m : Nat) (hm : min (max n 0) 32 = (m : Int)) (w : World) (hs : KnSeg w A l) (hn : l.length ≤ 1000) (hok : ∀ k ∈ l, okH k.h) :
    Calls Try.prog 36 #[.slice A l.length c, .int .i64 n] w (OwnPostK (l.map (stK m)) w) := by
  have HC := Lib.hid (clone_any A c l w hs hn)
  have HOK := Lib.hid hok
  have hm32 : m ≤ 32 := by omega
  clear hs hok
  go_enter Try.func36, Try.ntmps36
  go_wp2_with fail
  refine HC.out.mono ?_
  rintro e w1 ⟨v, rfl, hown, hE1⟩
  have HO1 := Lib.hid hown
  have HE1 := Lib.hid hE1
  clear hown hE1 HC
  rcases own_two HO1.out with ⟨rfl, hn0⟩ | ⟨g0, c0, rfl⟩
  · have hl : l = [] := List.eq_nil_of_length_eq_zero hn0
    subst hl
    go_wp2_with fail
    go_loopg [12] 0 (fun g i wr => i = .int .i64 0 ∧ g = 0 ∧ wr = w1)
    case atStart => exact ⟨rfl, rfl, rfl⟩
    case round =>
      obtain ⟨rfl, rfl, rfl⟩ := hrel
      go_wp2_with fail
      go_ret
      exact ⟨_, rfl, HO1.out, HE1.out⟩
  · go_wp2_with fail
    go_loopg [12] l.length (fun g i wr => MjRel w g0 c0 l (stK m) g i wr)
    case atStart => exact ⟨0, Nat.zero_le _, rfl, rfl, HE1.out, by rw [mapTo_zero]; exact HO1.out⟩
    case round =>
      obtain ⟨j, hj, rfl, rfl, hE, hown⟩ := hrel
      have HO := Lib.hid hown
      have HE := Lib.hid hE
      clear hown hE
      by_cases hlt : j < l.length
      · have HT := Lib.hid (mapTo_succ (stK m) l j hlt)
        have HTl := Lib.hid (mapTo_len (stK m) l j)
        have HTa := Lib.hid (mapTo_at (stK m) l j hlt)
        have hxk : okH (l[j]).h := HOK.out _ (List.getElem_mem hlt)
        obtain ⟨x, hx⟩ : ∃ x, l[j] = x := ⟨_, rfl⟩
        rw [hx] at HT HTa hxk
        have HXK := Lib.hid hxk
        clear hx hxk
        obtain ⟨X, hX⟩ : ∃ X, mapTo (stK m) l j = X := ⟨_, rfl⟩
        rw [hX] at HT HTl HTa HO
        clear hX
        have hj0 : (0 : Int) ≤ (j : Int) := by omega
        have hj1 : (j : Int) < (l.length : Int) := by omega
        go_wp2_with fail
        go_loopg [7, 18] m (fun g b i wr => SjRel w g0 c0 X x j l.length m g i wr)
        case atStart =>
          refine ⟨0, Nat.zero_le _, rfl, rfl, HE.out, ?_⟩
          rw [stK_zero HXK.out, set_same HTa.out]
          exact HO.out
        case round =>
          clear HO HE
          obtain ⟨b, hb, rfl, rfl, hE, hown⟩ := hrel
          have HO := Lib.hid hown
          have HE := Lib.hid hE
          clear hown hE
          have HLs : Hid ((X.set j (stK b x)).length = l.length) := by show _ = _; rw [List.length_set]; exact HTl.out
          have HAt : Hid ((X.set j (stK b x))[j]? = some (stK b x)) := by show _ = _; rw [List.getElem?_set, if_pos rfl, if_pos (by rw [HTl.out]; exact hlt)]
          by_cases hbm : b < m
          · have hb0 : (0 : Int) ≤ (b : Int) := by omega
            have hbm' : (b : Int) < (m : Int) := by omega
            have hb32 : (b : Int) < 32 := by omega
            have HST := Lib.hid (stK_step HXK.out (b := b) (by omega))
            have HSS : Hid ((X.set j (stK b x)).set j (stK (b + 1) x) = X.set j (stK (b + 1) x)) := List.set_set ..
            have HX : Hid (∀ W, Ext wr W → W.cell? ⟨g0, j * 10 + 9, none⟩ = some (.int .u32 (stK b x).h)) := fun W hW => by
              have h1 := own_ext HO.out hW
              rw [h1.cellAt (j * 10 + 9) (by omega), flat_get Kn.cells 10 Kn.len _ j 9 _ HAt.out (by omega)]
              rfl
            obtain ⟨y, hy⟩ : ∃ y, stK b x = y := ⟨_, rfl⟩
            have hyd : y.d = x.d := by rw [← hy]; rfl
            rw [hy] at HST HSS HX HAt HLs HO
            clear hy
            have HYD := Lib.hid hyd
            clear hyd
            go_wp2_with fail
            refine wp_region_sched (by kernel_rfl) 10 [(0, true), (1, true), (2, true), (3, true), (4, true), (5, true), (6, true), (7, true), (8, true), (9, true), (10, false)] (fun W => W.cell? ⟨g0, j * 10 + 9, none⟩ = some (.int .u32 y.h)) (by kernel_rfl) (fun _ _ dd _ _ h => by cases dd <;> exact h) (HX.out _ (Below.drew (Ext.refl wr))) (fun hHeld => ?_)
            iterate 10 ((refine sched_read (v := ?_) rfl (Or.inl ⟨by rfl, ?_⟩) hHeld ?_; rotate_left 1; · (intro w' hSw; go_simp; (first | done | with_reducible rfl))); (try simp only [Act.put, List.setIfInBounds_toArray, List.set_cons_zero, List.set_cons_succ]))
            have h1 := own_setH (own_ext HO.out (Below.drew (Ext.refl wr))) (i := j) (by rw [HLs.out]; exact hlt) (stK (b + 1) x) (by have := HAt.out; rw [List.getElem?_eq_getElem (by rw [HLs.out]; exact hlt)] at this; injection this with this; rw [this, HYD.out]; rfl)
            rw [HSS.out, ← HST.out] at h1
            have HOa := Lib.hid h1
            have HEb : Hid (Ext w (wr.drew.setCell ⟨g0, j * 10 + 9, none⟩ (.int .u32 (bits .or .u32 y.h ((2 : Int) ^ b % 4294967296))))) := Below.setCell (Below.drew HE.out) ((HO.out.lt g0 rfl).1) _
            have hfz : wr.drew.frozen? ⟨g0, j * 10 + 9, none⟩ = false := (own_ext HO.out (Below.drew (Ext.refl wr))).frozenAt _
            clear h1
            refine sched_tail rfl (by decide) (fun K hK => ?_)
            go_simp
            refine hK.out _ _ ?_
            clear hK K
            refine sched_done ?_
            go_wp2_with fail
            go_roundg (m - (b + 1))
            case measure => omega
            case rel => exact ⟨b + 1, by omega, by go_num, rfl, HEb.out, HOa.out⟩
          · obtain rfl : b = m := by omega
            go_wp2_with fail
            go_roundg (l.length - (j + 1))
            case measure => omega
            case rel => exact ⟨j + 1, by omega, by go_num, rfl, HE.out, by rw [← HT.out]; exact HO.out⟩
      · obtain rfl : j = l.length := by omega
        go_wp2_with fail
        go_ret
        refine ⟨_, rfl, ?_, HE.out⟩
        have h1 := HO.out
        rw [mapTo_all] at h1
        rw [List.length_map]
        exact h1
end Go.Proofs.Ytfnnoncdocghjaa
