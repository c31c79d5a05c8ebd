/- Chapter 38: the reference's Best, and Best where it refuses. No statement of the seat is proved here. -/
import Derived.Test.YtddcgholnhhcoaaRDiv2
import Derived.Test.YtddcgholnhhcoaaWorstRef
import Derived.Test.YtddcgholnhhcoaaLeast
namespace Go.Proofs.Ytddcgholnhhcoaa
open Go.RowKit
set_option linter.unusedVariables false

theorem err_nil (ts : List Tk) (f r : Int) : errV ts [] f r = refuseV ts f r := by
  unfold errV
  split
  · rename_i h; rw [h]; rfl
  · rfl
theorem beats_iff (ts : List Tk) (f r : Int) (Q P : List Int) : Beats ts f r Q P ↔ (wv ts f r Q < wv ts f r P ∨ wv ts f r Q = wv ts f r P ∧ betV Q P = true) := by
  unfold Beats keyL
  rw [cmpLs, cmpLs]
  have c1 := cmpI_neg (wv ts f r Q) (wv ts f r P)
  have c2 := cmpI_zero (wv ts f r Q) (wv ts f r P)
  have c3 := cmpI_neg (Q.length : Int) (P.length : Int)
  have c4 := cmpI_zero (Q.length : Int) (P.length : Int)
  by_cases he : wv ts f r Q = wv ts f r P
  · rw [if_pos (c2.2 he)]
    unfold betV
    by_cases hl : Q.length = P.length
    · rw [if_pos (c4.2 (by omega)), if_pos hl, decide_eq_true_eq]
      omega
    · rw [if_neg (by rw [c4]; omega), if_neg hl, decide_eq_true_eq, c3]
      omega
  · rw [if_neg (by rw [c2]; exact he), c1]
    omega
def SeenR (ts : List Tk) (f r : Int) (R : List Int) (i d k : Nat) : Prop :=
  ∀ a b e : Nat, a + b < ts.length → e < 2 → (a < i ∨ a = i ∧ (b < d ∨ b = d ∧ e < k)) → ∀ L, divideV ts ((lenIn ts a (b + 1)).1 + (e : Int) * (ts.getD (a + b) noTk).cost) = some L → ¬ Beats ts f r L R
theorem SeenR.zero (ts : List Tk) (f r : Int) (R : List Int) : SeenR ts f r R 0 0 0 := fun a b e h1 h2 h3 => by omega
theorem SeenR.next {ts : List Tk} {f r : Int} {R : List Int} {i d : Nat} (h : SeenR ts f r R i d 2) : SeenR ts f r R i (d + 1) 0 := fun a b e h1 h2 h3 => h a b e h1 h2 (by omega)
theorem SeenR.row {ts : List Tk} {f r : Int} {R : List Int} {i d : Nat} (h : SeenR ts f r R i d 0) (hd : i + d = ts.length) : SeenR ts f r R (i + 1) 0 0 := fun a b e h1 h2 h3 => h a b e h1 h2 (by omega)
theorem SeenR.keep {ts : List Tk} {f r : Int} {R : List Int} {i d k : Nat} (h : SeenR ts f r R i d k) (hn : ∀ L, divideV ts ((lenIn ts i (d + 1)).1 + (k : Int) * (ts.getD (i + d) noTk).cost) = some L → ¬ Beats ts f r L R) : SeenR ts f r R i d (k + 1) := fun a b e h1 h2 h3 => by
  by_cases he : a = i ∧ b = d ∧ e = k
  · obtain ⟨rfl, rfl, rfl⟩ := he; exact hn
  · exact h a b e h1 h2 (by omega)
theorem SeenR.take {ts : List Tk} {f r : Int} {R L : List Int} {i d k : Nat} (h : SeenR ts f r R i d k) (hb : Beats ts f r L R) (hL : divideV ts ((lenIn ts i (d + 1)).1 + (k : Int) * (ts.getD (i + d) noTk).cost) = some L) : SeenR ts f r L i d (k + 1) := fun a b e h1 h2 h3 Q hQ => by
  by_cases he : a = i ∧ b = d ∧ e = k
  · obtain ⟨rfl, rfl, rfl⟩ := he
    rw [hL] at hQ
    injection hQ with hQ
    subst hQ
    exact Beats.irr _ _ _ _
  · exact Beats.over (h a b e h1 h2 (by omega) Q hQ) hb
theorem SeenR.all {ts : List Tk} {f r : Int} {R : List Int} (h : SeenR ts f r R ts.length 0 0) : ∀ k, k ∈ lenOut ts ts.length → ∀ L, divideV ts k = some L → ¬ Beats ts f r L R := by
  have h1 : ∀ (a d : Nat), a + d ≤ ts.length → ∀ k, k ∈ (lenIn ts a d).2 → ∀ L, divideV ts k = some L → ¬ Beats ts f r L R := by
    intro a d
    induction d with
    | zero => intro _ k hk; simp [lenIn] at hk
    | succ d ih =>
      intro hd k hk
      rw [show (lenIn ts a (d + 1)).2 = (lenIn ts a d).2 ++ [(lenIn ts a d).1 + (ts.getD (a + d) noTk).work + (ts.getD (a + d) noTk).cost] from rfl] at hk
      simp only [List.mem_append, List.mem_singleton] at hk
      rcases hk with hk | rfl
      · exact ih (by omega) k hk
      · have := h a d 1 (by omega) (by omega) (by omega)
        rw [show ((1 : Nat) : Int) * (ts.getD (a + d) noTk).cost = (ts.getD (a + d) noTk).cost by omega] at this
        exact this
  have h2 : ∀ m, m ≤ ts.length → ∀ k, k ∈ lenOut ts m → ∀ L, divideV ts k = some L → ¬ Beats ts f r L R := by
    intro m
    induction m with
    | zero => intro _ k hk; simp [lenOut] at hk
    | succ m ih =>
      intro hm k hk
      rw [lenOut] at hk
      simp only [List.mem_append, List.mem_singleton] at hk
      rcases hk with (hk | hk) | rfl
      · exact ih (by omega) k hk
      · exact h1 m _ (by omega) k hk
      · have := h m (ts.length - m - 1) 0 (by omega) (by omega) (by omega)
        rw [show ts.length - m - 1 + 1 = ts.length - m by omega, show ((0 : Nat) : Int) * (ts.getD (m + (ts.length - m - 1)) noTk).cost = 0 by simp, Int.add_zero] at this
        exact this
  exact h2 _ (Nat.le_refl _)
def RBestPost (ts : List Tk) (f r : Int) (w : World) (e : Ending) (w' : World) : Prop :=
  ∃ R A c, e = .returned (.tuple #[.slice A R.length c, .int .i64 (wv ts f r R), .int .i64 0]) ∧ IntSeg w' A R ∧ R.length ≤ 64 ∧ Ext w w' ∧ AscF ts.length 0 R ∧ ∀ k, k ∈ lenOut ts ts.length → ∀ L, divideV ts k = some L → ¬ Beats ts f r L R
def StR (w : World) (ts : List Tk) (f r : Int) (i d k : Nat) (vl vb : Value) (wr : World) : Prop :=
  ∃ R A c, vl = .int .i64 (wv ts f r R) ∧ vb = .slice A R.length c ∧ IntSeg wr A R ∧ R.length ≤ 64 ∧ AscF ts.length 0 R ∧ Ext w wr ∧ SeenR ts f r R i d k
def OuB (w : World) (ts : List Tk) (f r : Int) (g : Nat) (vl vb iv : Value) (wr : World) : Prop := ∃ i : Nat, i ≤ ts.length ∧ iv = .int .i64 i ∧ g = ts.length - i ∧ StR w ts f r i 0 0 vl vb wr
def InB (w : World) (ts : List Tk) (f r : Int) (i : Nat) (g : Nat) (vl vb lv jv : Value) (wr : World) : Prop := ∃ d : Nat, i + d ≤ ts.length ∧ jv = .int .i64 ((i + d : Nat) : Int) ∧ lv = .int .i64 (lenIn ts i d).1 ∧ g = ts.length - (i + d) ∧ StR w ts f r i d 0 vl vb wr
def KB (w : World) (ts : List Tk) (f r : Int) (i d : Nat) (g : Nat) (vl vb kv : Value) (wr : World) : Prop := ∃ k : Nat, k ≤ 2 ∧ kv = .int .i64 k ∧ g = 2 - k ∧ StR w ts f r i d k vl vb wr

set_option maxRecDepth 100000 in
set_option maxHeartbeats 3200000 in
theorem rbest_any (A : Option Addr) (c : Nat) (ts : List Tk) (f r : Int) (w : World) (hs : TkSeg w A ts) (hz : refuseV ts f r = 0) :
    Calls Try.prog 24 #[.slice A ts.length c, .int .i64 f, .int .i64 r] w (RBestPost ts f r w) := by
  obtain ⟨z1, z2, z3, hfb, hrb⟩ := refuse_zero hz
  have HFINE := Lib.hid (allFine_of ts z3)
  have hn64 : (ts.length : Int) ≤ 64 := by omega
  have HZ := Lib.hid hz
  have HW0 := Lib.hid (wv_ok hz (show AscF ts.length 0 [] from trivial))
  clear hz z3
  go_enter Try.func24, Try.ntmps24
  go_wp2_with fail
  refine (worst_ref A c ts none 0 [] f r w hs (by omega) Seg.nil (by simp)).mono ?_
  rintro e w1 ⟨rfl, hE1⟩
  rw [HW0.out]
  clear HW0
  go_wp2_with fail
  go_loopg [9, 11, 12] ts.length (fun g vl vb iv wr => OuB w ts f r g vl vb iv wr)
  case atStart => exact ⟨0, Nat.zero_le _, rfl, rfl, [], none, 0, rfl, rfl, Seg.nil, by simp, trivial, hE1, SeenR.zero _ _ _ _⟩
  case round =>
    clear hE1
    obtain ⟨i, hi, rfl, rfl, R, AR, cR, rfl, rfl, hsR, hRl, hasc, hE, hseen⟩ := hrel
    have HASC := Lib.hid hasc
    have HSEEN := Lib.hid hseen
    clear hasc hseen
    by_cases hil : i < ts.length
    · go_wp2_with fail
      go_loopg [9, 11, 13, 14] (ts.length - i) (fun g vl vb lv jv wr => InB w ts f r i g vl vb lv jv wr)
      case atStart => exact ⟨0, by omega, rfl, rfl, rfl, R, AR, cR, rfl, rfl, hsR, hRl, HASC.out, hE, HSEEN.out⟩
      case round =>
        clear hsR hRl hE HASC HSEEN
        obtain ⟨d, hd, rfl, rfl, rfl, R, AR, cR, rfl, rfl, hsR, hRl, hasc, hE, hseen⟩ := hrel
        have HASC := Lib.hid hasc
        have HSEEN := Lib.hid hseen
        clear hasc hseen
        by_cases hjl : i + d < ts.length
        · obtain ⟨j, hj⟩ : ∃ j, i + d = j := ⟨_, rfl⟩
          have HJ := Lib.hid hj
          have HL : Hid ((lenIn ts i (d + 1)).1 = (lenIn ts i d).1 + (ts.getD (i + d) noTk).work) := rfl
          have hlb := lenIn_bd ts i HFINE.out d hd
          have hlb1 := lenIn_bd ts i HFINE.out (d + 1) (by omega)
          rw [hj] at hjl HL ⊢
          have ht := HFINE.out j hjl
          obtain ⟨tb, toff, rfl, P0, P1⟩ := Tk.at_ hs hjl
          rw [← getD_at ts j noTk hjl] at P0 P1
          have p0 := cell_ext hE P0
          obtain ⟨t, ht0⟩ : ∃ t, ts.getD j noTk = t := ⟨_, rfl⟩
          rw [ht0] at ht HL p0 P1
          have HTK := Lib.hid ht0
          have HP1 := Lib.hid P1
          obtain ⟨len, hlen⟩ : ∃ len, (lenIn ts i (d + 1)).1 = len := ⟨_, rfl⟩
          rw [hlen] at HL hlb1
          have HLE := Lib.hid hlen
          have hdj : d ≤ j := by omega
          obtain ⟨⟨t1, t2⟩, t3, t4⟩ := ht
          clear hlen ht0 P0 P1 hj hd
          go_upto_region 13 with fail
          try rw [show wrap64 ((lenIn ts i d).1 + t.work) = (lenIn ts i d).1 + t.work from IntWalk.i64_in _ (by omega)]
          rw [← HL.out]
          go_wp2_with fail
          go_loopg [9, 11, 15] 2 (fun g vl vb kv wr => KB w ts f r i d g vl vb kv wr)
          case atStart => exact ⟨0, by omega, rfl, rfl, R, AR, cR, rfl, rfl, hsR, hRl, HASC.out, hE, HSEEN.out⟩
          case round =>
            clear hsR hRl hE HASC HSEEN p0
            obtain ⟨k, hk, rfl, rfl, R, AR, cR, rfl, rfl, hsR, hRl, hasc, hE, hseen⟩ := hrel
            have HASC := Lib.hid hasc
            have HSEEN := Lib.hid hseen
            clear hasc hseen
            by_cases hk2 : k < 2
            · have p1 := cell_ext hE HP1.out
              have hkc : 0 ≤ (k : Int) * t.cost ∧ (k : Int) * t.cost ≤ 1048576 := by
                have : k = 0 ∨ k = 1 := by omega
                rcases this with rfl | rfl <;> omega
              have HQ := Lib.hid (SeenR.keep HSEEN.out)
              have HT := Lib.hid (fun L hb hL => SeenR.take (L := L) HSEEN.out hb hL)
              rw [HJ.out, HTK.out, HLE.out] at HQ HT
              obtain ⟨q, hq⟩ : ∃ q, (k : Int) * t.cost = q := ⟨_, rfl⟩
              have hwm : IntKind.i64.wrap ((k : Int) * t.cost) = q := by rw [IntWalk.i64_in _ (by omega)]; exact hq
              rw [hq] at HQ HT hkc
              clear hq
              have hw2 : IntKind.i64.wrap (len + q) = len + q := IntWalk.i64_in _ (by omega)
              have hk2' : (k : Int) < 2 := by omega
              go_wp2_with fail
              refine (rdivide_any (some ⟨tb, toff, none⟩) c ts (len + q) _ (hs.ext hE) (by omega) HFINE.out (by omega)).mono ?_
              rintro e w5 ⟨p, rfl, hsp, hpl, hE5, hdiv⟩
              obtain ⟨pt, pc, pA, pL, pcap⟩ := p
              simp only at hsp hpl hdiv
              have hX5 := Ext.trans hE hE5
              have hsR5 := hsR.ext hE5
              rcases hdiv with ⟨rfl, hdv⟩ | ⟨rfl, hdv⟩
              · have HDV := Lib.hid hdv
                clear hdv
                have hBX := Blk.new w5 67 #[.bool true, .int .i64 pc, .slice pA pL.length pcap]
                have HAL := Lib.hid (Feas.ascF pL 0 ((divide_least ts (len + q) HFINE.out (by omega)).1 pL HDV.out))
                have HWV := Lib.hid (wv_ok HZ.out HAL.out)
                have HBI := Lib.hid (beats_iff ts f r pL R)
                go_wp2_with fail
                refine (worst_ref (some ⟨tb, toff, none⟩) c ts pA pcap pL f r _ ((hs.ext hX5).alloc _) (by omega) (hsp.alloc _) (by omega)).mono ?_
                rintro e w6 ⟨rfl, hE6⟩
                rw [HWV.out]
                obtain ⟨b0, b1, b2, _⟩ := blk3 (hBX.ext hE6)
                have hX6 := Ext.trans (hX5.allocs _) hE6
                have hsp6 := (hsp.alloc _).ext hE6
                have hsR6 := (hsR5.alloc _).ext hE6
                have HBX6 := Lib.hid (hBX.ext hE6)
                have HT1 := Lib.hid (fun hb => HT.out pL hb HDV.out)
                have HQ1 : Hid (¬ Beats ts f r pL R → SeenR ts f r R i d (k + 1)) := fun hn => HQ.out (fun L hL => by
                  rw [HDV.out] at hL
                  injection hL with hL
                  subst hL
                  exact hn)
                clear hE6 hBX hsp hsR5 hsR hX5 hE5 HT HQ HDV HWV p1
                obtain ⟨wl, hwl⟩ : ∃ wl, wv ts f r pL = wl := ⟨_, rfl⟩
                obtain ⟨wp, hwp⟩ : ∃ wp, wv ts f r R = wp := ⟨_, rfl⟩
                rw [hwl, hwp] at HBI
                rw [hwl, hwp]
                have HWL := Lib.hid hwl
                have HWP := Lib.hid hwp
                clear hwl hwp
                by_cases hlt : wl < wp
                · have HT2 := Lib.hid (HT1.out (HBI.out.2 (.inl hlt)))
                  go_wp2_with fail
                  go_quiet (fail)
                  go_wp2_with fail
                  go_roundg (2 - (k + 1))
                  case measure => omega
                  case rel => exact ⟨k + 1, by omega, by go_num, rfl, pL, pA, pcap, by rw [HWL.out], rfl, (hsp6.drewN _), hpl, HAL.out, (Ext.drewN hX6 _), HT2.out⟩
                · by_cases heq : wl = wp
                  · have heq' : (wl == wp) = true := by simp [heq]
                    have HC := Lib.hid (rless_any pA AR pcap cR pL R w6 hsp6 hsR6 (by omega) (by omega))
                    have HB2 : Hid (Beats ts f r pL R ↔ betV pL R = true) := by
                      show Beats ts f r pL R ↔ betV pL R = true
                      rw [HBI.out]
                      constructor
                      · rintro (h | h)
                        · exact absurd h hlt
                        · exact h.2
                      · exact fun h => .inr ⟨heq, h⟩
                    obtain ⟨bv, hbv⟩ : ∃ bv, betV pL R = bv := ⟨_, rfl⟩
                    rw [hbv] at HC HB2
                    clear hbv heq HBI
                    rcases bv with _ | _
                    · have HQ2 := Lib.hid (HQ1.out (fun h => by have := HB2.out.1 h; cases this))
                      go_wp2_with fail
                      refine HC.out.mono ?_
                      rintro e w7 ⟨rfl, hE7⟩
                      go_wp2_with fail
                      go_roundg (2 - (k + 1))
                      case measure => omega
                      case rel => exact ⟨k + 1, by omega, by go_num, rfl, R, AR, cR, by rw [HWP.out], rfl, (hsR6.ext hE7), hRl, HASC.out, (Ext.trans hX6 hE7), HQ2.out⟩
                    · have HT2 := Lib.hid (HT1.out (HB2.out.2 rfl))
                      go_wp2_with fail
                      refine HC.out.mono ?_
                      rintro e w7 ⟨rfl, hE7⟩
                      clear b0 b1 b2
                      obtain ⟨b0, b1, b2, _⟩ := blk3 (HBX6.out.ext hE7)
                      go_wp2_with fail
                      go_quiet (fail)
                      go_wp2_with fail
                      go_roundg (2 - (k + 1))
                      case measure => omega
                      case rel => exact ⟨k + 1, by omega, by go_num, rfl, pL, pA, pcap, by rw [HWL.out], rfl, ((hsp6.ext hE7).drewN _), hpl, HAL.out, (Ext.drewN (Ext.trans hX6 hE7) _), HT2.out⟩
                  · have heq' : (wl == wp) = false := by simp [heq]
                    have HQ2 := Lib.hid (HQ1.out (fun h => by have := HBI.out.1 h; omega))
                    go_wp2_with fail
                    go_roundg (2 - (k + 1))
                    case measure => omega
                    case rel => exact ⟨k + 1, by omega, by go_num, rfl, R, AR, cR, by rw [HWP.out], rfl, hsR6, hRl, HASC.out, hX6, HQ2.out⟩
              · have HDV := Lib.hid hdv
                clear hdv
                have HQ2 := Lib.hid (HQ.out (fun L hL => by rw [HDV.out] at hL; cases hL))
                go_wp2_with fail
                go_roundg (2 - (k + 1))
                case measure => omega
                case rel => exact ⟨k + 1, by omega, by go_num, rfl, R, AR, cR, rfl, rfl, (hsR5.alloc _), hRl, HASC.out, (hX5.allocs _), HQ2.out⟩
            · obtain rfl : k = 2 := by omega
              have HN := Lib.hid (HSEEN.out.next)
              go_wp2_with fail
              go_roundg (ts.length - (j + 1))
              case measure => (have := HJ.out); omega
              case rel => exact ⟨d + 1, by have := HJ.out; omega, by rw [← HJ.out]; go_num, by rw [HLE.out], by rw [← HJ.out]; rfl, R, AR, cR, rfl, rfl, hsR, hRl, HASC.out, hE, HN.out⟩
        · have HN := Lib.hid (HSEEN.out.row (by omega))
          have hnij : ¬ i + d < ts.length := hjl
          go_wp2_with fail
          go_roundg (ts.length - (i + 1))
          case measure => omega
          case rel => exact ⟨i + 1, by omega, by go_num, rfl, R, AR, cR, rfl, rfl, hsR, hRl, HASC.out, hE, HN.out⟩
    · obtain rfl : i = ts.length := by omega
      go_wp2_with fail
      go_ret3
      exact ⟨R, AR, cR, rfl, hsR, hRl, hE, HASC.out, HSEEN.out.all⟩
end Go.Proofs.Ytddcgholnhhcoaa
