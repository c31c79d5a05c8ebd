/- Chapter 38: Best. No statement of the seat is proved here. -/
import Derived.Test.YtddcgholnhhcoaaCost6
namespace Go.Proofs.Ytddcgholnhhcoaa
open Go.RowKit Go.Maps
set_option linter.unusedVariables false

theorem cmpLs_self : ∀ a : List Int, cmpLs a a = 0
  | [] => rfl
  | x :: xs => by rw [cmpLs, if_pos ((cmpI_zero x x).2 rfl), cmpLs_self xs]
theorem cmpLs_trans : ∀ a b c : List Int, cmpLs a b < 0 → cmpLs b c < 0 → cmpLs a c < 0
  | [], [], _, h, _ => by simp [cmpLs] at h
  | [], _ :: _, [], _, h => by simp [cmpLs] at h
  | [], _ :: _, _ :: _, _, _ => by simp [cmpLs]
  | _ :: _, [], _, h, _ => by simp [cmpLs] at h
  | _ :: _, _ :: _, [], _, h => by simp [cmpLs] at h
  | x :: xs, y :: ys, z :: zs, h1, h2 => by
    rw [cmpLs] at h1 h2 ⊢
    have ih := cmpLs_trans xs ys zs
    by_cases a : cmpI x y = 0
    · have ea := (cmpI_zero x y).1 a
      subst ea
      rw [if_pos a] at h1
      by_cases b : cmpI x z = 0
      · rw [if_pos b] at h2 ⊢; exact ih h1 h2
      · rw [if_neg b] at h2 ⊢; exact h2
    · rw [if_neg a] at h1
      have a' : x < y := by rw [← cmpI_neg]; omega
      by_cases b : cmpI y z = 0
      · have eb := (cmpI_zero y z).1 b
        subst eb
        rw [if_neg a]; exact h1
      · rw [if_neg b] at h2
        have b' : y < z := by rw [← cmpI_neg]; omega
        have c : cmpI x z < 0 := by rw [cmpI_neg]; omega
        rw [if_neg (by omega)]; omega

def wv (ts : List Tk) (f r : Int) (L : List Int) : Int := (worstV ts L f r).1
def keyL (ts : List Tk) (f r : Int) (L : List Int) : List Int := wv ts f r L :: (L.length : Int) :: L
def Beats (ts : List Tk) (f r : Int) (L P : List Int) : Prop := cmpLs (keyL ts f r L) (keyL ts f r P) < 0
theorem or_key (ts : List Tk) (f r : Int) (L P : List Int) : orV [cmpI (wv ts f r L) (wv ts f r P), cmpI L.length P.length, cmpLs L P] = cmpLs (keyL ts f r L) (keyL ts f r P) := by
  simp only [keyL, cmpLs, orV]
  split <;> try rfl
  split <;> try rfl
  split <;> simp_all
theorem Beats.irr (ts : List Tk) (f r : Int) (L : List Int) : ¬ Beats ts f r L L := by unfold Beats; rw [cmpLs_self]; omega
theorem Beats.over {ts : List Tk} {f r : Int} {Q L P : List Int} (h : ¬ Beats ts f r Q P) (hl : Beats ts f r L P) : ¬ Beats ts f r Q L := fun hq => h (cmpLs_trans _ _ _ hq hl)
def IsBest (ts : List Tk) (f r : Int) (P : List Int) : Prop :=
  (P = [] ∨ ∃ k, k ∈ lenOut ts ts.length ∧ divideV ts k = some P) ∧ ¬ Beats ts f r [] P ∧ ∀ k, k ∈ lenOut ts ts.length → ∀ L, divideV ts k = some L → ¬ Beats ts f r L P
def BestPost (ts : List Tk) (f r : Int) (w : World) (e : Ending) (w' : World) : Prop :=
  ∃ P v, e = .returned (.tuple #[v, .int .i64 (wv ts f r P), .int .i64 0]) ∧ w'.ownsRow w.heap.size 3 1 v P.length (P.flatMap Iv) ∧ P.length ≤ 1000 ∧ Ext w w' ∧ IsBest ts f r P

theorem seg_three {w : World} {g : Nat} {t : TypeId} {x y z : Int} (h : Blk w g t #[.int .i64 x, .int .i64 y, .int .i64 z]) : IntSeg w (some ⟨g, 0, none⟩) [x, y, z] := by
  refine ⟨rfl, fun _ => ⟨g, 0, rfl, h.lt, fun j u hu => ?_⟩⟩
  rw [Nat.zero_add, h.cell]
  simpa [Iv] using hu
theorem bool_inv {v : Value} {z : DataW Unit × List MemPlace} (h : plainElem Try.prog 4 v = some z) : ∃ x, v = .bool x := by
  unfold plainElem at h
  rw [Try.underlying4] at h
  split at h
  · exact ⟨_, rfl⟩
  all_goals simp_all
/-- what divide returns is short -/
theorem follow_len (T : List Pl) : ∀ f i, (follow T f i).length ≤ f
  | 0, _ => by simp [follow]
  | f + 1, i => by
    rw [follow]
    split
    · simp
    · have := follow_len T f ((T.getD i Pl.zero).first.toNat + 1)
      rw [List.length_cons]; omega
theorem divide_len {ts : List Tk} {k : Int} {L : List Int} (h : divideV ts k = some L) (hn : ts.length ≤ 64) : L.length ≤ 100 := by
  unfold divideV at h
  split at h
  · injection h with h
    subst h
    have := follow_len (tabV ts k ts.length) (ts.length + 1) 0
    omega
  · cases h
abbrev Rng (w : World) (b r n : Nat) (D : DataW Unit) (left : Lit → Bool) (cnt : Nat) : Prop := w.ranges Try.prog 3 (plainElem Try.prog 4) b r n D left cnt
theorem own_iter {w : World} {b r n cnt : Nat} {D : DataW Unit} {left : Lit → Bool} (h : Rng w b r n D left cnt) {base : Nat} {e : TypeId} {s m : Nat} {v : Value} {xs : List Value} (ho : w.ownsRow base e s v m xs) : v.ownBlock ≠ some r := by
  obtain ⟨es, clock, since, seen, c0, _, _, _, _, hr, _⟩ := h
  rcases ho.2 with ⟨rfl, _⟩ | ⟨g, cap, cur, rfl, _, hh, _⟩
  · simp [Value.ownBlock]
  · intro e
    simp only [Value.ownBlock, Option.some.injEq] at e
    subst e
    rw [hr] at hh
    cases hh
theorem next_b (w : World) {ops : Array Oper} {rest : List Oper} {o : Oper} {a : Act} {Q : Exit → Act → World → Prop} (hg : o.guard = none) (it : Operand) (hop : o.op = Op.next it false)
    (b r n : Nat) (D : DataW Unit) (left : Lit → Bool) (cnt : Nat) (hit : a.eval it = .pointer (some ⟨r, 0, none⟩)) (h : Rng w b r n D left cnt)
    (hDone : (∀ kl, left kl = false) → wpList Try.prog ops Q rest (a.put o.dst (.tuple #[.bool false])) w)
    (hMore : ∀ (x : Int) (cv : Value) (w' : World) (cnt' : Nat), left (.int .i64 x) = true → Rng w' b r n D (fun z => left z && !z.sameKey (.int .i64 x)) cnt' → cnt' < cnt →
      w.grownBy w' (some r) → w'.heap.size = w.heap.size → (Instr.entry (.pointer (some ⟨r, 0, none⟩))).run Try.prog w' = .ok (.tuple #[.int .i64 x, cv]) w' → wpList Try.prog ops Q rest (a.put o.dst (.tuple #[.bool true, .int .i64 x, cv])) w') :
    wpList Try.prog ops Q (o :: rest) a w :=
  wpList_next_ranges w hg it hop 3 intKey (plainElem Try.prog 4) (Value.int .i64) Value.bool (fun key kl hkey => by obtain ⟨x, rfl, _⟩ := Maps.keyOf_int_inv Try.underlying3 hkey; exact ⟨x, rfl⟩) (fun v y hv => bool_inv hv)
    b r n D left cnt hit h (fun _ hl => hDone hl) (fun x c kl y w' cnt' hkey hlk hv hat hrg hlt hgr hsz hen => by
      obtain ⟨x', ex, rfl, hwx⟩ := Maps.keyOf_int_inv Try.underlying3 hkey
      cases ex
      exact hMore x (.bool c) w' cnt' hlk hrg hlt hgr hsz hen)
theorem Ext.none_ {w0 w w' : World} (h : Ext w0 w) (hg : w.grownBy w' none) : Ext w0 w' := Below.grown h hg h.size (fun k hk => by cases hk)
theorem or_three {x y z : Int} {g : Nat} (t : TypeId) (w : World) (h : Blk w g t #[.int .i64 x, .int .i64 y, .int .i64 z]) :
    Calls Try.prog 43 #[.slice (some ⟨g, 0, none⟩) 3 3] w fun e w' => e = .returned (.int .i64 (orV [x, y, z])) ∧ w = w' := or_any _ 3 [x, y, z] w (seg_three h) (by simp)
def BsRel (w : World) (ts : List Tk) (f r : Int) (b rr n : Nat) (D : DataW Unit) (g : Nat) (v lv : Value) (wr : World) : Prop :=
  ∃ (P : List Int) (left : Lit → Bool) (cnt : Nat), g = cnt ∧ lv = .int .i64 (wv ts f r P) ∧ Rng wr b rr n D left cnt ∧ (∀ kl, left kl = true → has D kl = true) ∧ wr.ownsRow w.heap.size 3 1 v P.length (P.flatMap Iv) ∧ P.length ≤ 100 ∧ Ext w wr ∧
    (P = [] ∨ ∃ k, k ∈ lenOut ts ts.length ∧ divideV ts k = some P) ∧ ¬ Beats ts f r [] P ∧ ∀ k, k ∈ lenOut ts ts.length → left (.int .i64 k) = false → ∀ L, divideV ts k = some L → ¬ Beats ts f r L P
theorem left_split {left : Lit → Bool} {x k : Int} (h : (left (.int .i64 k) && !(Lit.int .i64 k).sameKey (.int .i64 x)) = false) : left (.int .i64 k) = false ∨ k = x := by
  rcases hl : left (.int .i64 k) with _ | _
  · exact .inl rfl
  · right
    rw [hl] at h
    rcases hs : (Lit.int .i64 k).sameKey (.int .i64 x) with _ | _
    · rw [hs] at h; cases h
    · have := WideAt.sameKey_eq hs
      injection this

set_option maxRecDepth 100000 in
set_option maxHeartbeats 3200000 in
theorem best_any (A : Option Addr) (c : Nat) (ts : List Tk) (f r : Int) (w : World) (hs : TkSeg w A ts) (hz : refuseV ts f r = 0) (hc : ts.length ≤ c) (hcm : c ≤ maxLen) :
    Calls Try.prog 23 #[.slice A ts.length c, .int .i64 f, .int .i64 r] w (BestPost ts f r w) := by
  obtain ⟨z1, z2, z3, hfb, hrb⟩ := refuse_zero hz
  have HFINE := Lib.hid (allFine_of ts z3)
  have HR := Lib.hid (refusal_any A c ts f r w hs (by omega))
  rw [hz] at HR
  have hn64 : (ts.length : Int) ≤ 64 := by omega
  clear hz z3
  go_enter Try.func23, Try.ntmps23
  go_wp2_with fail
  refine HR.out.mono ?_
  rintro e w1 ⟨rfl, hE1⟩
  clear HR
  go_wp2_with fail
  refine (worst_any A c ts none 0 [] f r w1 (hs.ext hE1) (by omega) Seg.nil (by simp)).mono ?_
  rintro e w2 ⟨rfl, hE2⟩
  have hE3 := Ext.trans hE1 hE2
  clear hE1 hE2
  have HW0 : Hid ((worstV ts [] f r).1 = wv ts f r []) := rfl
  rw [HW0.out]
  generalize (worstV ts [] f r).2 = e2
  go_wp2_with fail
  refine (lengths_any A c ts w2 (hs.ext hE3) z2 hc hcm HFINE.out).mono ?_
  rintro e w3 ⟨b, m, rfl, hb, ⟨D, hown, hIM, hhas⟩, hE4⟩
  have hE5 := Ext.trans hE3 hE4
  have hbw : w.heap.size ≤ b := by have := hE3.size; omega
  clear hE3 hE4 hb
  have HHAS := Lib.hid hhas
  clear hhas hIM
  go_wp2_with (at_range; refine wpList_range_own _ rfl _ 60 rfl 3 4 intKey Try.underlying60 _ b m D rfl hown ?_; intro w4 hrg0 hg0 hs0)
  have hE6 := Ext.none_ hE5 hg0
  have hrw : w.heap.size ≤ w3.heap.size := hE5.size
  clear hE5 hg0 hs0 hown
  generalize w3.heap.size = rr at *
  go_frame
  go_loopg [10, 11] (Maps.size D) (fun g v lv wr => BsRel w ts f r b rr m D g v lv wr)
  case atStart =>
    refine ⟨[], has D, _, rfl, rfl, hrg0, fun _ h => h, own_nil _ _ _ _ _, by simp, hE6, .inl rfl, Beats.irr _ _ _ _, fun k hk hl => ?_⟩
    rw [HHAS.out k] at hl
    simp [hk] at hl
  case round =>
    clear hrg0 hE6
    obtain ⟨P, left, cnt, rfl, rfl, hrg, hlh, hownP, hP, hE, hc1, hc2, hc3⟩ := hrel
    have HLH := Lib.hid hlh
    have HC1 := Lib.hid hc1
    have HC2 := Lib.hid hc2
    have HC3 := Lib.hid hc3
    have HRG := Lib.hid hrg
    have HOWN := Lib.hid hownP
    clear hlh hc1 hc2 hc3 hrg hownP
    go_wp2_with (at_next; refine next_b _ rfl _ rfl b rr m D left _ rfl HRG.out ?_ ?_)
    · intro hl0
      have HL0 := Lib.hid hl0
      clear hl0
      go_wp2_with fail
      go_ret3
      exact ⟨P, u10, rfl, HOWN.out, by omega, hE, HC1.out, HC2.out, fun k hk L hL => HC3.out k hk (HL0.out _) L hL⟩
    · intro x cc w5 cnt5 hlx hrg5 hlt5 hg5 hs5 hen5
      have hE5 : Ext w w5 := Ext.row hE hg5 hrw
      have hownP := HOWN.out.kept hg5 (.inr (own_iter HRG.out HOWN.out))
      have HX := Lib.hid (of_decide_eq_true ((HHAS.out x).symm.trans (HLH.out _ hlx)))
      have HLX := Lib.hid hlx
      have HRG5 := Lib.hid hrg5
      clear hlx hrg5 hg5 hs5 HOWN HRG hE
      have HC3' : Hid (∀ k, k ∈ lenOut ts ts.length → (left (.int .i64 k) && !(Lit.int .i64 k).sameKey (.int .i64 x)) = false → k ≠ x → ∀ L, divideV ts k = some L → ¬ Beats ts f r L P) := fun k hk hl hne => by
        rcases left_split hl with h | h
        · exact HC3.out k hk h
        · exact absurd h hne
      have HLH' : Hid (∀ kl, (left kl && !kl.sameKey (.int .i64 x)) = true → has D kl = true) := fun kl h => HLH.out kl (by simp at h; exact h.1)
      clear HLH HC3 HLX
      go_wp2_with fail
      refine (divide_any A c ts x w5 (hs.ext hE5) z2 HFINE.out).mono ?_
      rintro e w6 hpost
      rcases hpost with ⟨L, v, hL, rfl, hownL, hE6⟩ | ⟨hL, rfl, hE6⟩
      rotate_left
      · have hrg6 := HRG5.out.kept (grownBy_ext (row := none) hE6) (by simp) (by simp)
        have HRG6 := Lib.hid hrg6
        have HL := Lib.hid hL
        clear hrg6 hL
        go_wp2_with fail
        go_roundg cnt5
        case measure => exact hlt5
        case rel =>
          refine ⟨P, _, cnt5, rfl, rfl, HRG6.out, HLH'.out, own_ext hownP hE6, hP, Ext.trans hE5 hE6, HC1.out, HC2.out, fun k hk hl L' hL' => ?_⟩
          by_cases hkx : k = x
          · subst hkx; rw [HL.out] at hL'; cases hL'
          · exact HC3'.out k hk hl hkx L' hL'
      · have hLl := divide_len hL z2
        have hE7 := Ext.trans hE5 hE6
        obtain ⟨AL, cL, rfl, hsL, hcL, _⟩ := own_slice hownL
        have hownP6 := own_ext hownP hE6
        have hrg6 := HRG5.out.kept (grownBy_ext (row := none) hE6) (by simp) (by simp)
        have HRG6 := Lib.hid hrg6
        have HL := Lib.hid hL
        clear hrg6 hL hownP HRG5
        have hownL' := own_base hownL hE5.size
        clear hownL hE5 hE6
        go_wp2_with fail
        refine (worst_any A c ts AL cL L f r w6 (hs.ext hE7) (by omega) hsL (by omega)).mono ?_
        rintro e w7 ⟨rfl, hE8⟩
        have HWL : Hid ((worstV ts L f r).1 = wv ts f r L) := rfl
        rw [HWL.out]
        generalize (worstV ts L f r).2 = e3
        have hE9 := Ext.trans hE7 hE8
        have hownL7 := own_ext hownL' hE8
        have hownP7 := own_ext hownP6 hE8
        have hsL7 := hsL.ext hE8
        have HRG7 := Lib.hid (HRG6.out.kept (grownBy_ext (row := none) hE8) (by simp) (by simp))
        clear HRG6 hownP6 hownL' hE7 hE8 hsL
        obtain ⟨AP, cP, rfl, hsP, hcP, _⟩ := own_slice hownP7
        have HK := Lib.hid (or_key ts f r L P)
        have HBE : Hid (Beats ts f r L P ↔ cmpLs (keyL ts f r L) (keyL ts f r P) < 0) := Iff.rfl
        generalize cmpLs (keyL ts f r L) (keyL ts f r P) = z at HK HBE
        generalize hwl : wv ts f r L = wl at *
        generalize hwp : wv ts f r P = wp at *
        have HWL' := Lib.hid hwl
        have HWP' := Lib.hid hwp
        clear hwl hwp
        go_wp2_with fail
        refine (cmpInt_any _ _ _).mono ?_
        rintro e w' ⟨rfl, rfl⟩
        go_wp2_with fail
        refine (cmpInt_any _ _ _).mono ?_
        rintro e w' ⟨rfl, rfl⟩
        go_wp2_with fail
        refine (scompare_any AL AP cL cP L P w7 hsL7 hsP (by omega) (by omega)).mono ?_
        rintro e w' ⟨rfl, rfl⟩
        go_wp2_with fail
        refine (or_three 3 _ (Blk.new _ _ _)).mono ?_
        rintro e w' ⟨rfl, rfl⟩
        rw [HK.out]
        by_cases hz : z < 0
        · go_wp2_with fail
          go_roundg cnt5
          case measure => exact hlt5
          case rel =>
            have hb := HBE.out.2 hz
            refine ⟨L, _, cnt5, rfl, by rw [HWL'.out], HRG7.out.alloc _, HLH'.out, hownL7.alloc _, hLl, hE9.allocs _, .inr ⟨x, HX.out, HL.out⟩, Beats.over HC2.out hb, fun k hk hl L' hL' => ?_⟩
            by_cases hkx : k = x
            · subst hkx; rw [HL.out] at hL'; injection hL' with hL'; subst hL'; exact Beats.irr _ _ _ _
            · exact Beats.over (HC3'.out k hk hl hkx L' hL') hb
        · go_wp2_with fail
          go_roundg cnt5
          case measure => exact hlt5
          case rel =>
            refine ⟨P, _, cnt5, rfl, by rw [HWP'.out], HRG7.out.alloc _, HLH'.out, hownP7.alloc _, hP, hE9.allocs _, HC1.out, HC2.out, fun k hk hl L' hL' => ?_⟩
            by_cases hkx : k = x
            · subst hkx; rw [HL.out] at hL'; injection hL' with hL'; subst hL'; exact fun h => (by have := HBE.out.1 h; omega)
            · exact HC3'.out k hk hl hkx L' hL'
end Go.Proofs.Ytddcgholnhhcoaa
