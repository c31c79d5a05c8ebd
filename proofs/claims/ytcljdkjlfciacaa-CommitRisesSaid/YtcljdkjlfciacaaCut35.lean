/- Cut and Ints of the maker. No statement of the seat is proved here. -/
import Derived.Test.YtcljdkjlfciacaaMk9
namespace Go.Proofs.Ytcljdkjlfciacaa
open Go.RowKit
set_option linter.unusedVariables false

/-- a new list of ints -/
def IntsPost (c : Nat) (bs : List Int) (k : Nat) (w W : World) (P : List Int → Prop) (e : Ending) (w' : World) : Prop :=
  ∃ (v : Value) (X : List Int), e = .returned v ∧ w'.ownsRow W.heap.size 3 1 v X.length (X.flatMap Iv) ∧ P X ∧ Drew c bs k w w' ∧ W.grownBy w' (some c)
theorem grown_own {a b d : World} {c : Nat} {base : Nat} {e : TypeId} {s n : Nat} {v : Value} {xs : List Value} (h : a.grownBy b (some c)) (ho : b.ownsRow base e s v n xs) (hb : a.heap.size ≤ base) (hg : b.grownBy d v.ownBlock) : a.grownBy d (some c) :=
  ⟨hg.os.trans h.os, hg.tape.trans h.tape, hg.output.trans h.output, Nat.le_trans h.size hg.size, fun k hk hne => (hg.block k (Nat.lt_of_lt_of_le hk h.size) (fun e => by have := (ho.lt k e.symm).1; omega)).trans (h.block k hk hne)⟩
/-- the cut is made so far -/
structure CtAt (c : Nat) (bs : List Int) (k : Nat) (w W : World) (g3 : Nat) (A0 : Option Addr) (c0 : Nat) (v1 v2 : Value) (Ls : List Int) (v : Value) (X : List Int) (wr : World) : Prop where
  d : Drew c bs k w wr
  g : W.grownBy wr (some c)
  b : Blk wr g3 32 #[.slice A0 Ls.length c0, v1, v2]
  l : IntSeg wr A0 Ls
  o : wr.ownsRow (g3 + 1) 3 1 v X.length (X.flatMap Iv)
section
variable {c : Nat} {bs : List Int} {k : Nat} {w W : World} {g3 : Nat} {A0 : Option Addr} {c0 : Nat} {v1 v2 : Value} {Ls : List Int} {v : Value} {X : List Int} {wr w2 : World}
theorem CtAt.ext (h : CtAt c bs k w W g3 A0 c0 v1 v2 Ls v X wr) (hE : Ext wr w2) : CtAt c bs k w W g3 A0 c0 v1 v2 Ls v X w2 :=
  ⟨h.d.post hE, grownBy_trans h.g (grownBy_ext hE), h.b.ext hE, h.l.ext hE, own_ext h.o hE⟩
theorem CtAt.draw (h : CtAt c bs k w W g3 A0 c0 v1 v2 Ls v X wr) (hD : Drew c bs k w w2) (hg : wr.grownBy w2 (some c)) (h3 : c < g3) (hf : Far w.heap.size A0) (hc : c < w.heap.size) : CtAt c bs k w W g3 A0 c0 v1 v2 Ls v X w2 :=
  ⟨hD, grownBy_trans h.g hg, h.b.grown hg h3, h.l.grownFar hf hg hc, own_keptc h.o hg (by omega)⟩
theorem CtAt.push {v' : Value} {x : Int} (h : CtAt c bs k w W g3 A0 c0 v1 v2 Ls v X wr) (hown : w2.ownsRow (g3 + 1) 3 1 v' (X ++ [x]).length ((X ++ [x]).flatMap Iv)) (hg : wr.grownBy w2 v.ownBlock) (hW : W.heap.size ≤ g3) (hw : w.heap.size ≤ g3) (hc : c < w.heap.size) (hA : 0 < Ls.length → ∀ ad, A0 = some ad → ad.block < g3) :
    CtAt c bs k w W g3 A0 c0 v1 v2 Ls v' (X ++ [x]) w2 := by
  refine ⟨h.d.grown hg (fun r hr => by have := (h.o.lt r hr).1; omega) hc, grown_own h.g h.o (by omega) hg, (hg.block g3 h.b.lt (fun e => by have := (h.o.lt g3 e.symm).1; omega)).trans h.b, h.l.grown hg (fun hn ad hA' e => ?_), hown⟩
  have := (h.o.lt ad.block e.symm).1
  have := hA hn ad hA'
  omega
end
def CtRel (c : Nat) (bs : List Int) (k : Nat) (w W : World) (g3 : Nat) (A0 : Option Addr) (c0 : Nat) (v1 v2 : Value) (Ls : List Int) (g : Nat) (sv iv : Value) (wr : World) : Prop :=
  ∃ (q : Nat) (Av : Option Addr) (cv : Nat) (X : List Int), q ≤ Ls.length ∧ iv = .int .i64 q ∧ sv = .slice Av X.length cv ∧ g = Ls.length - q ∧ CtAt c bs k w W g3 A0 c0 v1 v2 Ls (.slice Av X.length cv) X wr ∧ Hid (X.length = q ∧ ∀ r, r < q → 0 ≤ elX X r ∧ elX X r ≤ elX Ls r)
theorem elX_push {X : List Int} {x : Int} {r : Nat} : elX (X ++ [x]) r = if r < X.length then elX X r else if r = X.length then x else 0 := by
  unfold elX
  rw [List.getD_eq_getElem?_getD, List.getD_eq_getElem?_getD, List.getElem?_append]
  split
  · rfl
  · split
    · rename_i h; subst h; simp
    · rw [List.getElem?_eq_none (by simp only [List.length_singleton]; omega)]; rfl
set_option maxRecDepth 100000 in
set_option maxHeartbeats 3200000 in
theorem cut_any (c : Nat) (bs : List Int) (k : Nat) (w W : World) (A0 : Option Addr) (c0 : Nat) (Ls : List Int) (v1 v2 : Value) (hD : Drew c bs k w W) (hl : IntSeg W A0 Ls) (hf : Far w.heap.size A0) (hcl : c < w.heap.size) (hn : Ls.length ≤ 4) (hb : ∀ q, q < Ls.length → 0 ≤ elX Ls q ∧ elX Ls q ≤ 60)
    (hv : v1.oneCell' = true ∧ v2.oneCell' = true) :
    Calls Try.prog 17 #[.pointer (some ⟨c, 0, none⟩), .agg #[.slice A0 Ls.length c0, v1, v2]] W (IntsPost c bs k w W (fun X => X.length = Ls.length ∧ ∀ r, r < Ls.length → 0 ≤ elX X r ∧ elX X r ≤ elX Ls r)) := by
  have hcW : c < W.heap.size := Nat.lt_of_lt_of_le hcl hD.1.size
  have hX := (Ext.refl W).allocs (.cells #[.slice A0 Ls.length c0, v1, v2] 32)
  have hC0 : CtAt c bs k w W W.heap.size A0 c0 v1 v2 Ls (.slice none 0 0) [] (W.alloc (.cells #[.slice A0 Ls.length c0, v1, v2] 32)) := ⟨hD.post hX, grownBy_ext hX, Blk.new W _ _, hl.ext hX, own_nilv _ _ _ _⟩
  have hAb : 0 < Ls.length → ∀ ad, A0 = some ad → ad.block < W.heap.size := fun hn => hl.under hn
  have hww : w.heap.size ≤ W.heap.size := hD.1.size
  obtain ⟨g3, hg3⟩ : ∃ g3, W.heap.size = g3 := ⟨_, rfl⟩
  obtain ⟨w1, hw1⟩ : ∃ w1, W.alloc (.cells #[.slice A0 Ls.length c0, v1, v2] 32) = w1 := ⟨_, rfl⟩
  rw [hw1, hg3] at hC0
  rw [hg3] at hAb hww hcW
  have HC0 := Lib.hid hC0
  have HA := Lib.hid hAb
  have HB := Lib.hid hb
  have hgW : W.heap.size ≤ g3 := by omega
  clear hX hl hC0 hD hAb hb
  go_enter Try.func17, Try.ntmps17
  go_upto_region 3 with fail
  try rw [hw1]
  try rw [hg3]
  have HG3 := Lib.hid hg3
  clear hw1 hg3
  go_loopg [5, 6] Ls.length (fun g sv iv wr => CtRel c bs k w W g3 A0 c0 v1 v2 Ls g sv iv wr)
  case atStart => exact ⟨0, none, 0, [], Nat.zero_le _, rfl, rfl, rfl, HC0.out, (⟨rfl, fun r hr => absurd hr (Nat.not_lt_zero _)⟩ : _ ∧ _)⟩
  case round =>
    clear HC0
    obtain ⟨q, Av, cv, X, hq, rfl, rfl, rfl, hC, HX⟩ := hrel
    obtain ⟨⟨x0, _, _⟩, _, _, _⟩ := blk3 hC.b
    by_cases hlt : q < Ls.length
    · have hlb := HB.out q hlt
      obtain ⟨bL, oL, hAL, pq⟩ := Iv.at_ hC.l hlt
      rw [← elX_at hlt] at pq
      subst hAL
      have hq0 : (0 : Int) ≤ (q : Int) := by omega
      have hq1 : (q : Int) < (Ls.length : Int) := by omega
      have hw1 : IntKind.i64.wrap (elX Ls q + 1) = elX Ls q + 1 := IntWalk.i64_in _ (by omega)
      have hX60 : X.length ≤ 4 := by have := HX.out.1; omega
      have HC := Lib.hid hC
      clear hC
      go_upto_region 5 with fail
      refine wp_region_sched (by kernel_rfl) 17 [(0, true), (1, true), (2, true), (3, true), (4, true), (5, true), (6, true), (7, true), (8, true), (9, true), (10, true), (11, true), (12, true), (13, false), (14, true), (15, false), (16, false), (17, false)] (fun w' => w'.cell? ⟨g3, 0, none⟩ = some (.slice (some ⟨bL, oL, none⟩) Ls.length c0) ∧ w'.cell? ⟨bL, oL + q, none⟩ = some (.int .i64 (elX Ls q))) (by kernel_rfl) (fun _ _ dd _ _ h => by cases dd <;> exact h) ⟨x0, pq⟩ (fun hHeld => ?_)
      clear x0 pq
      iterate 13 ((refine sched_read (v := ?_) rfl (Or.inl ⟨by rfl, ?_⟩) hHeld ?_; rotate_left 1; · (intro w' hSw; obtain ⟨t0, t1⟩ := hSw; go_simp; (first | done | with_reducible rfl))); (try simp only [Act.put, List.setIfInBounds_toArray, List.set_cons_zero, List.set_cons_succ]))
      refine sched_eff rfl (fun K hK => ?_)
      go_simp
      refine (next_on HC.out.d (Below.drew (Ext.refl _)) (elX Ls q + 1) (by omega) (by omega)).mono ?_
      rintro e w6 ⟨r6, rfl, ⟨hr60, hr61⟩, hD6, hg6⟩
      have HC6 := Lib.hid ((HC.out.ext (Below.drew (Ext.refl _))).draw hD6 hg6 hcW hf hcl)
      clear hD6 hg6
      obtain ⟨⟨x0, _, _⟩, _, _, _⟩ := blk3 HC6.out.b
      have pq := Iv.cellX HC6.out.l hlt
      have hw2 : IntKind.i64.wrap (elX Ls q - r6) = elX Ls q - r6 := IntWalk.i64_in _ (by omega)
      go_wp2_with fail
      refine hK.out _ _ ⟨x0, pq⟩ (fun hHeld => ?_)
      clear hK K
      try simp only [Act.put, List.setIfInBounds_toArray, List.set_cons_zero, List.set_cons_succ]
      iterate 1 ((refine sched_read (v := ?_) rfl (Or.inl ⟨by rfl, ?_⟩) hHeld ?_; rotate_left 1; · (intro w' hSw; obtain ⟨t0, t1⟩ := hSw; go_simp; (first | done | with_reducible rfl))); (try simp only [Act.put, List.setIfInBounds_toArray, List.set_cons_zero, List.set_cons_succ]))
      have hEa : Ext w6 (w6.alloc (.cells (Iv (elX Ls q - r6)).toArray 3)) := (Ext.refl w6).allocs _
      have HBa : Hid (Blk (w6.alloc (.cells (Iv (elX Ls q - r6)).toArray 3)) w6.heap.size 3 (Iv (elX Ls q - r6)).toArray) := Blk.new w6 _ _
      have HCa := Lib.hid (HC6.out.ext hEa)
      refine sched_eff rfl (fun K hK => ?_)
      go_simp
      refine hK.out _ _ ⟨hEa.keepCellM x0, hEa.keepCellM pq⟩ (fun hHeld => ?_)
      clear hK K
      try simp only [Act.put, List.setIfInBounds_toArray, List.set_cons_zero, List.set_cons_succ]
      clear x0 pq
      have hza : g3 + 1 ≤ (w6.alloc (.cells (Iv (elX Ls q - r6)).toArray 3)).heap.size := by have := HCa.out.b.lt; omega
      refine sched_eff rfl (fun K hK => ?_)
      refine step_push_lies Iv 1 8 Iv.len Iv.one (by omega) (by rfl) _ _ _ (by rfl) (g3 + 1) 3 Try.underlying28 (by kernel_rfl) (.slice Av X.length cv) X (elX Ls q - r6) w6.heap.size (by rfl) HCa.out.o (by rfl) (Seg.ofBlk HBa.out rfl) (by unfold maxLen; omega) (by omega) hza ?_
      intro g9 c9 w9 hown9 hg9 hd9
      have HC9 := Lib.hid (HCa.out.push hown9 hg9 hgW hww hcl HA.out)
      obtain ⟨⟨x0, _, _⟩, _, _, _⟩ := blk3 HC9.out.b
      have pq := Iv.cellX HC9.out.l hlt
      refine hK.out _ _ ⟨x0, pq⟩ (fun hHeld => ?_)
      clear hK K
      try simp only [Act.put, List.setIfInBounds_toArray, List.set_cons_zero, List.set_cons_succ]
      clear x0 pq hown9 hg9 hd9
      refine sched_tail rfl (by decide) (fun K hK => ?_)
      go_simp
      refine hK.out _ _ ?_
      clear hK K
      refine sched_done ?_
      have hXX : Hid ((X ++ [elX Ls q - r6]).length = q + 1 ∧ ∀ r, r < q + 1 → 0 ≤ elX (X ++ [elX Ls q - r6]) r ∧ elX (X ++ [elX Ls q - r6]) r ≤ elX Ls r) := ⟨by rw [List.length_append, List.length_singleton, HX.out.1], fun r hr => by
        rw [elX_push, HX.out.1]
        by_cases h1 : r < q
        · rw [if_pos h1]; exact HX.out.2 r h1
        · have h2 : r = q := by omega
          subst h2
          rw [if_neg h1, if_pos rfl]
          omega⟩
      have hlen9 : (X ++ [elX Ls q - r6]).length = X.length + 1 := by simp
      obtain ⟨X9, hX9⟩ : ∃ X9, X ++ [elX Ls q - r6] = X9 := ⟨_, rfl⟩
      rw [hX9] at HC9 hXX hlen9
      rw [← hlen9] at HC9 ⊢
      clear hX9 hlen9
      go_wp2_with fail
      go_roundg (Ls.length - (q + 1))
      case measure => omega
      case rel => exact ⟨q + 1, _, _, X9, by omega, by go_num, rfl, rfl, HC9.out, hXX⟩
    · obtain rfl : q = Ls.length := by omega
      have HC := Lib.hid hC
      clear hC
      go_wp2_with fail
      go_ret
      exact ⟨_, X, rfl, own_base HC.out.o (by have := HG3.out; omega), HX.out, HC.out.d, HC.out.g⟩

structure ItAt (c : Nat) (bs : List Int) (k : Nat) (w W : World) (v : Value) (X : List Int) (wr : World) : Prop where
  d : Drew c bs k w wr
  g : W.grownBy wr (some c)
  o : wr.ownsRow W.heap.size 3 1 v X.length (X.flatMap Iv)
  w : w.heap.size ≤ W.heap.size
theorem ItAt.push {c : Nat} {bs : List Int} {k : Nat} {w W : World} {v v9 : Value} {X : List Int} {x : Int} {wr w9 : World} (h : ItAt c bs k w W v X wr) (hown : w9.ownsRow W.heap.size 3 1 v9 (X ++ [x]).length ((X ++ [x]).flatMap Iv)) (hg : wr.grownBy w9 v.ownBlock) (hc : c < w.heap.size) :
    ∃ A9 c9 X9, v9 = .slice A9 X9.length c9 ∧ X9.length = X.length + 1 ∧ ItAt c bs k w W (.slice A9 X9.length c9) X9 w9 := by
  obtain ⟨A9, c9, rfl, _, _, _⟩ := own_slice hown
  have hw := h.d.1.size
  exact ⟨A9, c9, X ++ [x], rfl, by simp, h.d.grown hg (fun r hr => by have := (h.o.lt r hr).1; have := h.w; omega) hc, grown_own h.g h.o (Nat.le_refl _) hg, hown, h.w⟩
def ItRel (c : Nat) (bs : List Int) (k : Nat) (w W : World) (m : Nat) (g : Nat) (sv iv : Value) (wr : World) : Prop :=
  ∃ (j : Nat) (Av : Option Addr) (cv : Nat) (X : List Int), j ≤ m ∧ iv = .int .i64 j ∧ sv = .slice Av X.length cv ∧ j = g ∧ ItAt c bs k w W (.slice Av X.length cv) X wr ∧ Hid (X.length + j ≤ m)
set_option maxHeartbeats 1600000 in
theorem ints_any (c : Nat) (bs : List Int) (k : Nat) (w W : World) (m : Nat) (hD : Drew c bs k w W) (hcl : c < w.heap.size) (hm : m ≤ 60) :
    Calls Try.prog 18 #[.pointer (some ⟨c, 0, none⟩), .int .i64 m] W (IntsPost c bs k w W (fun X => X.length ≤ m)) := by
  have hcW : c < W.heap.size := Nat.lt_of_lt_of_le hcl hD.1.size
  have hww : w.heap.size ≤ W.heap.size := hD.1.size
  have hm1 : IntKind.i64.wrap ((m : Int) + 1) = (m : Int) + 1 := IntWalk.i64_in _ (by omega)
  have HD := Lib.hid hD
  clear hD
  go_enter Try.func18, Try.ntmps18
  go_wp2_with fail
  refine (next_on HD.out (Ext.refl _) ((m : Int) + 1) (by omega) (by omega)).mono ?_
  rintro e w1 ⟨r, rfl, ⟨hr0, hr1⟩, hD1, hg1⟩
  obtain ⟨j0, rfl⟩ : ∃ j : Nat, r = (j : Int) := ⟨r.toNat, by omega⟩
  have HI : Hid (ItAt c bs k w W (.slice none 0 0) [] w1) := ⟨hD1, hg1, own_nilv _ _ _ _, hww⟩
  clear hD1 hg1 HD
  go_wp2_with fail
  go_loopg [5, 6] j0 (fun g sv iv wr => ItRel c bs k w W m g sv iv wr)
  case atStart => exact ⟨j0, none, 0, [], by omega, rfl, rfl, rfl, HI.out, (by show 0 + j0 ≤ m; omega : ([] : List Int).length + j0 ≤ m)⟩
  case round =>
    clear HI
    obtain ⟨j, Av, cv, X, hj, rfl, rfl, rfl, hI, HX⟩ := hrel
    by_cases hlt : 0 < j
    · have hX60 : X.length ≤ 60 := by have := HX.out; omega
      have dj : decide ((0 : Int) < (j : Int)) = true := decide_eq_true (by omega)
      have HI := Lib.hid hI
      clear hI
      go_wp2_with fail
      refine (int_on HI.out.d (Ext.refl _)).mono ?_
      rintro e w2 ⟨x, rfl, -, hD2, hg2⟩
      have HI2 : Hid (ItAt c bs k w W (.slice Av X.length cv) X w2) := ⟨hD2, grownBy_trans HI.out.g hg2, own_keptc HI.out.o hg2 hcW, hww⟩
      have hz2 := hg2.size
      have hz3 := HI.out.g.size
      clear hD2 hg2
      go_wp2_with (at_builtin; refine wpList_push_at Iv 1 8 Iv.len Iv.one (by omega) rfl _ _ _ rfl W.heap.size 3 Try.underlying28 (by kernel_rfl) (.slice Av X.length cv) X x w2.heap.size rfl HI2.out.o rfl rfl (by unfold maxLen; omega) (by omega) (by omega) ?_; intro v9 w9 hown9 hg9; obtain ⟨A9, c9, X9, rfl, hX9, hI9⟩ := HI2.out.push hown9 hg9 hcl; have HI9 := Lib.hid hI9; have HX9 := Lib.hid hX9; clear hown9 hg9 hI9 hX9)
      have hXX : Hid (X9.length + (j - 1) ≤ m) := by show X9.length + (j - 1) ≤ m; have := HX.out; have := HX9.out; omega
      have hwj : IntKind.i64.wrap ((j : Int) - 1) = ((j - 1 : Nat) : Int) := by rw [show (j : Int) - 1 = ((j - 1 : Nat) : Int) by omega]; exact IntWalk.i64_in _ (by omega)
      go_wp2_with fail
      go_roundg (j - 1)
      case measure => omega
      case rel => exact ⟨j - 1, _, _, X9, by omega, by rw [show ((j : Int) - 1) = ((j - 1 : Nat) : Int) by omega], rfl, rfl, HI9.out, hXX⟩
    · obtain rfl : j = 0 := by omega
      have HI := Lib.hid hI
      clear hI
      go_wp2_with fail
      go_ret
      exact ⟨_, X, rfl, HI.out.o, by have := HX.out; show X.length ≤ m; omega, HI.out.d, HI.out.g⟩
end Go.Proofs.Ytcljdkjlfciacaa
