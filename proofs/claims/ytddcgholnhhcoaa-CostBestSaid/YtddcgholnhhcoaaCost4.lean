/- Chapter 38: comparing; which plan is better. No statement of the seat is proved here. -/
import Derived.Test.YtddcgholnhhcoaaCost3
import Derived.Deep.RegionHeld3
namespace Go.Proofs.Ytddcgholnhhcoaa
open Go.RowKit
set_option linter.unusedVariables false

def cmpI (a b : Int) : Int := if a < b then -1 else if b < a then 1 else 0
theorem cmpI_bd (a b : Int) : -1 ≤ cmpI a b ∧ cmpI a b ≤ 1 := by unfold cmpI; split <;> (try split) <;> omega
theorem cmpI_zero (a b : Int) : cmpI a b = 0 ↔ a = b := by unfold cmpI; split <;> (try split) <;> omega
theorem cmpI_neg (a b : Int) : cmpI a b < 0 ↔ a < b := by unfold cmpI; split <;> (try split) <;> omega
theorem cmpI_anti (a b : Int) : cmpI b a = - cmpI a b := by unfold cmpI; split <;> split <;> (try split) <;> (try split) <;> omega

set_option maxHeartbeats 400000 in
theorem cmpInt_any (a b : Int) (w : World) : Calls Try.prog 44 #[.int .i64 a, .int .i64 b] w fun e w' => e = .returned (.int .i64 (cmpI a b)) ∧ w = w' := by
  have HV : Hid (cmpI a b = if a < b then -1 else if b < a then 1 else 0) := rfl
  have hn : ∀ z : Int, (z != z) = false := fun z => by simp
  by_cases h1 : a < b
  · go_enter Try.func44, Try.ntmps44
    go_wp2
    go_ret
    exact ⟨ret_int (by rw [HV.out, if_pos h1]), rfl⟩
  · by_cases h2 : b < a
    · go_enter Try.func44, Try.ntmps44
      go_wp2
      go_ret
      exact ⟨ret_int (by rw [HV.out, if_neg (by omega), if_pos h2]), rfl⟩
    · go_enter Try.func44, Try.ntmps44
      go_wp2
      go_ret
      exact ⟨ret_int (by rw [HV.out, if_neg (by omega), if_neg (by omega)]), rfl⟩

/-- the first number that is not 0 -/
def orV : List Int → Int
  | [] => 0
  | x :: xs => if x = 0 then orV xs else x
theorem orV_drop (l : List Int) (j : Nat) (hj : j < l.length) : orV (l.drop j) = if l[j] = 0 then orV (l.drop (j + 1)) else l[j] := by
  rw [List.drop_eq_getElem_cons hj, orV]
def OrRel (w : World) (l : List Int) (g : Nat) (i : Value) (wr : World) : Prop := ∃ j : Nat, j ≤ l.length ∧ i = .int .i64 j ∧ g = l.length - j ∧ wr = w ∧ orV l = orV (l.drop j)
set_option maxHeartbeats 800000 in
theorem or_any (A : Option Addr) (c : Nat) (l : List Int) (w : World) (hs : IntSeg w A l) (hn : l.length ≤ 1000) :
    Calls Try.prog 43 #[.slice A l.length c] w fun e w' => e = .returned (.int .i64 (orV l)) ∧ w = w' := by
  have hn' : (l.length : Int) ≤ 1000 := by omega
  go_enter Try.func43, Try.ntmps43
  go_wp2_with fail
  go_loopg [8] l.length (fun g i wr => OrRel w l g i wr)
  case atStart => exact ⟨0, Nat.zero_le _, rfl, rfl, rfl, rfl⟩
  case round =>
    obtain ⟨j, hj, rfl, rfl, rfl, hq⟩ := hrel
    have HQ := Lib.hid hq
    clear hq
    by_cases hlt : j < l.length
    · obtain ⟨b, off, rfl, p0⟩ := Iv.at_ hs hlt
      have HD := Lib.hid (orV_drop l j hlt)
      generalize l[j] = x at *
      by_cases h0 : x = 0
      · subst h0
        go_wp2_with fail
        go_roundg (l.length - (j + 1))
        case measure => omega
        case rel => exact ⟨j + 1, by omega, by go_num, rfl, rfl, by rw [HQ.out, HD.out]; simp⟩
      · have h0' : (x != 0) = true := by simp [h0]
        have HV : Hid (orV l = x) := by show orV l = x; rw [HQ.out, HD.out, if_neg h0]
        clear h0
        go_wp2_with fail
        go_ret
        exact ⟨ret_int HV.out.symm, rfl⟩
    · have HV : Hid (orV l = 0) := by show orV l = 0; rw [HQ.out, List.drop_of_length_le (by omega)]; rfl
      go_wp2_with fail
      go_ret
      exact ⟨ret_int HV.out.symm, rfl⟩

/-- the order of two lists of numbers -/
def cmpLs : List Int → List Int → Int
  | [], [] => 0
  | [], _ :: _ => -1
  | _ :: _, [] => 1
  | x :: xs, y :: ys => if cmpI x y = 0 then cmpLs xs ys else cmpI x y
def ScRel (w : World) (a b : List Int) (g : Nat) (i : Value) (wr : World) : Prop := ∃ j : Nat, j ≤ a.length ∧ j ≤ b.length ∧ i = .int .i64 j ∧ g = a.length - j ∧ wr = w ∧ cmpLs a b = cmpLs (a.drop j) (b.drop j)
theorem sc_both (a b : List Int) (j : Nat) (ha : j < a.length) (hb : j < b.length) : cmpLs (a.drop j) (b.drop j) = if cmpI a[j] b[j] = 0 then cmpLs (a.drop (j + 1)) (b.drop (j + 1)) else cmpI a[j] b[j] := by
  rw [List.drop_eq_getElem_cons ha, List.drop_eq_getElem_cons hb, cmpLs]
theorem sc_right (a b : List Int) (j : Nat) (ha : j < a.length) (hb : b.length ≤ j) : cmpLs (a.drop j) (b.drop j) = 1 := by
  rw [List.drop_eq_getElem_cons ha, List.drop_of_length_le hb, cmpLs]
theorem sc_left (a b : List Int) (j : Nat) (ha : a.length ≤ j) (hb : j < b.length) : cmpLs (a.drop j) (b.drop j) = -1 := by
  rw [List.drop_eq_getElem_cons hb, List.drop_of_length_le ha, cmpLs]
theorem sc_none (a b : List Int) (j : Nat) (ha : a.length ≤ j) (hb : b.length ≤ j) : cmpLs (a.drop j) (b.drop j) = 0 := by
  rw [List.drop_of_length_le hb, List.drop_of_length_le ha, cmpLs]
set_option maxHeartbeats 1600000 in
theorem scompare_any (A B : Option Addr) (ca cb : Nat) (a b : List Int) (w : World) (ha : IntSeg w A a) (hb : IntSeg w B b) (hn : a.length ≤ 1000) (hm : b.length ≤ 1000) :
    Calls Try.prog 45 #[.slice A a.length ca, .slice B b.length cb] w fun e w' => e = .returned (.int .i64 (cmpLs a b)) ∧ w = w' := by
  have hn' : (a.length : Int) ≤ 1000 := by omega
  have hm' : (b.length : Int) ≤ 1000 := by omega
  go_enter Try.func45, Try.ntmps45
  go_wp2_with fail
  go_loopg [11] a.length (fun g i wr => ScRel w a b g i wr)
  case atStart => exact ⟨0, Nat.zero_le _, Nat.zero_le _, rfl, rfl, rfl, rfl⟩
  case round =>
    obtain ⟨j, hj, hj2, rfl, rfl, rfl, hq⟩ := hrel
    have HQ := Lib.hid hq
    clear hq
    by_cases hlt : j < a.length
    · obtain ⟨ba, oa, rfl, p0⟩ := Iv.at_ ha hlt
      by_cases hlb : j < b.length
      · obtain ⟨bb, ob, rfl, p1⟩ := Iv.at_ hb hlb
        have HD := Lib.hid (sc_both a b j hlt hlb)
        generalize a[j] = x at *
        generalize b[j] = y at *
        have HC := Lib.hid (cmpInt_any x y)
        by_cases h0 : cmpI x y = 0
        · rw [h0] at HC
          have HV : Hid (cmpLs a b = cmpLs (a.drop (j + 1)) (b.drop (j + 1))) := by show cmpLs a b = _; rw [HQ.out, HD.out, if_pos h0]
          clear h0
          go_wp2_with (go_at_call 44; refine (HC.out _).mono ?_; rintro e w' ⟨rfl, rfl⟩)
          go_roundg (a.length - (j + 1))
          case measure => omega
          case rel => exact ⟨j + 1, by omega, by omega, by go_num, rfl, rfl, HV.out⟩
        · have h0' : (cmpI x y != 0) = true := by simp [h0]
          have HV : Hid (cmpLs a b = cmpI x y) := by show cmpLs a b = _; rw [HQ.out, HD.out, if_neg h0]
          generalize cmpI x y = z at *
          clear h0
          go_wp2_with (go_at_call 44; refine (HC.out _).mono ?_; rintro e w' ⟨rfl, rfl⟩)
          go_ret
          exact ⟨ret_int HV.out.symm, rfl⟩
      · have HV : Hid (cmpLs a b = 1) := by show cmpLs a b = _; rw [HQ.out, sc_right a b j hlt (by omega)]
        go_wp2_with fail
        go_ret
        exact ⟨ret_int HV.out.symm, rfl⟩
    · by_cases hlb : j < b.length
      · have hl : a.length < b.length := by omega
        have HV : Hid (cmpLs a b = -1) := by show cmpLs a b = _; rw [HQ.out, sc_left a b j (by omega) hlb]
        go_wp2_with fail
        go_ret
        exact ⟨ret_int HV.out.symm, rfl⟩
      · have hl : ¬ a.length < b.length := by omega
        have HV : Hid (cmpLs a b = 0) := by show cmpLs a b = _; rw [HQ.out, sc_none a b j (by omega) (by omega)]
        go_wp2_with fail
        go_ret
        exact ⟨ret_int HV.out.symm, rfl⟩

/-! ### plans -/
def Pl.cells (p : Pl) : List Value := [.bool p.poss, .int .i64 p.cost, .int .i64 p.number, .int .i64 p.first]
theorem Pl.len (p : Pl) : p.cells.length = 4 := rfl
theorem Pl.one (p : Pl) : ∀ u ∈ p.cells, u.oneCell' = true := by simp [Pl.cells, Value.oneCell']
theorem blk4 {w : World} {g : Nat} {t : TypeId} {p : Pl} (h : Blk w g t p.cells.toArray) : w.cell? ⟨g, 0, none⟩ = some (.bool p.poss) ∧ w.cell? ⟨g, 1, none⟩ = some (.int .i64 p.cost) ∧ w.cell? ⟨g, 2, none⟩ = some (.int .i64 p.number) ∧ w.cell? ⟨g, 3, none⟩ = some (.int .i64 p.first) := by
  simp [h.cell, Pl.cells]
theorem lt_or (p q : Pl) (hp : p.poss = true) (hq : q.poss = true) : p.lt q = decide (orV [cmpI p.cost q.cost, cmpI p.number q.number] < 0) := by
  unfold Pl.lt
  rw [hp, hq]
  simp only [Bool.true_and, Bool.not_true, Bool.false_or]
  rw [Bool.eq_iff_iff]
  simp only [Bool.or_eq_true, Bool.and_eq_true, decide_eq_true_eq]
  simp only [orV]
  by_cases h : cmpI p.cost q.cost = 0
  · rw [if_pos h]
    have h' := (cmpI_zero _ _).1 h
    by_cases k : cmpI p.number q.number = 0
    · rw [if_pos k]; have := (cmpI_zero _ _).1 k; omega
    · rw [if_neg k, cmpI_neg]; omega
  · rw [if_neg h, cmpI_neg]
    have : p.cost ≠ q.cost := fun e => h ((cmpI_zero _ _).2 e)
    omega

theorem Blk.newAt {w : World} {g : Nat} {t : TypeId} {cs : Array Value} (h : w.heap.size = g) : Blk (w.alloc (.cells cs t)) g t cs := by subst h; exact heap_alloc_new w _
theorem Blk.allocs {w : World} {g : Nat} {t : TypeId} {cs : Array Value} (h : Blk w g t cs) (o : Obj) : Blk (w.alloc o) g t cs := h.ext ((Ext.refl w).allocs o)
theorem Blk.drews {w : World} {g : Nat} {t : TypeId} {cs : Array Value} (h : Blk w g t cs) : Blk w.drew g t cs := h
theorem Blk.drewNs {w : World} {g : Nat} {t : TypeId} {cs : Array Value} (h : Blk w g t cs) (n : Nat) : Blk (w.drewN n) g t cs := h
theorem keepPl {W : World} {g g' : Nat} {t t' : TypeId} {a0 a1 a2 a3 b0 b1 b2 b3 : Value} (h : Blk W g t #[a0, a1, a2, a3]) (h' : Blk W g' t' #[b0, b1, b2, b3]) :
    W.cell? ⟨g, 0, none⟩ = some a0 ∧ W.cell? ⟨g, 1, none⟩ = some a1 ∧ W.cell? ⟨g, 2, none⟩ = some a2 ∧ W.cell? ⟨g', 1, none⟩ = some b1 ∧ W.cell? ⟨g', 2, none⟩ = some b2 := by
  simp [h.cell, h'.cell]
theorem seg_two {w : World} {g : Nat} {t : TypeId} {x y : Int} (h : Blk w g t #[.int .i64 x, .int .i64 y]) : IntSeg w (some ⟨g, 0, none⟩) [x, y] := by
  refine ⟨rfl, fun _ => ⟨g, 0, rfl, h.lt, fun j u hu => ?_⟩⟩
  rw [Nat.zero_add, h.cell]
  simpa [Iv] using hu

theorem or_two {x y : Int} {g : Nat} (t : TypeId) (w : World) (h : Blk w g t #[.int .i64 x, .int .i64 y]) :
    Calls Try.prog 43 #[.slice (some ⟨g, 0, none⟩) 2 2] w fun e w' => e = .returned (.int .i64 (orV [x, y])) ∧ w = w' := or_any _ 2 [x, y] w (seg_two h) (by simp)

set_option maxHeartbeats 1600000 in
theorem better_any (p q : Pl) (w : World) :
    Calls Try.prog 55 #[.agg #[.bool p.poss, .int .i64 p.cost, .int .i64 p.number, .int .i64 p.first], .agg #[.bool q.poss, .int .i64 q.cost, .int .i64 q.number, .int .i64 q.first]] w (ExtPost w (.bool (p.lt q))) := by
  have HL := Lib.hid (lt_or p q)
  obtain ⟨pp, pc, pn, pf⟩ := p
  obtain ⟨qp, qc, qn, qf⟩ := q
  simp only at HL ⊢
  rcases qp with _ | _
  · have HV : Hid ((⟨pp, pc, pn, pf⟩ : Pl).lt ⟨false, qc, qn, qf⟩ = pp) := by simp [Pl.lt, Hid]
    go_enter Try.func55, Try.ntmps55
    go_wp2_with fail
    go_ret
    exact ⟨by rw [HV.out]; rfl, ((Ext.refl w).allocs _).allocs _⟩
  have hX := ((Ext.refl w).allocs (.cells #[.bool pp, .int .i64 pc, .int .i64 pn, .int .i64 pf] 83)).allocs (.cells #[.bool true, .int .i64 qc, .int .i64 qn, .int .i64 qf] 83)
  have hB1 := (Blk.new w 83 #[.bool pp, .int .i64 pc, .int .i64 pn, .int .i64 pf]).ext ((Ext.refl _).allocs (.cells #[.bool true, .int .i64 qc, .int .i64 qn, .int .i64 qf] 83))
  have hB2 := Blk.new (w.alloc (.cells #[.bool pp, .int .i64 pc, .int .i64 pn, .int .i64 pf] 83)) 83 #[.bool true, .int .i64 qc, .int .i64 qn, .int .i64 qf]
  rw [show (w.alloc (.cells #[.bool pp, .int .i64 pc, .int .i64 pn, .int .i64 pf] 83)).heap.size = w.heap.size + 1 by simp] at hB2
  have HX := Lib.hid hX
  have K1 := Lib.hid hB1
  have K2 := Lib.hid hB2
  clear hX hB1 hB2
  rcases pp with _ | _
  · have HV : Hid ((⟨false, pc, pn, pf⟩ : Pl).lt ⟨true, qc, qn, qf⟩ = false) := by simp [Pl.lt, Hid]
    go_enter Try.func55, Try.ntmps55
    go_wp2_with fail
    go_quiet (fail)
    go_wp2_with fail
    go_ret
    exact ⟨by rw [HV.out]; rfl, Ext.drewN HX.out _⟩
  · have HV := Lib.hid (HL.out rfl rfl)
    have b1 := cmpI_bd pc qc
    have b2 := cmpI_bd pn qn
    go_enter Try.func55, Try.ntmps55
    go_wp2_with fail
    obtain ⟨W, hW⟩ : ∃ W, (w.alloc (.cells #[.bool true, .int .i64 pc, .int .i64 pn, .int .i64 pf] 83)).alloc (.cells #[.bool true, .int .i64 qc, .int .i64 qn, .int .i64 qf] 83) = W := ⟨_, rfl⟩
    rw [hW] at HX K1 K2 ⊢
    clear hW
    have k1 := K1.out
    have k2 := K2.out
    go_region_held3 (fun w' => w'.cell? ⟨w.heap.size, 0, none⟩ = some (.bool true) ∧ w'.cell? ⟨w.heap.size, 1, none⟩ = some (.int .i64 pc) ∧ w'.cell? ⟨w.heap.size, 2, none⟩ = some (.int .i64 pn) ∧ w'.cell? ⟨w.heap.size + 1, 1, none⟩ = some (.int .i64 qc) ∧ w'.cell? ⟨w.heap.size + 1, 2, none⟩ = some (.int .i64 qn))
      (first | (refine keepPl (t := 83) (t' := 83) (a3 := .int .i64 pf) (b0 := .bool true) (b3 := .int .i64 qf) ?_ ?_ <;> (repeat (first | with_reducible exact k1 | with_reducible exact k2 | with_reducible refine Blk.allocs ?_ _ | with_reducible refine Blk.drews ?_ | with_reducible refine Blk.drewNs ?_ _))))
      (first
        | (go_at_call 44; refine (cmpInt_any _ _ _).mono ?_; rintro e w' ⟨rfl, rfl⟩)
        | (go_at_call 43; refine (or_two (x := cmpI pc qc) (y := cmpI pn qn) 3 _ ?_).mono ?_; (repeat (first | with_reducible exact Blk.new _ _ _ | with_reducible refine Blk.drews ?_ | with_reducible refine Blk.drewNs ?_ _)); rintro e w' ⟨rfl, rfl⟩))
    generalize orV [cmpI pc qc, cmpI pn qn] = z at *
    go_wp2_with fail
    go_ret
    exact ⟨by rw [HV.out]; rfl, Below.drew (HX.out.allocs _)⟩
end Go.Proofs.Ytddcgholnhhcoaa
