/- Receipts: their cells, and the order by which they are sorted. No statement of the seat is proved here. -/
import Derived.Test.YtooegndajfopkaaBase3
import Derived.Test.YtooegndajfopkaaCodesN
import Derived.Test.YtooegndajfopkaaSymDefs
import Derived.Deep.RegionHeld3
import Derived.Lib.QuietBelow
namespace Go.Proofs.Ytooegndajfopkaa
open Go.RowKit Go.Shelf Go.Lib Go.Sort
set_option linter.unusedVariables false
set_option maxRecDepth 100000

/-- a receipt: who sent, its number, its value -/
structure Rc where
  frm : Int
  ssn : Int
  val : Int
deriving DecidableEq
instance : Inhabited Rc := ⟨⟨0, 0, 0⟩⟩
def Rc.cells (r : Rc) : List Value := [.int .i64 r.frm, .int .i64 r.ssn, .int .i64 r.val]
theorem Rc.len (r : Rc) : r.cells.length = 3 := rfl
theorem Rc.one (r : Rc) : ∀ u ∈ r.cells, u.oneCell' = true := by simp [Rc.cells, Value.oneCell']
abbrev RcSeg (w : World) (A : Option Addr) (l : List Rc) : Prop := Seg w 3 A l.length (l.flatMap Rc.cells)
theorem Rc.at_ {w : World} {A : Option Addr} {l : List Rc} (h : RcSeg w A l) {j : Nat} (hj : j < l.length) :
    ∃ b off, A = some ⟨b, off, none⟩ ∧ w.cell? ⟨b, off + j * 3, none⟩ = some (.int .i64 l[j].frm) ∧ w.cell? ⟨b, off + j * 3 + 1, none⟩ = some (.int .i64 l[j].ssn) ∧ w.cell? ⟨b, off + j * 3 + 2, none⟩ = some (.int .i64 l[j].val) := by
  obtain ⟨b, off, hA, _, hc⟩ := Seg.at_ h Rc.len hj
  exact ⟨b, off, hA, hc 0 _ rfl, hc 1 _ rfl, hc 2 _ rfl⟩
/-- new blocks alone, and no fewer draws -/
def ExtD (w w' : World) : Prop := Ext w w' ∧ w.drawn ≤ w'.drawn
theorem ExtD.refl (w : World) : ExtD w w := ⟨Ext.refl w, Nat.le_refl _⟩
theorem ExtD.trans {a b c : World} (h : ExtD a b) (k : ExtD b c) : ExtD a c := ⟨Ext.trans h.1 k.1, Nat.le_trans h.2 k.2⟩
theorem ExtD.allocs {a w : World} (h : ExtD a w) (o : Obj) : ExtD a (w.alloc o) := ⟨h.1.allocs o, h.2⟩
theorem ExtD.drewN {a w : World} (h : ExtD a w) (n : Nat) : ExtD a (w.drewN n) := ⟨h.1.drewN n, Nat.le_trans h.2 (Nat.le_add_right _ _)⟩
theorem ExtD.drew1 (w : World) : ExtD w w.drew := ⟨Below.drew (Ext.refl w), Nat.le_succ _⟩
def cmpI (a b : Int) : Int := if a < b then -1 else if b < a then 1 else 0
theorem cmpI_bd (a b : Int) : -1 ≤ cmpI a b ∧ cmpI a b ≤ 1 := by unfold cmpI; split <;> (try split) <;> omega
theorem cmpI_zero (a b : Int) : cmpI a b = 0 ↔ a = b := by unfold cmpI; split <;> (try split) <;> omega
theorem cmpI_neg (a b : Int) : cmpI a b < 0 ↔ a < b := by unfold cmpI; split <;> (try split) <;> omega
theorem cmpI_anti (a b : Int) : cmpI b a = - cmpI a b := by unfold cmpI; split <;> split <;> (try split) <;> (try split) <;> omega

set_option maxHeartbeats 400000 in
theorem cmpInt_any (a b : Int) (w : World) : Calls Try.prog 35 #[.int .i64 a, .int .i64 b] w fun e w' => e = .returned (.int .i64 (cmpI a b)) ∧ w = w' := by
  have HV : Hid (cmpI a b = if a < b then -1 else if b < a then 1 else 0) := rfl
  have hn : ∀ z : Int, (z != z) = false := fun z => by simp
  by_cases h1 : a < b
  · go_enter Try.func35, Try.ntmps35
    go_wp2
    go_ret
    exact ⟨ret_int (by rw [HV.out, if_pos h1]), rfl⟩
  · by_cases h2 : b < a
    · go_enter Try.func35, Try.ntmps35
      go_wp2
      go_ret
      exact ⟨ret_int (by rw [HV.out, if_neg (by omega), if_pos h2]), rfl⟩
    · go_enter Try.func35, Try.ntmps35
      go_wp2
      go_ret
      exact ⟨ret_int (by rw [HV.out, if_neg (by omega), if_neg (by omega)]), rfl⟩

/-- the first number that is not 0 -/
def orV : List Int → Int
  | [] => 0
  | x :: xs => if x = 0 then orV xs else x
theorem orV_drop (l : List Int) (j : Nat) (hj : j < l.length) : orV (l.drop j) = if l[j] = 0 then orV (l.drop (j + 1)) else l[j] := by
  rw [List.drop_eq_getElem_cons hj, orV]
def OrRel (w : World) (l : List Int) (g : Nat) (i : Value) (wr : World) : Prop := ∃ j : Nat, j ≤ l.length ∧ i = .int .i64 j ∧ g = l.length - j ∧ wr = w ∧ orV l = orV (l.drop j)
set_option maxHeartbeats 800000 in
theorem or_any (A : Option Addr) (c : Nat) (l : List Int) (w : World) (hs : IntSeg w A l) (hn : l.length ≤ 1000) :
    Calls Try.prog 34 #[.slice A l.length c] w fun e w' => e = .returned (.int .i64 (orV l)) ∧ w = w' := by
  have hn' : (l.length : Int) ≤ 1000 := by omega
  go_enter Try.func34, Try.ntmps34
  go_wp2_with fail
  go_loopg [8] l.length (fun g i wr => OrRel w l g i wr)
  case atStart => exact ⟨0, Nat.zero_le _, rfl, rfl, rfl, rfl⟩
  case round =>
    obtain ⟨j, hj, rfl, rfl, rfl, hq⟩ := hrel
    have HQ := Lib.hid hq
    clear hq
    by_cases hlt : j < l.length
    · obtain ⟨b, off, rfl, p0⟩ := Iv.at_ hs hlt
      have HD := Lib.hid (orV_drop l j hlt)
      generalize l[j] = x at *
      by_cases h0 : x = 0
      · subst h0
        go_wp2_with fail
        go_roundg (l.length - (j + 1))
        case measure => omega
        case rel => exact ⟨j + 1, by omega, by go_num, rfl, rfl, by rw [HQ.out, HD.out]; simp⟩
      · have h0' : (x != 0) = true := by simp [h0]
        have HV : Hid (orV l = x) := by show orV l = x; rw [HQ.out, HD.out, if_neg h0]
        clear h0
        go_wp2_with fail
        go_ret
        exact ⟨ret_int HV.out.symm, rfl⟩
    · have HV : Hid (orV l = 0) := by show orV l = 0; rw [HQ.out, List.drop_of_length_le (by omega)]; rfl
      go_wp2_with fail
      go_ret
      exact ⟨ret_int HV.out.symm, rfl⟩

theorem Blk.newAt {w : World} {g : Nat} {t : TypeId} {cs : Array Value} (h : w.heap.size = g) : Blk (w.alloc (.cells cs t)) g t cs := by subst h; exact heap_alloc_new w _
theorem Blk.allocs {w : World} {g : Nat} {t : TypeId} {cs : Array Value} (h : Blk w g t cs) (o : Obj) : Blk (w.alloc o) g t cs := h.ext ((Ext.refl w).allocs o)
theorem Blk.drews {w : World} {g : Nat} {t : TypeId} {cs : Array Value} (h : Blk w g t cs) : Blk w.drew g t cs := h
theorem Blk.drewNs {w : World} {g : Nat} {t : TypeId} {cs : Array Value} (h : Blk w g t cs) (n : Nat) : Blk (w.drewN n) g t cs := h
theorem seg_two {w : World} {g : Nat} {t : TypeId} {x y : Int} (h : Blk w g t #[.int .i64 x, .int .i64 y]) : IntSeg w (some ⟨g, 0, none⟩) [x, y] := by
  refine ⟨rfl, fun _ => ⟨g, 0, rfl, h.lt, fun j u hu => ?_⟩⟩
  rw [Nat.zero_add, h.cell]
  simpa [Iv] using hu

theorem or_two {x y : Int} {g : Nat} (t : TypeId) (w : World) (h : Blk w g t #[.int .i64 x, .int .i64 y]) :
    Calls Try.prog 34 #[.slice (some ⟨g, 0, none⟩) 2 2] w fun e w' => e = .returned (.int .i64 (orV [x, y])) ∧ w = w' := or_any _ 2 [x, y] w (seg_two h) (by simp)

theorem grown_of_extD {w w' : World} (h : ExtD w w') : ∃ q os', w' = grow (w.drewN q) os' := by
  obtain ⟨p, hp⟩ := regrown_of_below h.1
  refine ⟨w'.drawn - w.drawn, p.os, ?_⟩
  have e : w'.drawn = p.d := by rw [hp]; rfl
  have hd : redrawn w p.d = w.drewN (w'.drawn - w.drawn) := by
    have := h.2
    unfold redrawn World.drewN
    congr 1
    omega
  rw [hp]
  conv => lhs; rw [hd]
  rw [hp]

theorem keepRc {W : World} {g g' : Nat} {t t' : TypeId} {a0 a1 a2 b0 b1 b2 : Value} (h : Blk W g t #[a0, a1, a2]) (h' : Blk W g' t' #[b0, b1, b2]) :
    W.cell? ⟨g, 0, none⟩ = some a0 ∧ W.cell? ⟨g, 1, none⟩ = some a1 ∧ W.cell? ⟨g', 0, none⟩ = some b0 ∧ W.cell? ⟨g', 1, none⟩ = some b1 := by
  simp [h.cell, h'.cell]
def cmpRc (a b : Rc) : Int := orV [cmpI a.frm b.frm, cmpI a.ssn b.ssn]
set_option maxHeartbeats 1600000 in
theorem compare_rc (a b : Rc) (w : World) : Calls Try.prog 33 #[.agg #[.int .i64 a.frm, .int .i64 a.ssn, .int .i64 a.val], .agg #[.int .i64 b.frm, .int .i64 b.ssn, .int .i64 b.val]] w (fun e w' => e = .returned (.int .i64 (cmpRc a b)) ∧ ExtD w w') := by
  obtain ⟨pf, ps, pv⟩ := a
  obtain ⟨qf, qs, qv⟩ := b
  have hX := ((ExtD.refl w).allocs (.cells #[.int .i64 pf, .int .i64 ps, .int .i64 pv] 54)).allocs (.cells #[.int .i64 qf, .int .i64 qs, .int .i64 qv] 54)
  have hB1 := (Blk.new w 54 #[.int .i64 pf, .int .i64 ps, .int .i64 pv]).ext ((Ext.refl _).allocs (.cells #[.int .i64 qf, .int .i64 qs, .int .i64 qv] 54))
  have hB2 := Blk.new (w.alloc (.cells #[.int .i64 pf, .int .i64 ps, .int .i64 pv] 54)) 54 #[.int .i64 qf, .int .i64 qs, .int .i64 qv]
  rw [show (w.alloc (.cells #[.int .i64 pf, .int .i64 ps, .int .i64 pv] 54)).heap.size = w.heap.size + 1 by simp] at hB2
  have HX := Lib.hid hX
  have K1 := Lib.hid hB1
  have K2 := Lib.hid hB2
  clear hX hB1 hB2
  have b1 := cmpI_bd pf qf
  have b2 := cmpI_bd ps qs
  have HV : Hid (cmpRc ⟨pf, ps, pv⟩ ⟨qf, qs, qv⟩ = orV [cmpI pf qf, cmpI ps qs]) := rfl
  go_enter Try.func33, Try.ntmps33
  go_wp2_with fail
  obtain ⟨W, hW⟩ : ∃ W, (w.alloc (.cells #[.int .i64 pf, .int .i64 ps, .int .i64 pv] 54)).alloc (.cells #[.int .i64 qf, .int .i64 qs, .int .i64 qv] 54) = W := ⟨_, rfl⟩
  rw [hW] at HX K1 K2 ⊢
  clear hW
  have k1 := K1.out
  have k2 := K2.out
  go_region_held3 (fun w' => w'.cell? ⟨w.heap.size, 0, none⟩ = some (.int .i64 pf) ∧ w'.cell? ⟨w.heap.size, 1, none⟩ = some (.int .i64 ps) ∧ w'.cell? ⟨w.heap.size + 1, 0, none⟩ = some (.int .i64 qf) ∧ w'.cell? ⟨w.heap.size + 1, 1, none⟩ = some (.int .i64 qs))
    (first | (refine keepRc (t := 54) (t' := 54) (a2 := .int .i64 pv) (b2 := .int .i64 qv) ?_ ?_ <;> (repeat (first | with_reducible exact k1 | with_reducible exact k2 | with_reducible refine Blk.allocs ?_ _ | with_reducible refine Blk.drews ?_ | with_reducible refine Blk.drewNs ?_ _))))
    (first
      | (go_at_call 35; refine (cmpInt_any _ _ _).mono ?_; rintro e w' ⟨rfl, rfl⟩)
      | (go_at_call 34; refine (or_two (x := cmpI pf qf) (y := cmpI ps qs) 3 _ ?_).mono ?_; (repeat (first | with_reducible exact Blk.new _ _ _ | with_reducible refine Blk.drews ?_ | with_reducible refine Blk.drewNs ?_ _)); rintro e w' ⟨rfl, rfl⟩))
  generalize orV [cmpI pf qf, cmpI ps qs] = z at *
  go_wp2_with fail
  go_ret
  exact ⟨by rw [HV.out]; rfl, Below.drew (HX.out.1.allocs _), Nat.le_trans HX.out.2 (Nat.le_succ _)⟩
theorem cmpRc_neg (a b : Rc) : cmpRc a b < 0 ↔ a.frm < b.frm ∨ a.frm = b.frm ∧ a.ssn < b.ssn := by
  unfold cmpRc
  simp only [orV]
  by_cases h : cmpI a.frm b.frm = 0
  · rw [if_pos h]
    have h' := (cmpI_zero _ _).1 h
    by_cases k : cmpI a.ssn b.ssn = 0
    · rw [if_pos k]; have := (cmpI_zero _ _).1 k; omega
    · rw [if_neg k, cmpI_neg]; omega
  · rw [if_neg h, cmpI_neg]
    have : a.frm ≠ b.frm := fun e => h ((cmpI_zero _ _).2 e)
    omega
/-- the order of receipts -/
def ltR (a b : Rc) : Bool := ltOf cmpRc a b
theorem ltR_true (a b : Rc) : ltR a b = true ↔ a.frm < b.frm ∨ a.frm = b.frm ∧ a.ssn < b.ssn := by
  unfold ltR ltOf
  rw [decide_eq_true_iff]
  exact cmpRc_neg a b
theorem ltR_false (a b : Rc) : ltR a b = false ↔ ¬ (a.frm < b.frm ∨ a.frm = b.frm ∧ a.ssn < b.ssn) := by
  rw [← ltR_true]
  cases ltR a b <;> simp
theorem swoR : SWO (ltOf cmpRc) where
  irrefl x := by
    show ltR x x = false
    rw [ltR_false]
    omega
  trans x y z h1 h2 := by
    have h1 : ltR x y = true := h1
    have h2 : ltR y z = true := h2
    show ltR x z = true
    rw [ltR_true] at *
    omega
  ntrans x y z h1 h2 := by
    have h1 : ltR x y = false := h1
    have h2 : ltR y z = false := h2
    show ltR x z = false
    rw [ltR_false] at *
    omega
theorem cmpLaysR (blk off size : Nat) (w : World) : CmpLays Try.prog 33 #[] Rc.cells 3 cmpRc blk off size w :=
  fun _ _ _ _ x y => (compare_rc x y _).mono fun _ _ h => ⟨h.1, grown_of_extD h.2⟩
end Go.Proofs.Ytooegndajfopkaa
