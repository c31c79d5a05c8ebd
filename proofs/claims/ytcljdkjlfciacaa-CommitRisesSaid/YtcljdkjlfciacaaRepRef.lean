/- Replicated of the reference. No statement of the seat is proved here. -/
import Derived.Test.YtcljdkjlfciacaaRepPlain
import Derived.Test.YtcljdkjlfciacaaRStable
namespace Go.Proofs.Ytcljdkjlfciacaa
open Go.RowKit Go.Shelf
set_option linter.unusedVariables false

def Bv (b : Bool) : List Value := [.bool b]
theorem Bv.len (b : Bool) : (Bv b).length = 1 := rfl
theorem Bv.one (b : Bool) : ∀ u ∈ Bv b, u.oneCell' = true := by simp [Bv, Value.oneCell']
abbrev BVec (w : World) (g : Nat) (X : List Bool) : Prop := Blk w g 4 (X.flatMap Bv).toArray
theorem infoBool : (Try.prog.info? 4).map (fun i => (i.zero, i.size, i.bytes)) = some (some (.bool false), 1, 1) := by kernel_rfl
theorem mk_bools (n : Nat) (hn : n ≤ 1000) (w : World) : (Instr.makeSlice 81 (.int .i64 (n : Int)) (.int .i64 (n : Int))).run Try.prog w =
    .ok (.slice (some ⟨w.heap.size, 0, none⟩) n n) (w.alloc (.cells ((List.replicate n false).flatMap Bv).toArray 4)) := by
  obtain ⟨i0, hi, hz0, hz1, hz2⟩ := info_parts infoBool
  rw [run_make w 81 4 i0 _ Try.underlying81 hi hz0 .i64 .i64 _ _ (by omega) (Int.le_refl _) (by rw [hz2]; omega) (by omega)]
  rw [hz1, show ((n : Int)).toNat = n by omega, made_flat Bv 1 (by omega) Bv.len false (Value.bool false).cells rfl]
theorem BVec.at_ {w : World} {g : Nat} {X : List Bool} (h : BVec w g X) {q : Nat} (hq : q < X.length) : w.cell? ⟨g, q, none⟩ = some (.bool (X.getD q false)) := by
  have hi : X[q]? = some (X.getD q false) := by rw [List.getD_eq_getElem?_getD, List.getElem?_eq_getElem hq]; rfl
  have := Blk.tabAt h Bv.len hi (j := 0) (by omega) rfl
  simpa using this
theorem BVec.set {w : World} {g : Nat} {X : List Bool} (h : BVec w g X) {q : Nat} (hq : q < X.length) (v : Bool) : BVec (w.setCell ⟨g, q, none⟩ (.bool v)) g (X.set q v) := by
  have := Blk.setAt h (f := Bv) (s := 1) (by omega) Bv.len hq v
  simpa [World.setCells, Bv] using this
theorem getD_setB (X : List Bool) (q : Nat) (v : Bool) (r : Nat) (hq : q < X.length) : (X.set q v).getD r false = if r = q then v else X.getD r false := by
  rw [List.getD_eq_getElem?_getD, List.getD_eq_getElem?_getD]
  by_cases h : r = q
  · subst h; rw [if_pos rfl, List.getElem?_set_self hq]; rfl
  · rw [if_neg h, List.getElem?_set_ne (fun e => h e.symm)]
/-- the rows of the table of safe events -/
structure GdRows (W : World) (base : Nat) (v : Value) (L : Lin) (gd : Nat → Nat → Bool) (q : Nat) (rows : List (Gr Bool)) : Prop where
  o : W.ownsRow base 81 1 v rows.length (rows.flatMap Gr.cells)
  r : ∀ (p : Nat) (r : Gr Bool), rows[p]? = some r → ∃ g, r.A = some ⟨g, 0, none⟩ ∧ r.c = r.l.length ∧ BVec W g r.l ∧ r.l.length = (rowL L p).length ∧ ∀ i, i < r.l.length → r.l.getD i false = gd p i
  n : rows.length = q
section
variable {W W' : World} {base : Nat} {v : Value} {L : Lin} {gd : Nat → Nat → Bool} {q : Nat} {rows : List (Gr Bool)}
theorem GdRows.ext (h : GdRows W base v L gd q rows) (hE : Ext W W') : GdRows W' base v L gd q rows :=
  ⟨own_ext h.o hE, fun p r hr => by obtain ⟨g, h1, h2, h3, h4⟩ := h.r p r hr; exact ⟨g, h1, h2, h3.ext hE, h4⟩, h.n⟩
theorem own_notB {w : World} {base g : Nat} {e t : TypeId} {s n : Nat} {v : Value} {xs : List Value} {cs : Array Value} (h : w.ownsRow base e s v n xs) (hB : Blk w g t cs) (ht : t ≠ e) : v.ownBlock = none ∨ v.ownBlock ≠ some g := by
  rcases h.2 with ⟨rfl, _⟩ | ⟨g', cap, cur, rfl, _, hh, _⟩
  · exact .inl rfl
  · right
    intro e'
    simp only [Value.ownBlock, Option.some.injEq] at e'
    subst e'
    unfold Blk at hB
    rw [hh] at hB
    injection hB with hB
    injection hB with _ hB
    exact ht hB.symm
theorem GdRows.push {v' : Value} {g m : Nat} {X : List Bool} (h : GdRows W base v L gd q rows) (hB : BVec W g X) (hm : X.length = m) (hl : m = (rowL L q).length) (hg : ∀ i, i < m → X.getD i false = gd q i)
    (hown : W'.ownsRow base 81 1 v' (rows ++ [(⟨some ⟨g, 0, none⟩, m, X⟩ : Gr Bool)]).length ((rows ++ [(⟨some ⟨g, 0, none⟩, m, X⟩ : Gr Bool)]).flatMap Gr.cells)) (hgr : W.grownBy W' v.ownBlock) : GdRows W' base v' L gd (q + 1) (rows ++ [⟨some ⟨g, 0, none⟩, m, X⟩]) := by
  have hk : ∀ (g : Nat) (X : List Bool), BVec W g X → BVec W' g X := fun g X hB => by
    refine (hgr.block g hB.lt (fun e => ?_)).trans hB
    rcases own_notB h.o hB (by decide) with h1 | h1
    · rw [h1] at e; cases e
    · exact h1 e.symm
  refine ⟨hown, fun p r hr => ?_, by simp [h.n]⟩
  rw [List.getElem?_append] at hr
  split at hr
  · obtain ⟨g', h1, h2, h3, h4⟩ := h.r p r hr
    exact ⟨g', h1, h2, hk _ _ h3, h4⟩
  · rename_i hp
    have hpq : p = q := by
      have := (List.getElem?_eq_some_iff.1 hr).1
      simp only [List.length_singleton] at this
      have := h.n
      omega
    subst hpq
    rw [h.n, Nat.sub_self] at hr
    simp only [List.getElem?_cons_zero, Option.some.injEq] at hr
    subst hr
    exact ⟨g, rfl, hm.symm, hk _ _ hB, by rw [← hl]; exact hm, fun i hi => hg i (by rw [← hm]; exact hi)⟩
end
theorem rows_push {w W W' : World} {v v9 : Value} {L : Lin} {gd : Nat → Nat → Bool} {q g : Nat} {rows : List (Gr Bool)} {X : List Bool} (h : GdRows W w.heap.size v L gd q rows) (hE : Ext w W) (hB : BVec W g X) (hl : (rowL L q).length = X.length) (hg : ∀ i, i < X.length → X.getD i false = gd q i)
    (hown : W'.ownsRow w.heap.size 81 1 v9 (rows ++ [(⟨some ⟨g, 0, none⟩, X.length, X⟩ : Gr Bool)]).length ((rows ++ [(⟨some ⟨g, 0, none⟩, X.length, X⟩ : Gr Bool)]).flatMap Gr.cells)) (hgr : W.grownBy W' v.ownBlock) :
    ∃ A9 c9 rows9, v9 = .slice A9 rows9.length c9 ∧ GdRows W' w.heap.size (.slice A9 rows9.length c9) L gd (q + 1) rows9 ∧ Ext w W' := by
  obtain ⟨A9, c9, rfl, _, _, _⟩ := own_slice hown
  exact ⟨A9, c9, _, rfl, h.push hB rfl hl.symm hg hown hgr, Ext.own hE h.o (Nat.le_refl _) hgr⟩
def T1 (w : World) (base : Nat) (L : Lin) (gd : Nat → Nat → Bool) (n : Nat) (g : Nat) (sv iv : Value) (wr : World) : Prop :=
  ∃ (q : Nat) (Av : Option Addr) (cv : Nat) (rows : List (Gr Bool)), q ≤ n ∧ iv = .int .i64 q ∧ sv = .slice Av rows.length cv ∧ g = n - q ∧ Ext w wr ∧ GdRows wr w.heap.size (.slice Av rows.length cv) L gd q rows
def T2 (w4 : World) (g13 m : Nat) (gd : Nat → Bool) (g : Nat) (iv : Value) (wr : World) : Prop :=
  ∃ (j : Nat) (X : List Bool), j ≤ m ∧ iv = .int .i64 j ∧ g = m - j ∧ Ext w4 wr ∧ BVec wr g13 X ∧ Hid (X.length = m ∧ ∀ i, i < j → X.getD i false = gd i)
/-- how far the reference has looked -/
def rtP (g : Nat → Nat → Bool) (X : List Int) (s : Nat) : Bool := decide (0 < X.length) && (List.range s).all fun q => (List.range (elX X q).toNat).all fun j => g q j
def rtPJ (g : Nat → Nat → Bool) (X : List Int) (s j : Nat) : Bool := rtP g X s && (List.range j).all fun i => g s i
theorem rtP_succ (g : Nat → Nat → Bool) (X : List Int) (s : Nat) : rtP g X (s + 1) = rtPJ g X s (elX X s).toNat := by
  unfold rtPJ rtP
  rw [List.range_succ, List.all_append]
  simp [Bool.and_assoc]
theorem rtPJ_zero (g : Nat → Nat → Bool) (X : List Int) (s : Nat) : rtPJ g X s 0 = rtP g X s := by unfold rtPJ; simp
theorem rtPJ_succ (g : Nat → Nat → Bool) (X : List Int) (s j : Nat) : rtPJ g X s (j + 1) = (rtPJ g X s j && g s j) := by
  unfold rtPJ
  rw [List.range_succ, List.all_append]
  simp [Bool.and_assoc]
def U1 (wr0 : World) (g : Nat → Nat → Bool) (X : List Int) (gg : Nat) (bv sv : Value) (wr : World) : Prop :=
  ∃ (s : Nat) (b : Bool), s ≤ X.length ∧ bv = .bool b ∧ sv = .int .i64 s ∧ gg = X.length - s ∧ Ext wr0 wr ∧ Hid (rtP g X s = b)
def U2 (wr0 : World) (g : Nat → Nat → Bool) (X : List Int) (s m : Nat) (gg : Nat) (bv jv : Value) (wr : World) : Prop :=
  ∃ (j : Nat) (b : Bool), j ≤ m ∧ bv = .bool b ∧ jv = .int .i64 j ∧ gg = m - j ∧ Ext wr0 wr ∧ Hid (rtPJ g X s j = b)
set_option maxRecDepth 100000 in
set_option maxHeartbeats 3200000 in
theorem replicated_ref (A : Option Addr) (cA : Nat) (R : List Rw) (B : Option Addr) (cB : Nat) (F : List Int) (AG : Option Addr) (cG : Nat) (G : List (Gr Dt)) (AK : Option Addr) (cK : Nat) (Kw : List (Gr Kn)) (faults : Int) (w : World) (hs : LinSeg w A R) (hn : R.length ≤ 1000) (hr60 : ∀ r ∈ R, r.es.length ≤ 1000)
    (hB : IntSeg w B F) (hBc : F.length ≤ cB) (hBm : cB ≤ maxLen) (hG : GSeg Dt.cells 9 w AG G) (hnG : G.length ≤ 1000) (hrG : ∀ r ∈ G, r.l.length ≤ 1000) (hK : GSeg Kn.cells 10 w AK Kw) (hnK : Kw.length ≤ 1000) :
    Calls Try.prog 23 #[.slice A R.length cA, .slice B F.length cB, .slice AG G.length cG, .slice AK Kw.length cK, .int .i64 faults] w (IPost (searchL (evsL R) (rtR (gdB (evsL R) F G Kw faults))) w) := by
  obtain ⟨gd, hgd⟩ : ∃ gd, gdB (evsL R) F G Kw faults = gd := ⟨_, rfl⟩
  have HGD : Hid (∀ q j (hq : q < R.length) (hj : j < R[q].es.length), gd q j = (decide ((j : Int) + 1 ≤ elX F q) || safeB G Kw faults ⟨(q : Int), (j : Int) + 1, R[q].es[j]⟩)) := fun q j hq hj => by
    rw [← hgd]
    unfold gdB
    rw [evsL_row hq, List.getD_eq_getElem?_getD, List.getElem?_eq_getElem hj]; rfl
  rw [hgd]
  obtain ⟨V, hV⟩ : ∃ V, V = searchL (evsL R) (rtR gd) := ⟨_, rfl⟩
  rw [← hV]
  have HVl : Hid (V.length = R.length) := by show _ = _; rw [hV, searchL_len, evsL_len]
  have HV : Hid (∀ q (h : q < R.length), elX V q = ((bestK (goodB (evsL R) (rtR gd) q) R[q].es.length : Nat) : Int)) := fun q h => by
    rw [hV, searchL_at (by rw [evsL_len]; exact h), evsL_row h]
  have HLL : Hid (∀ q (h : q < R.length), (rowL (evsL R) q).length = R[q].es.length) := fun q h => by rw [evsL_row h]
  clear hV hgd
  have HS := Lib.hid hs
  have HB := Lib.hid hB
  have HG := Lib.hid hG
  have HK := Lib.hid hK
  have HRG := Lib.hid hrG
  have HR60 := Lib.hid hr60
  clear hs hB hG hK hrG hr60
  have hBm' := hBm
  unfold maxLen at hBm'
  go_enter Try.func23, Try.ntmps23
  go_upto_region 3 with fail
  go_loopg [11, 12] R.length (fun g sv iv wr => T1 w w.heap.size (evsL R) gd R.length g sv iv wr)
  case atStart => exact ⟨0, none, 0, [], Nat.zero_le _, rfl, rfl, rfl, Ext.refl w, own_nil w w.heap.size 81 1 Gr.cells, fun p r h => by simp at h, rfl⟩
  case round =>
    rename World => wa
    obtain ⟨q, Av, cv, rows, hq, rfl, rfl, rfl, hE, hT⟩ := hrel
    by_cases hlt : q < R.length
    · have hq0 : (0 : Int) ≤ (q : Int) := by omega
      have hq1 : (q : Int) < (R.length : Int) := by omega
      obtain ⟨bl, ol, hA, p0⟩ := (HS.out.ext hE).at_ hlt
      subst hA
      have h60 := HR60.out _ (List.getElem_mem hlt)
      have HLq := Lib.hid (HLL.out q hlt)
      have HGq := Lib.hid (fun j (hj : j < R[q].es.length) => HGD.out q j hlt hj)
      have hmk := mk_bools R[q].es.length h60 wa
      have hX4 := (Ext.refl wa).allocs (.cells ((List.replicate R[q].es.length false).flatMap Bv).toArray 4)
      have hV4 : BVec (wa.alloc (.cells ((List.replicate R[q].es.length false).flatMap Bv).toArray 4)) wa.heap.size (List.replicate R[q].es.length false) := Blk.new wa _ _
      have HRW : Hid (∀ W, Ext w W → EvSeg W R[q].A R[q].es ∧ W.cell? ⟨bl, ol + q, none⟩ = some (.slice R[q].A R[q].es.length R[q].c)) := fun W hE => ⟨((HS.out.ext hE).row hlt).1, by
        obtain ⟨b', o', h1, h2⟩ := (HS.out.ext hE).at_ hlt
        injection h1 with h1
        injection h1 with h3 h4
        subst h3 h4
        exact h2⟩
      generalize R[q].A = rA at *
      generalize R[q].c = rc at *
      generalize R[q].es = res at *
      obtain ⟨m, hm⟩ : ∃ m, res.length = m := ⟨_, rfl⟩
      have HM := Lib.hid hm
      rw [hm] at p0 hmk hX4 hV4 h60
      obtain ⟨w4, hw4⟩ : ∃ w4, wa.alloc (.cells ((List.replicate m false).flatMap Bv).toArray 4) = w4 := ⟨_, rfl⟩
      obtain ⟨g13, hg13⟩ : ∃ g13, wa.heap.size = g13 := ⟨_, rfl⟩
      rw [hw4] at hmk hX4 hV4
      rw [hg13] at hmk hV4
      have HTa := Lib.hid hT
      have HEa := Lib.hid hE
      have HX4 := Lib.hid hX4
      have HV4 := Lib.hid hV4
      have hrows : rows.length ≤ 1000 := by have := hT.n; omega
      have HG13 : Hid (wa.heap.size ≤ g13) := by show _ ≤ _; omega
      clear hT hE hX4 hV4 hm
      go_upto_region 7 with fail
      clear p0 hmk hw4 hg13
      go_loopg [14] m (fun g iv wr => T2 wa g13 m (gd q) g iv wr)
      case atStart => exact ⟨0, _, Nat.zero_le _, rfl, rfl, HX4.out, HV4.out, (⟨List.length_replicate, fun i h => absurd h (Nat.not_lt_zero _)⟩ : _ ∧ _)⟩
      case round =>
        clear HX4 HV4
        rename World => wb
        obtain ⟨j, X, hj, rfl, rfl, hE, hBV, HX⟩ := hrel
        have hEw := HEa.out.trans hE
        have p0 := (HRW.out wb hEw).2
        rw [HM.out] at p0
        by_cases hjl : j < m
        · have hje : j < res.length := by rw [HM.out]; exact hjl
          obtain ⟨b3, o3, hA3, q0, q1, q2, q3, q4, q5, q6⟩ := Ev.at_ (HRW.out wb hEw).1 hje
          have HGJ := Lib.hid (HGq.out j hje)
          have hjX : j < X.length := by rw [HX.out.1]; exact hjl
          have py := hBV.at_ hjX
          have pf := Blk.frozen hBV j
          have hj0 : (0 : Int) ≤ (j : Int) := by omega
          have hj1 : (j : Int) < (m : Int) := by omega
          have hw1 : IntKind.i64.wrap ((j : Int) + 1) = (j : Int) + 1 := IntWalk.i64_in _ (by omega)
          generalize res[j] = e at *
          subst hA3
          have HE := Lib.hid hE
          have HEw := Lib.hid hEw
          have HBV := Lib.hid hBV
          clear hE hEw hBV
          have HXS : Hid (∀ v : Bool, v = gd q j → ((X.set j v).length = m ∧ ∀ i, i < j + 1 → (X.set j v).getD i false = gd q i)) := fun v hv => ⟨by rw [List.length_set]; exact HX.out.1, fun i hi => by
            rw [getD_setB _ _ _ _ hjX]
            by_cases h : i = j
            · subst h; rw [if_pos rfl, hv]
            · rw [if_neg h]; exact HX.out.2 i (by omega)⟩
          go_wp2_with fail
          refine (elem_same B cB F q _ (HB.out.ext HEw.out) hBc hBm).mono ?_
          rintro e' w2 ⟨rfl, rfl⟩
          by_cases hA : (j : Int) + 1 ≤ elX F q
          · have dk : decide ((j : Int) + 1 ≤ elX F q) = true := decide_eq_true hA
            have hg : true = gd q j := by rw [HGJ.out, dk]; rfl
            have HN := Lib.hid (HXS.out true hg)
            have HBN := Lib.hid (HBV.out.set hjX true)
            have HEN := Lib.hid (HE.out.set HG13.out (o := j) (.bool true))
            clear hg hA
            go_wp2_with fail
            go_roundg (m - (j + 1))
            case measure => omega
            case rel => exact ⟨j + 1, _, by omega, by go_num, rfl, HEN.out, HBN.out, HN⟩
          · have dk : decide ((j : Int) + 1 ≤ elX F q) = false := decide_eq_false hA
            obtain ⟨z, hz⟩ : ∃ z, safeB G Kw faults ⟨(q : Int), (j : Int) + 1, e⟩ = z := ⟨_, rfl⟩
            have hg : z = gd q j := by rw [HGJ.out, dk, hz]; rfl
            have HSA := Lib.hid (safe_any AG cG G AK cK Kw ⟨(q : Int), (j : Int) + 1, e⟩ faults w2 (HG.out.ext HEw.out) (HK.out.ext HEw.out) hnG hnK HRG.out)
            rw [hz] at HSA
            have HN := Lib.hid (HXS.out z hg)
            clear hg hA hz py pf
            go_wp2_with fail
            refine HSA.out.mono ?_
            rintro e' w5 ⟨rfl, hE5⟩
            have hB5 : BVec w5 g13 X := Blk.ext HBV.out hE5
            have py := hB5.at_ hjX
            have pf := Blk.frozen hB5 j
            have HBN := Lib.hid (hB5.set hjX z)
            have HEN := Lib.hid ((HE.out.trans hE5).set HG13.out (o := j) (.bool z))
            clear hB5 hE5
            go_wp2_with fail
            go_roundg (m - (j + 1))
            case measure => omega
            case rel => exact ⟨j + 1, _, by omega, by go_num, rfl, HEN.out, HBN.out, HN⟩
        · obtain rfl : j = m := by omega
          have hXm := HX.out.1
          have HT9 := HTa.out.ext hE
          have hzz := hEw.size
          have HTb := Lib.hid HT9
          have HEb := Lib.hid hEw
          have HBb := Lib.hid hBV
          have HXb := Lib.hid HX.out.2
          have HMb : Hid (res.length = X.length) := by show _ = _; rw [HM.out]; exact hXm.symm
          clear HT9 hE hEw hBV HX HM HGq
          subst hXm
          go_wp2_with (at_builtin; refine wpList_push_at Gr.cells 1 24 Gr.len Gr.one (by omega) rfl _ _ _ rfl w.heap.size 81 Try.underlying80 (by kernel_rfl) (.slice Av rows.length cv) rows (⟨some ⟨g13, 0, none⟩, X.length, X⟩ : Gr Bool) wb.heap.size rfl HTb.out.o rfl rfl (by unfold maxLen; omega) (by omega) (by omega) ?_; intro v9 w9 hown9 hg9; obtain ⟨A9, c9, rows9, rfl, hT9, hE9⟩ := rows_push HTb.out HEb.out HBb.out (by rw [HLq.out, HMb.out]) HXb.out hown9 hg9; have HT9 := Lib.hid hT9; have HE9 := Lib.hid hE9; clear hown9 hg9 hT9 hE9)
          go_wp2_with fail
          go_roundg (R.length - (q + 1))
          case measure => omega
          case rel => exact ⟨q + 1, A9, c9, rows9, by omega, by go_num, rfl, rfl, HE9.out, HT9.out⟩
    · obtain rfl : q = R.length := by omega
      have HT := Lib.hid hT
      have HEw := Lib.hid hE
      clear hT hE
      go_upto_region 13 with fail
      go_loopg [15, 16] R.length (fun g sv iv wr => RsRel wa R.length V g sv iv wr)
      case atStart => exact ⟨0, none, 0, [], Nat.zero_le _, rfl, rfl, rfl, Ext.refl wa, own_nil wa wa.heap.size 3 1 Iv, (⟨rfl, fun r hr => absurd hr (Nat.not_lt_zero _)⟩ : _ ∧ _)⟩
      case round =>
        rename World => wc
        obtain ⟨q, Av2, cv2, X, hq, rfl, rfl, rfl, hE, hO, HX⟩ := hrel
        by_cases hlt : q < R.length
        · have hq0 : (0 : Int) ≤ (q : Int) := by omega
          have hq1 : (q : Int) < (R.length : Int) := by omega
          have hXl : X.length ≤ 1000 := by have := HX.out.1; omega
          have HVq := Lib.hid (HV.out q hlt)
          have HLq := Lib.hid (HLL.out q hlt)
          have hse := HR60.out _ (List.getElem_mem hlt)
          obtain ⟨bl, ol, hA, p0⟩ := (HS.out.ext (HEw.out.trans hE)).at_ hlt
          subst hA
          generalize R[q].A = Aq at *
          generalize R[q].c = cq at *
          generalize R[q].es.length = m at *
          obtain ⟨good, hgood⟩ : ∃ good, goodB (evsL R) (rtR gd) q = good := ⟨_, rfl⟩
          rw [hgood] at HVq
          have HGd : Hid (∀ k, good k = rtP gd (pastL (evsL R) (q : Int) (k : Int)) (pastL (evsL R) (q : Int) (k : Int)).length) := fun k => by rw [← hgood]; rfl
          have HO0 := Lib.hid hO
          have HE0 := Lib.hid hE
          clear hgood hO hE
          go_upto_region 16 with fail
          clear p0
          go_loopg [17] m (fun g kv wx => RkRel wc good m g kv wx)
          case atStart => exact ⟨m, Nat.le_refl _, rfl, rfl, Ext.refl wc, (rfl : bestK good m = bestK good m)⟩
          case round =>
            rename World => wk
            obtain ⟨k, hk, rfl, rfl, hEX, HKK⟩ := hrel
            have hEX' := HE0.out.trans hEX
            by_cases h0 : 0 < k
            · have dk : decide ((0 : Int) < (k : Int)) = true := decide_eq_true (by omega)
              have hpl := pastL_len (evsL R) (q : Int) (k : Int)
              rw [evsL_len] at hpl
              have HPH : Hid (∀ s, s < R.length → elX (pastL (evsL R) (q : Int) (k : Int)) s ≤ ((rowL (evsL R) s).length : Int)) := fun s hs => pastL_hi (by rw [evsL_len]; exact hlt) (by omega) (by rw [HLq.out]; omega) s (by rw [evsL_len]; exact hs)
              have HPL : Hid (∀ s, 0 ≤ elX (pastL (evsL R) (q : Int) (k : Int)) s) := fun s => pastL_lo (by rw [evsL_len]; exact hlt) (by omega) (by rw [HLq.out]; omega) s
              go_wp2_with fail
              refine (past_ref _ cA R (q : Int) (k : Int) _ (HS.out.ext (HEw.out.trans hEX')) hn).mono ?_
              rintro e w3 ⟨A3, c3, rfl, hI3, hl3, hm3, hE3⟩
              have HGk := Lib.hid (HGd.out k)
              generalize pastL (evsL R) (q : Int) (k : Int) = P at *
              have hP : P.length ≤ 1000 := by omega
              have HPR : Hid (P.length ≤ R.length) := hpl
              have HI3 := Lib.hid hI3
              have hEX3 := hEX.trans hE3
              have hEX3' := hEX'.trans hE3
              clear hI3 hEX hEX' hE3 dk hpl
              obtain ⟨b0, hb0⟩ : ∃ b0, decide (0 < P.length) = b0 := ⟨_, rfl⟩
              have HB0 : Hid (rtP gd P 0 = b0) := by
                show rtP gd P 0 = b0
                rw [← hb0]
                unfold rtP
                simp
              go_upto_region 21 with fail
              clear hb0
              go_loopg [19, 20] P.length (fun g bv jv wx => U1 w3 gd P g bv jv wx)
              case atStart => exact ⟨0, b0, Nat.zero_le _, rfl, rfl, rfl, Ext.refl w3, HB0⟩
              case round =>
                rename World => ws
                obtain ⟨s, b, hs, rfl, rfl, rfl, hE4, HJ⟩ := hrel
                by_cases hsl : s < P.length
                · have HRS := Lib.hid (rtP_succ gd P s)
                  have hbs : rtPJ gd P s 0 = b := by rw [rtPJ_zero]; exact HJ.out
                  have hsR : s < R.length := by have := HPR.out; omega
                  have hlo := HPL.out s
                  have hhi := HPH.out s hsR
                  obtain ⟨mm, hmm⟩ : ∃ mm : Nat, elX P s = mm := ⟨(elX P s).toNat, by omega⟩
                  have HMM := Lib.hid hmm
                  rw [hmm] at hlo hhi HRS
                  have HRS2 : Hid (rtP gd P (s + 1) = rtPJ gd P s mm) := by have := HRS.out; rw [Int.toNat_natCast] at this; exact this
                  obtain ⟨rw0, hrw⟩ : ∃ r, rows[s]? = some r := ⟨_, List.getElem?_eq_getElem (by rw [HT.out.n]; exact hsR)⟩
                  have HRW2 := Lib.hid hrw
                  have hmml : mm ≤ (rowL (evsL R) s).length := by omega
                  have hmm1000 : mm ≤ 1000 := by have h1 := HR60.out _ (List.getElem_mem hsR); have h2 := HLL.out s hsR; omega
                  clear hmm hrw HRS
                  have HBS := Lib.hid hbs
                  have HE4 := Lib.hid hE4
                  clear hbs hE4
                  go_upto_region 24 with fail
                  go_loopg [19, 21] mm (fun g bv jv wx => U2 w3 gd P s mm g bv jv wx)
                  case atStart => exact ⟨0, b, Nat.zero_le _, rfl, rfl, rfl, HE4.out, HBS⟩
                  case round =>
                    clear HE4 HBS HJ
                    rename World => wj
                    obtain ⟨j, b, hj, rfl, rfl, rfl, hE5, HJ⟩ := hrel
                    obtain ⟨bp, op, hAP, pj⟩ := Iv.at_ (HI3.out.ext hE5) hsl
                    rw [← elX_at hsl, HMM.out] at pj
                    subst hAP
                    have hs0 : (0 : Int) ≤ (s : Int) := by omega
                    have hs1 : (s : Int) < (P.length : Int) := by omega
                    by_cases hjl : j < mm
                    · have HJ1 := Lib.hid (rtPJ_succ gd P s j)
                      cases b with
                      | false =>
                        have HN : Hid (rtPJ gd P s (j + 1) = false) := by show _ = _; rw [HJ1.out, HJ.out]; rfl
                        have HE5 := Lib.hid hE5
                        clear hE5
                        go_wp2_with fail
                        go_roundg (mm - (j + 1))
                        case measure => omega
                        case rel => exact ⟨j + 1, false, by omega, rfl, by go_num, rfl, HE5.out, HN⟩
                      | true =>
                        have hT9 := HT.out.ext (hEX3'.trans hE5)
                        obtain ⟨g9, hA9, hc9, hB9, hl9, hv9⟩ := hT9.r s rw0 HRW2.out
                        have hrl : rows.length = R.length := hT9.n
                        have hsr : s < rows.length := by omega
                        obtain ⟨bg, og, hAg, hsg, hcg⟩ := Seg.at_ (Seg.of_own hT9.o) Gr.len hsr
                        have pg := hcg 0 _ rfl
                        have hrr : rows[s] = rw0 := by have := HRW2.out; rw [List.getElem?_eq_getElem hsr] at this; injection this
                        rw [hrr, hA9, hc9] at pg
                        subst hAg
                        have hjb : j < rw0.l.length := by rw [hl9]; omega
                        have pb := hB9.at_ hjb
                        rw [hv9 j hjb] at pb
                        have hj0 : (0 : Int) ≤ (j : Int) := by omega
                        have hj1 : (j : Int) < (rw0.l.length : Int) := by omega
                        have hs2 : (s : Int) < (rows.length : Int) := by omega
                        have hjm : (j : Int) < (mm : Int) := by omega
                        obtain ⟨z, hz⟩ : ∃ z, gd s j = z := ⟨_, rfl⟩
                        rw [hz] at pb
                        have HN : Hid (rtPJ gd P s (j + 1) = z) := by show _ = _; rw [HJ1.out, HJ.out, hz]; rfl
                        have HE5 := Lib.hid hE5
                        rw [show og + (s * 1 + 0) = og + s by omega] at pg
                        generalize rw0.l.length = nb at *
                        clear hE5 hT9 hB9 hz hrr hcg hsg hv9
                        go_wp2_with fail
                        go_roundg (mm - (j + 1))
                        case measure => omega
                        case rel => exact ⟨j + 1, z, by omega, rfl, by go_num, rfl, HE5.out, HN⟩
                    · obtain rfl : j = mm := by omega
                      have HN : Hid (rtP gd P (s + 1) = b) := by show _ = _; rw [HRS2.out, HJ.out]
                      have HE5 := Lib.hid hE5
                      clear hE5
                      go_wp2_with fail
                      go_roundg (P.length - (s + 1))
                      case measure => omega
                      case rel => exact ⟨s + 1, b, by omega, rfl, by go_num, rfl, HE5.out, HN⟩
                · obtain rfl : P.length = s := by omega
                  have HGb : Hid (good k = b) := by show _ = _; rw [HGk.out, HJ.out]
                  have hEX := hEX3.trans hE4
                  have hEX' := hEX3'.trans hE4
                  cases b with
                  | true =>
                    have HBk : Hid (bestK good m = k) := by
                      show _ = _
                      obtain ⟨k', rfl⟩ : ∃ k', k = k' + 1 := ⟨k - 1, by omega⟩
                      rw [HKK.out, bestK, if_pos HGb.out]
                    clear hE4 hEX3 hEX3'
                    have hz1 := hEX'.size
                    have HO := Lib.hid (own_ext HO0.out (hEX))
                    go_wp2_with (at_builtin; go_loud (refine wpList_push_at Iv 1 8 Iv.len Iv.one (by omega) rfl _ _ _ rfl wa.heap.size 3 Try.underlying28 (by kernel_rfl) (.slice Av2 X.length cv2) X (k : Int) ws.heap.size rfl HO.out rfl rfl (by unfold maxLen; omega) (by omega) (by omega) ?_; intro v9 w9 hown9 hg9; obtain ⟨A9, c9, X9, rfl, hX9, hO9, hE9, hV9⟩ := row_push hown9 HO.out hEX' hg9; have HO9 := Lib.hid hO9; have HX9 := Lib.hid hX9; have HV9 := Lib.hid hV9; clear hown9 hg9 hO9 hX9 hV9))
                    go_wp2_with fail
                    go_roundg (R.length - (q + 1))
                    case measure => omega
                    case rel =>
                      have HVV : Hid (X9.length = q + 1 ∧ ∀ r, r < q + 1 → elX X9 r = elX V r) := ⟨by rw [HX9.out, HX.out.1], fun r hr => by
                        by_cases h1 : r < q
                        · rw [HV9.out.1 r (by rw [HX.out.1]; exact h1)]; exact HX.out.2 r h1
                        · obtain rfl : r = q := by omega
                          have h2 := HV9.out.2
                          rw [HX.out.1] at h2
                          rw [h2, HVq.out]
                          rw [HBk.out]⟩
                      exact ⟨q + 1, _, _, X9, by omega, by go_num, rfl, rfl, hE9, HO9.out, HVV⟩
                  | false =>
                    have HBk : Hid (bestK good m = bestK good (k - 1)) := by
                      show _ = _
                      obtain ⟨k', rfl⟩ : ∃ k', k = k' + 1 := ⟨k - 1, by omega⟩
                      rw [HKK.out, bestK, if_neg (by rw [HGb.out]; simp)]
                      rfl
                    clear hE4 hEX3 hEX3'
                    go_wp2_with fail
                    go_roundg (k - 1)
                    case measure => omega
                    case rel => exact ⟨k - 1, by omega, by rw [show ((k : Int) - 1) = ((k - 1 : Nat) : Int) by omega], rfl, hEX, HBk⟩
            · obtain rfl : k = 0 := by omega
              have HBk : Hid (bestK good m = 0) := HKK.out
              have hz1 := hEX'.size
              have HO := Lib.hid (own_ext HO0.out (hEX))
              go_wp2_with (at_builtin; go_loud (refine wpList_push_at Iv 1 8 Iv.len Iv.one (by omega) rfl _ _ _ rfl wa.heap.size 3 Try.underlying28 (by kernel_rfl) (.slice Av2 X.length cv2) X ((0 : Nat) : Int) wk.heap.size rfl HO.out rfl rfl (by unfold maxLen; omega) (by omega) (by omega) ?_; intro v9 w9 hown9 hg9; obtain ⟨A9, c9, X9, rfl, hX9, hO9, hE9, hV9⟩ := row_push hown9 HO.out hEX' hg9; have HO9 := Lib.hid hO9; have HX9 := Lib.hid hX9; have HV9 := Lib.hid hV9; clear hown9 hg9 hO9 hX9 hV9))
              go_wp2_with fail
              go_roundg (R.length - (q + 1))
              case measure => omega
              case rel =>
                have HVV : Hid (X9.length = q + 1 ∧ ∀ r, r < q + 1 → elX X9 r = elX V r) := ⟨by rw [HX9.out, HX.out.1], fun r hr => by
                  by_cases h1 : r < q
                  · rw [HV9.out.1 r (by rw [HX.out.1]; exact h1)]; exact HX.out.2 r h1
                  · obtain rfl : r = q := by omega
                    have h2 := HV9.out.2
                    rw [HX.out.1] at h2
                    rw [h2, HVq.out]
                    rw [HBk.out]⟩
                exact ⟨q + 1, _, _, X9, by omega, by go_num, rfl, rfl, hE9, HO9.out, HVV⟩
        · obtain rfl : q = R.length := by omega
          have HXV : Hid (X = V) := elX_ext (by rw [HX.out.1, HVl.out]) (fun r hr => HX.out.2 r (by have := HX.out.1; omega))
          obtain ⟨A9, c9, e9, hs9, hc9, hm9⟩ := own_slice hO
          injection e9 with e9 e9l e9c
          subst e9 e9c
          have HI := Lib.hid hs9
          have HE := Lib.hid (HEw.out.trans hE)
          clear hs9 hE hO
          go_wp2_with fail
          go_ret
          rw [← HXV.out]
          exact ⟨_, _, rfl, HI.out, hc9, hm9, HE.out⟩
end Go.Proofs.Ytcljdkjlfciacaa
