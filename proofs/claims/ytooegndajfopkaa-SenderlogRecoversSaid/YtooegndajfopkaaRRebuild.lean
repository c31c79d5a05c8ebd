/- The walk of the reference's Rebuild. No statement of the seat is proved here. -/
import Derived.Test.YtooegndajfopkaaFlagR
import Derived.Test.YtooegndajfopkaaRebuild
namespace Go.Proofs.Ytooegndajfopkaa
open Go.RowKit Go.Sort
set_option linter.unusedVariables false
set_option maxRecDepth 100000

def restF (E : List Ps) (N : Nat) (L : List Ps) : List Rc := (L.filter (fun x => !usedB E N x.p x.i)).map Ps.rc
theorem restF_app (E : List Ps) (N : Nat) (A B : List Ps) : restF E N (A ++ B) = restF E N A ++ restF E N B := by
  unfold restF; rw [List.filter_append, List.map_append]
theorem restF_used (E : List Ps) (N : Nat) (x : Ps) (B : List Ps) (h : usedB E N x.p x.i = true) : restF E N (x :: B) = restF E N B := by
  unfold restF; rw [List.filter_cons, if_neg (by rw [h]; simp)]
theorem restF_free (E : List Ps) (N : Nat) (x : Ps) (B : List Ps) (h : usedB E N x.p x.i = false) : restF E N (x :: B) = x.rc :: restF E N B := by
  unfold restF; rw [List.filter_cons, if_pos (by rw [h]; rfl), List.map_cons]
theorem restL_len (E : List Ps) (N : Nat) : (restL E N).length ≤ E.length := by
  unfold restL; rw [List.length_map]; exact List.length_filter_le _ _
theorem seg_put {p : Int} {seg dseg : List Rc} {x : Rc} {j : Nat} (hj : j ≤ seg.length) (hs : Srtd (ltOf cmpRc) seg) (hc : Cls (ltOf cmpRc) dseg seg) (hf : ∀ y ∈ dseg, y.frm = p) (hx : x.frm = p) (hgt : ∀ q (hq : q < seg.length), j ≤ q → x.ssn < (seg[q]).ssn) (hle : ∀ q (hq : q < seg.length), j = q + 1 → (seg[q]).ssn ≤ x.ssn) :
    Srtd (ltOf cmpRc) (seg.take j ++ x :: seg.drop j) ∧ Cls (ltOf cmpRc) (dseg ++ [x]) (seg.take j ++ x :: seg.drop j) := by
  have hfs : ∀ y ∈ seg, y.frm = p := fun y hy => hf y (hc.symm.mem swoR hy)
  have hd : ∀ y ∈ seg.drop j, ltR x y = true := fun y hy => by
    obtain ⟨q, hq, rfl⟩ := List.mem_iff_getElem.1 hy
    rw [List.length_drop] at hq
    rw [List.getElem_drop, ltR_true]
    have h1 := hfs _ (List.getElem_mem (show j + q < seg.length by omega))
    have h2 := hgt (j + q) (by omega) (by omega)
    right
    exact ⟨by rw [h1, hx], h2⟩
  have ht : ∀ y ∈ seg.take j, ltR x y = false := fun y hy => by
    obtain ⟨q, hq, rfl⟩ := List.mem_iff_getElem.1 hy
    rw [List.length_take] at hq
    rw [List.getElem_take, ltR_false]
    have h1 := hfs _ (List.getElem_mem (show q < seg.length by omega))
    have h2 : (seg[q]).ssn ≤ x.ssn := by
      obtain ⟨m, rfl⟩ : ∃ m, j = m + 1 := ⟨j - 1, by omega⟩
      have hm : m < seg.length := by omega
      have h3 := hle m hm rfl
      by_cases e : q = m
      · subst e; exact h3
      · have h4 : ltR (seg[m]) (seg[q]) = false := (List.pairwise_iff_getElem.1 hs) q m (by omega) hm (by omega)
        rw [ltR_false] at h4
        have h5 := hfs _ (List.getElem_mem hm)
        rw [h5, h1] at h4
        omega
    rw [h1, hx]
    omega
  have e := List.take_append_drop j seg
  refine ⟨srtd_app.2 ⟨?_, List.pairwise_cons.2 ⟨fun y hy => SWO.asy swoR (hd y hy), ?_⟩, fun y hy z hz => ?_⟩, ?_⟩
  · exact (srtd_app.1 (by rw [e]; exact hs : Srtd (ltOf cmpRc) (seg.take j ++ seg.drop j))).1
  · exact (srtd_app.1 (by rw [e]; exact hs : Srtd (ltOf cmpRc) (seg.take j ++ seg.drop j))).2.1
  · rcases List.mem_cons.1 hz with rfl | hz
    · exact ht y hy
    · exact (srtd_app.1 (by rw [e]; exact hs : Srtd (ltOf cmpRc) (seg.take j ++ seg.drop j))).2.2 y hy z hz
  · have h1 : Cls (ltOf cmpRc) (dseg ++ [x]) ((seg.take j ++ seg.drop j) ++ [x]) := by rw [e]; exact hc.app (Cls.refl _)
    have h2 : Cls (ltOf cmpRc) (seg.drop j ++ [x]) ([x] ++ seg.drop j) := Cls.swap swoR (fun u hu v hv => by rw [List.mem_singleton] at hv; rw [hv]; exact hd u hu)
    have h3 := (Cls.refl (lt := ltOf cmpRc) (seg.take j)).app h2
    rw [List.append_assoc] at h1
    exact h1.trans h3

theorem usedB_zero (E : List Ps) : (fun _ _ => false) = usedB E 0 := by funext p i; rfl
theorem usedB_next (E : List Ps) (N : Nat) {x : Ps} (h : fndE E ((N : Int) + 1) = some x) : (fun p' i' => usedB E N p' i' || (x.p == p' && x.i == i')) = usedB E (N + 1) := by
  funext p i
  rw [usedB_succ E N h]
theorem found_lt {E : List Ps} {N : Nat} (h : ∀ q : Nat, q < N → fndE E ((q : Int) + 1) ≠ none) (hN : N ≤ E.length) {x : Ps} (hx : fndE E ((N : Int) + 1) = some x) : N < E.length := by
  rcases Nat.lt_or_ge N E.length with h1 | h1
  · exact h1
  · obtain rfl : N = E.length := by omega
    rw [stop_all h] at hx
    cases hx
theorem findV_none {E : List Ps} {r : Int} (h : fndE E r = none) : findV E r = .tuple #[.int .i64 (-1), .int .i64 (-1)] := by unfold findV; rw [h]
theorem findV_some {E : List Ps} {r : Int} {x : Ps} (h : fndE E r = some x) : findV E r = .tuple #[.int .i64 (x.p : Int), .int .i64 (x.i : Int)] := by unfold findV; rw [h]
theorem mem_tab {tg : Int} {R : List TR} {x : Ps} (h : x ∈ tabE tg (R.map TR.cs) 0) : ∃ (hp : x.p < R.length) (hi : x.i < R[x.p].cs.length), R[x.p].cs[x.i] = x.c := by
  obtain ⟨_, ⟨cs, h1, h2⟩, _⟩ := tabE_mem tg _ 0 x h
  rw [Nat.sub_zero, List.getElem?_map] at h1
  cases hr : R[x.p]? with
  | none => rw [hr] at h1; cases h1
  | some r =>
    rw [hr] at h1
    injection h1 with h1
    subst h1
    obtain ⟨a, b⟩ := List.getElem?_eq_some_iff.1 hr
    subst b
    obtain ⟨c, d⟩ := List.getElem?_eq_some_iff.1 h2
    exact ⟨a, c, d⟩
/-- what holds between two rows -/
def Q4 (E : List Ps) (N : Nat) (R : List TR) (tg : Int) (p : Nat) (dn S : List Rc) : Prop :=
  S.length = dn.length ∧ Srtd (ltOf cmpRc) S ∧ Cls (ltOf cmpRc) dn S ∧ (∀ x ∈ dn, x.frm < (p : Int)) ∧ dn ++ restF E N (tabE tg ((R.map TR.cs).drop p) p) = restL E N
/-- what holds within a row -/
def Q6 (E : List Ps) (N : Nat) (tg : Int) (p : Nat) (cs : List Cp) (i : Nat) (TL : List Ps) (dn dseg seg : List Rc) : Prop :=
  seg.length = dseg.length ∧ Srtd (ltOf cmpRc) seg ∧ Cls (ltOf cmpRc) dseg seg ∧ (∀ x ∈ dseg, x.frm = (p : Int)) ∧ dn ++ (dseg ++ (restF E N (rowE tg p (cs.drop i) i) ++ restF E N TL)) = restL E N
theorem Q4.start (E : List Ps) (N : Nat) (R : List TR) (tg : Int) (h : E = tabE tg (R.map TR.cs) 0) : Q4 E N R tg 0 [] [] :=
  ⟨rfl, List.Pairwise.nil, Cls.refl _, fun x hx => by simp at hx, by rw [List.drop_zero, ← h]; rfl⟩
theorem Q4.open {E : List Ps} {N : Nat} {R : List TR} {tg : Int} {p : Nat} {dn S : List Rc} (h : Q4 E N R tg p dn S) (hp : p < R.length) : Q6 E N tg p R[p].cs 0 (tabE tg ((R.map TR.cs).drop (p + 1)) (p + 1)) dn [] [] :=
  ⟨rfl, List.Pairwise.nil, Cls.refl _, fun x hx => by simp at hx, by rw [← restF_app, List.nil_append, ← tabR_drop tg R p hp]; exact h.2.2.2.2⟩
theorem Q6.bound {E : List Ps} {N : Nat} {tg : Int} {p : Nat} {cs : List Cp} {i : Nat} {TL : List Ps} {dn dseg seg : List Rc} (h : Q6 E N tg p cs i TL dn dseg seg) : dn.length + seg.length ≤ E.length := by
  have h1 := congrArg List.length h.2.2.2.2
  have h2 := restL_len E N
  have h3 := h.1
  simp only [List.length_append] at h1
  omega
theorem Q4.bound {E : List Ps} {N : Nat} {R : List TR} {tg : Int} {p : Nat} {dn S : List Rc} (h : Q4 E N R tg p dn S) : S.length ≤ E.length := by
  have h1 := congrArg List.length h.2.2.2.2
  have h2 := restL_len E N
  have h3 := h.1
  simp only [List.length_append] at h1
  omega
theorem Q6.skip1 {E : List Ps} {N : Nat} {tg : Int} {p : Nat} {cs : List Cp} {i : Nat} {TL : List Ps} {dn dseg seg : List Rc} (h : Q6 E N tg p cs i TL dn dseg seg) (hi : i < cs.length) {xt xs xv xr : Int} (hx : (⟨xt, xs, xv, xr⟩ : Cp) = cs[i]) (hn : ¬ xt = tg) : Q6 E N tg p cs (i + 1) TL dn dseg seg := by
  obtain ⟨h1, h2, h3, h4, h5⟩ := h
  rw [rowE_drop tg p cs i hi, ← hx, if_neg hn] at h5
  exact ⟨h1, h2, h3, h4, h5⟩
theorem Q6.skip2 {E : List Ps} {N : Nat} {tg : Int} {p : Nat} {cs : List Cp} {i : Nat} {TL : List Ps} {dn dseg seg : List Rc} (h : Q6 E N tg p cs i TL dn dseg seg) (hi : i < cs.length) {xt xs xv xr : Int} (hx : (⟨xt, xs, xv, xr⟩ : Cp) = cs[i]) (hn : xt = tg) (hu : usedB E N p i = true) : Q6 E N tg p cs (i + 1) TL dn dseg seg := by
  obtain ⟨h1, h2, h3, h4, h5⟩ := h
  rw [rowE_drop tg p cs i hi, ← hx, if_pos hn, restF_used E N ⟨p, i, ⟨xt, xs, xv, xr⟩⟩ _ hu] at h5
  exact ⟨h1, h2, h3, h4, h5⟩
theorem Q6.put {E : List Ps} {N : Nat} {tg : Int} {p : Nat} {cs : List Cp} {i : Nat} {TL : List Ps} {dn dseg seg : List Rc} (h : Q6 E N tg p cs i TL dn dseg seg) (hi : i < cs.length) {xt xs xv xr : Int} (hx : (⟨xt, xs, xv, xr⟩ : Cp) = cs[i]) (hn : xt = tg) (hu : usedB E N p i = false)
    {j : Nat} (hj : j ≤ seg.length) (hgt : ∀ q (hq : q < seg.length), j ≤ q → xs < (seg[q]).ssn) (hle : ∀ q (hq : q < seg.length), j = q + 1 → (seg[q]).ssn ≤ xs) :
    Q6 E N tg p cs (i + 1) TL dn (dseg ++ [⟨(p : Int), xs, xv⟩]) (seg.take j ++ ⟨(p : Int), xs, xv⟩ :: seg.drop j) := by
  obtain ⟨h1, h2, h3, h4, h5⟩ := h
  rw [rowE_drop tg p cs i hi, ← hx, if_pos hn, restF_free E N ⟨p, i, ⟨xt, xs, xv, xr⟩⟩ _ hu] at h5
  obtain ⟨k1, k2⟩ := seg_put (p := (p : Int)) (x := ⟨(p : Int), xs, xv⟩) hj h2 h3 h4 rfl hgt hle
  refine ⟨?_, k1, k2, fun y hy => ?_, ?_⟩
  · simp only [List.length_append, List.length_cons, List.length_take, List.length_drop, List.length_nil]
    omega
  · rcases List.mem_append.1 hy with hy | hy
    · exact h4 y hy
    · rw [List.mem_singleton] at hy; rw [hy]
  · rw [← h5]
    simp [Ps.rc]
theorem Q6.close {E : List Ps} {N : Nat} {R : List TR} {tg : Int} {p : Nat} {cs : List Cp} {i : Nat} {dn dseg S seg : List Rc} (h : Q6 E N tg p cs i (tabE tg ((R.map TR.cs).drop (p + 1)) (p + 1)) dn dseg seg) (k : Q4 E N R tg p dn S) (hi : cs.length ≤ i) : Q4 E N R tg (p + 1) (dn ++ dseg) (S ++ seg) := by
  obtain ⟨h1, h2, h3, h4, h5⟩ := h
  obtain ⟨k1, k2, k3, k4, k5⟩ := k
  rw [rowE_end tg p cs i hi] at h5
  refine ⟨by simp [h1, k1], srtd_app.2 ⟨k2, h2, fun x hx y hy => ?_⟩, k3.app h3, fun x hx => ?_, ?_⟩
  · have e1 := k4 x (k3.symm.mem swoR hx)
    have e2 := h4 y (h3.symm.mem swoR hy)
    show ltR y x = false
    rw [ltR_false]
    omega
  · rcases List.mem_append.1 hx with hx | hx
    · have := k4 x hx; omega
    · have := h4 x hx; omega
  · rw [← h5]
    simp [restF]
theorem ins_seg {l l1 seg : List Rc} (x : Rc) {k : Nat} (h : l = l1 ++ seg) (hk : l1.length ≤ k) : l.take k ++ x :: l.drop k = l1 ++ (seg.take (k - l1.length) ++ x :: seg.drop (k - l1.length)) := by
  subst h
  rw [List.take_append, List.drop_append, List.take_of_length_le hk, List.drop_of_length_le hk]
  simp
set_option maxHeartbeats 12800000 in
theorem rebuild_ref (A : Option Addr) (c : Nat) (R : List TR) (tg : Int) (w : World) (hs : TabSeg w A R) (hR : R.length ≤ 200) (hE : (tabE tg (R.map TR.cs) 0).length ≤ 200) (hr : ∀ r ∈ R, r.cs.length ≤ 200) :
    Calls Try.prog 27 #[.slice A R.length c, .int .i64 tg] w (RbPost (tabE tg (R.map TR.cs) 0) w) := by
  obtain ⟨E, hEE⟩ : ∃ E, E = tabE tg (R.map TR.cs) 0 := ⟨_, rfl⟩
  have HFIND : Aside (∀ (r : Int) (W : World), Ext w W → Calls Try.prog 36 #[.slice A R.length c, .int .i64 tg, .int .i64 r] W fun e w' => e = .returned (findV E r) ∧ w' = W) := fun r W hW => by
    rw [hEE]
    exact find_any A c R tg r W (hs.ext hW) hR hr
  rw [← hEE] at hE ⊢
  have HE := Lib.hid hEE
  have HR := Lib.hid hr
  clear hEE hr
  have hR' : (R.length : Int) ≤ 200 := by omega
  have hmk := mk_boolss R.length (by omega) w
  have HFM0 : Aside (FM (w.alloc (.cells (Array.replicate R.length (Value.slice none 0 0)) 66)) w.heap.size w.heap.size R (fun _ _ => false) 0) := FM.made w R
  have HX0 : Aside (Ext w (w.alloc (.cells (Array.replicate R.length (Value.slice none 0 0)) 66))) := (Ext.refl w).allocs _
  go_enter Try.func27, Try.ntmps27
  go_upto_block 0 with fail
  obtain ⟨W, hW⟩ : ∃ W, w.alloc (.cells (Array.replicate R.length (Value.slice none 0 0)) 66) = W := ⟨_, rfl⟩
  rw [hW] at HFM0 HX0 ⊢
  clear hW hmk
  obtain ⟨gU, hgU⟩ : ∃ g, w.heap.size = g := ⟨_, rfl⟩
  have HFM : Aside (FM W w.heap.size gU R (fun _ _ => false) 0) := by rw [hgU] at HFM0 ⊢; exact HFM0
  rw [hgU]
  have hgUw : w.heap.size ≤ gU := by omega
  clear hgU HFM0
  go_cut [8] (fun _ wx => Aside (FM wx w.heap.size gU R (fun _ _ => false) R.length) ∧ Aside (Ext w wx))
  case first =>
    go_wp2_with fail
    go_loopg [8] R.length (fun kx s8 wr => ∃ p : Nat, s8 = .int .i64 p ∧ p ≤ R.length ∧ R.length - p ≤ kx ∧ Aside (FM wr w.heap.size gU R (fun _ _ => false) p) ∧ Aside (Ext w wr))
    case atStart => exact ⟨0, rfl, Nat.zero_le _, by omega, HFM, HX0⟩
    case round =>
      clear HFM HX0
      obtain ⟨p, rfl, hp, hkx, SF, SX⟩ := hrel
      by_cases hlt : p < R.length
      · have hltz : (p : Int) < (R.length : Int) := by omega
        have hp0 : (0 : Int) ≤ (p : Int) := by omega
        obtain ⟨tb, toff, rfl, pc⟩ := (hs.ext SX.out).at_ hlt
        have hlen := HR.out R[p] (List.getElem_mem hlt)
        have SF2 : Aside _ := SF.out.add (r := R[p]) (List.getElem?_eq_getElem hlt)
        obtain ⟨v0, cv, cf⟩ := (SF.out.ext ((Ext.refl wr).allocs (.cells (Array.replicate R[p].cs.length (Value.bool false)) 4))).cell hlt
        obtain ⟨⟨rA, rc, cs⟩, hRp⟩ : ∃ r : TR, r = R[p] := ⟨_, rfl⟩
        rw [← hRp] at pc hlen SF2 cv cf
        simp only at pc hlen SF2 cv cf
        clear hRp
        have hmk := mk_bools cs.length (by omega) wr
        have SX2 : Aside (Ext w (wr.alloc (.cells (Array.replicate cs.length (Value.bool false)) 4))) := SX.out.allocs _
        go_wp2_with fail
        go_roundg (R.length - (p + 1))
        case measure => omega
        case rel => exact ⟨p + 1, by go_num, by omega, Nat.le_refl _, SF2, SX2.out.set hgUw _⟩
      · obtain rfl : p = R.length := by omega
        have hltz : ¬ (R.length : Int) < (R.length : Int) := by omega
        go_wp2_with fail
        go_meet
        exact ⟨SF, SX⟩
  case rest =>
    obtain ⟨SF0, SX0⟩ := hcut
    clear HFM HX0
    have SF1 : Aside (FM wc w.heap.size gU R (usedB E 0) R.length) := SF0.out.same (usedB_zero E)
    clear SF0
    go_upto_block 2 with fail
    go_cut [6] (fun s6 wx => ∃ (N : Nat) (l : List Rc), N ≤ E.length ∧ Hid (l = fixedL E N) ∧ Hid (Stop E N) ∧ Aside (OwnRc wx w.heap.size s6 l) ∧ Aside (FM wx w.heap.size gU R (usedB E N) R.length) ∧ Aside (Ext w wx))
    case first =>
      go_wp2_with fail
      go_loopg [6, 9] E.length (fun kx s6 s9 wr => ∃ (N : Nat) (l : List Rc), s9 = .int .i64 ((N : Int) + 1) ∧ N ≤ E.length ∧ E.length - N ≤ kx ∧ Hid (l = fixedL E N) ∧ Aside (OwnRc wr w.heap.size s6 l) ∧ Aside (FM wr w.heap.size gU R (usedB E N) R.length) ∧ Aside (Ext w wr) ∧ Hid (∀ q : Nat, q < N → fndE E ((q : Int) + 1) ≠ none))
      case atStart => exact ⟨0, [], by first | rfl | simp, Nat.zero_le _, by omega, rfl, own_nil _ _ _ _ Rc.cells, SF1, SX0, (fun q hq => absurd hq (Nat.not_lt_zero _) : ∀ q : Nat, q < 0 → fndE E ((q : Int) + 1) ≠ none)⟩
      case round =>
        clear SF1 SX0
        obtain ⟨N, l, rfl, hN, hkx, HL, SO, SF, SX, HQ⟩ := hrel
        have hc := HFIND.out ((N : Int) + 1) wr SX.out
        have hla : l.length ≤ N := by rw [HL.out, fixedL_len]; omega
        obtain ⟨A6, c6, rfl, _, _, _⟩ := own_slice SO.out
        cases hf : fndE E ((N : Int) + 1) with
        | none =>
          rw [findV_none hf] at hc
          have HST := Lib.hid (show Stop E N from ⟨HQ.out, hf⟩)
          clear hf
          go_wp2_with fail
          refine hc.mono ?_
          rintro e w1 ⟨rfl, rfl⟩
          go_wp2_with fail
          go_meet
          exact ⟨N, l, hN, HL, HST, SO, SF, SX⟩
        | some x =>
          rw [findV_some hf] at hc
          have hNl := found_lt HQ.out hN hf
          have hmem := (fnd_mem hf).1
          rw [HE.out] at hmem
          obtain ⟨hxp, hxi, hxc⟩ := mem_tab hmem
          obtain ⟨g, cg, hgg, hHg, ⟨csb, hBg⟩, cells, mark⟩ := SF.out.at_ hxp
          have cell := cells x.i hxi
          have SF2 : Aside (FM (wr.setCell ⟨g, x.i, none⟩ (.bool true)) w.heap.size gU R (usedB E (N + 1)) R.length) := (mark x.i hxi).same (usedB_next E N hf)
          obtain ⟨ce1, ce2⟩ := cell
          have HFX : Hid (fixedL E (N + 1) = fixedL E N ++ [x.rc]) := fixedL_succ E N hf
          have HQ2 : Hid (∀ q : Nat, q < N + 1 → fndE E ((q : Int) + 1) ≠ none) := (fun q hq => by
            by_cases e : q < N
            · exact HQ.out q e
            · obtain rfl : q = N := by omega
              rw [hf]; simp : ∀ q : Nat, q < N + 1 → fndE E ((q : Int) + 1) ≠ none)
          clear cells mark hf hmem
          have SX2 : Aside (Ext w (wr.setCell ⟨g, x.i, none⟩ (.bool true))) := SX.out.set (by omega) _
          have SO2 : Aside (OwnRc (wr.setCell ⟨g, x.i, none⟩ (.bool true)) w.heap.size (.slice A6 l.length c6) l) := SO.out.kept (grownRow_sets wr g x.i [.bool true]) (.inr (fun e => own_ne_blk SO.out hBg (by decide) e.symm))
          obtain ⟨tb, toff, rfl, pc⟩ := (hs.ext SX2.out).at_ hxp
          obtain ⟨tb', toff', ht', pc0⟩ := (hs.ext SX.out).at_ hxp
          injection ht' with ht'
          injection ht' with ht1 ht2
          subst ht1
          subst ht2
          obtain ⟨cb, coff, hra, q0, q1, q2, q3⟩ := Cp.at_ ((hs.ext SX2.out).row hxp).1 hxi
          rw [hxc] at q0 q1 q2 q3
          have hlen := HR.out R[x.p] (List.getElem_mem hxp)
          obtain ⟨rw_, hrw⟩ : ∃ r : TR, r = R[x.p] := ⟨_, rfl⟩
          obtain ⟨rA, rc, cs⟩ := rw_
          simp only [← hrw] at pc pc0 cg ce1 ce2 hra hxi hlen
          subst hra
          obtain ⟨xp, xi, xt, xs, xv, xr⟩ := x
          simp only at pc pc0 cg ce1 ce2 hxi hlen q0 q1 q2 q3 hc hxp SF2 SX2 SO2 HFX
          clear hrw hxc
          have hp0 : (0 : Int) ≤ (xp : Int) := by omega
          have hi0 : (0 : Int) ≤ (xi : Int) := by omega
          have hpz : (xp : Int) < (R.length : Int) := by omega
          have hiz : (xi : Int) < (cs.length : Int) := by omega
          have hneg : ¬ (xp : Int) < 0 := by omega
          have hrec := fun W => receipt_any (xp : Int) ⟨xt, xs, xv, xr⟩ W
          have hl2 : l.length ≤ 200 := by omega
          have HL2 : Hid (l ++ [(⟨(xp : Int), xs, xv⟩ : Rc)] = fixedL E (N + 1)) := by show _ = _; rw [HFX.out, HL.out]; rfl
          go_wp2_with fail
          refine hc.mono ?_
          rintro e w1 ⟨rfl, rfl⟩
          go_wp2_with fail
          refine (hrec _).mono ?_
          rintro e w2 ⟨rfl, hE2⟩
          have SO3 : Aside (OwnRc w2 w.heap.size (.slice A6 l.length c6) l) := own_ext SO2.out hE2
          have SX3 : Aside (Ext w w2) := SX2.out.trans hE2
          have SF3 : Aside (FM w2 w.heap.size gU R (usedB E (N + 1)) R.length) := SF2.out.ext hE2
          clear hrec hE2
          go_wp2_with (at_builtin; refine wpList_push_at Rc.cells 3 24 Rc.len Rc.one (by omega) rfl _ _ _ rfl w.heap.size 54 Try.underlying47 (by kernel_rfl) (.slice A6 l.length c6) l ⟨(xp : Int), xs, xv⟩ w2.heap.size rfl SO3.out rfl rfl (by unfold maxLen; omega) (by omega) (by have := SX3.out.size; omega) ?_; intro v7 w7 hown7 hg7)
          go_roundg (E.length - (N + 1))
          case measure => omega
          case rel => exact ⟨N + 1, l ++ [(⟨(xp : Int), xs, xv⟩ : Rc)], by go_num, by omega, Nat.le_refl _, HL2, hown7, SF3.out.grown SO3.out hg7, Ext.own SX3.out SO3.out (Nat.le_refl _) hg7, HQ2⟩
    case rest =>
      clear SF1 SX0
      obtain ⟨N, l0, hN, HL0, HST, SO0, SF0, SX0⟩ := hcut
      have hl0a : l0.length ≤ N := by rw [HL0.out, fixedL_len]; omega
      have hl0b : N ≤ l0.length := by rw [HL0.out, fixedL_len]; omega
      obtain ⟨A0, c0, rfl, _, _, _⟩ := own_slice SO0.out
      have HQ0 : Hid (Q4 E N R tg 0 [] []) := Q4.start E N R tg HE.out
      go_wp2_with fail
      go_loopg [6, 13] R.length (fun kx s6 s13 wr => ∃ (p : Nat) (l dn S : List Rc), s13 = .int .i64 p ∧ p ≤ R.length ∧ R.length - p ≤ kx ∧ Aside (OwnRc wr w.heap.size s6 l) ∧ Aside (FM wr w.heap.size gU R (usedB E N) R.length) ∧ Aside (Ext w wr) ∧ Hid (l = l0 ++ S) ∧ Hid (Q4 E N R tg p dn S))
      case atStart => exact ⟨0, l0, [], [], rfl, Nat.zero_le _, by omega, SO0, SF0, SX0, by show _ = _; simp, HQ0⟩
      case round =>
        clear SO0 SF0 SX0 HQ0
        obtain ⟨p, l1, dn, S, rfl, hp, hkxo, SO, SF, SX, HL1, HQ⟩ := hrel
        have hSb := HQ.out.bound
        have hl1b : l1.length ≤ 400 := by
          have := congrArg List.length HL1.out
          rw [List.length_append] at this
          omega
        obtain ⟨A1, c1, rfl, _, _, _⟩ := own_slice SO.out
        by_cases hlt : p < R.length
        · have hltz : (p : Int) < (R.length : Int) := by omega
          have hp0 : (0 : Int) ≤ (p : Int) := by omega
          have HQ6 := Lib.hid (HQ.out.open hlt)
          obtain ⟨TL, hTL⟩ : ∃ TL, TL = tabE tg ((R.map TR.cs).drop (p + 1)) (p + 1) := ⟨_, rfl⟩
          have hq6 := HQ6.out
          rw [← hTL] at hq6
          have hlen := HR.out R[p] (List.getElem_mem hlt)
          obtain ⟨⟨rA, rc, cs⟩, hRp⟩ : ∃ r : TR, r = R[p] := ⟨_, rfl⟩
          rw [← hRp] at hq6 hlen
          simp only at hq6 hlen
          have HQ7 := Lib.hid hq6
          have HTL := Lib.hid hTL
          have HRp := Lib.hid hRp
          clear hq6 HQ6 hTL hRp
          go_wp2_with fail
          go_loopg [6, 15] cs.length (fun kx s6 s15 wr => ∃ (i : Nat) (l dseg seg : List Rc), s15 = .int .i64 i ∧ i ≤ cs.length ∧ cs.length - i ≤ kx ∧ Aside (OwnRc wr w.heap.size s6 l) ∧ Aside (FM wr w.heap.size gU R (usedB E N) R.length) ∧ Aside (Ext w wr) ∧ Hid (l = l1 ++ seg) ∧ Hid (Q6 E N tg p cs i TL dn dseg seg))
          case atStart => exact ⟨0, l1, [], [], rfl, Nat.zero_le _, by omega, SO, SF, SX, by show _ = _; simp, HQ7⟩
          case round =>
            clear SO SF SX HQ7
            obtain ⟨i, l, dseg, seg, rfl, hi, hkx, SO, SF, SX, HL, HQ6⟩ := hrel
            have hsb := HQ6.out.bound
            have hlb : l.length ≤ 600 := by
              have := congrArg List.length HL.out
              rw [List.length_append] at this
              omega
            have hl1l : l1.length ≤ l.length := by
              have := congrArg List.length HL.out
              rw [List.length_append] at this
              omega
            obtain ⟨A6, c6, rfl, _, _, _⟩ := own_slice SO.out
            obtain ⟨tb, toff, rfl, pc⟩ := (hs.ext SX.out).at_ hlt
            have hrow : CpSeg wr rA cs := by
              have := ((hs.ext SX.out).row hlt).1
              rwa [← HRp.out] at this
            rw [← HRp.out] at pc
            simp only at pc
            by_cases hlt2 : i < cs.length
            · have hlt2z : (i : Int) < (cs.length : Int) := by omega
              have hi0 : (0 : Int) ≤ (i : Int) := by omega
              obtain ⟨cb, coff, rfl, q0, q1, q2, q3⟩ := Cp.at_ hrow hlt2
              obtain ⟨⟨xt, xs, xv, xr⟩, hx⟩ : ∃ x : Cp, x = cs[i] := ⟨_, rfl⟩
              rw [← hx] at q0 q1 q2 q3
              simp only at q0 q1 q2 q3
              have HX := Lib.hid hx
              clear hx hrow
              by_cases ht : xt = tg
              · have hb1 : (xt != tg) = false := by simp [ht]
                have HT := Lib.hid ht
                clear ht
                obtain ⟨g, cg0, hgg, _, _, cells, _⟩ := (SF.out.ext ((Ext.refl wr).allocs (.cells #[.int .i64 xt, .int .i64 xs, .int .i64 xv, .int .i64 xr] 42))).at_ hlt
                have cell := cells i (by rw [← HRp.out]; exact hlt2)
                obtain ⟨ce1, _⟩ := cell
                have cg := cg0
                rw [← HRp.out] at cg
                simp only at cg
                clear cells cg0
                cases hu : usedB E N p i with
                | true =>
                  rw [hu] at ce1
                  have HQ8 := Lib.hid (HQ6.out.skip2 hlt2 HX.out HT.out hu)
                  clear hu
                  go_wp2_with fail
                  go_roundg (cs.length - (i + 1))
                  case measure => omega
                  case rel => exact ⟨i + 1, l, dseg, seg, by go_num, by omega, Nat.le_refl _, own_ext SO.out ((Ext.refl wr).allocs _), SF.out.ext ((Ext.refl wr).allocs _), SX.out.allocs _, HL, HQ8⟩
                | false =>
                  rw [hu] at ce1
                  have HU := Lib.hid hu
                  have SO1 : Aside (OwnRc (wr.alloc (.cells #[.int .i64 xt, .int .i64 xs, .int .i64 xv, .int .i64 xr] 42)) w.heap.size (.slice A6 l.length c6) l) := own_ext SO.out ((Ext.refl wr).allocs _)
                  have SF1 : Aside (FM (wr.alloc (.cells #[.int .i64 xt, .int .i64 xs, .int .i64 xv, .int .i64 xr] 42)) w.heap.size gU R (usedB E N) R.length) := SF.out.ext ((Ext.refl wr).allocs _)
                  have SX1 : Aside (Ext w (wr.alloc (.cells #[.int .i64 xt, .int .i64 xs, .int .i64 xv, .int .i64 xr] 42))) := SX.out.allocs _
                  have SB1 : Aside (Blk (wr.alloc (.cells #[.int .i64 xt, .int .i64 xs, .int .i64 xv, .int .i64 xr] 42)) wr.heap.size 42 #[.int .i64 xt, .int .i64 xs, .int .i64 xv, .int .i64 xr]) := Blk.new wr _ _
                  clear hu
                  go_upto_block 8 with fail
                  clear ce1 cg q0 q1 q2 q3 pc SO SF SX
                  obtain ⟨W1, hW1⟩ : ∃ W1, wr.alloc (.cells #[.int .i64 xt, .int .i64 xs, .int .i64 xv, .int .i64 xr] 42) = W1 := ⟨_, rfl⟩
                  have so1 := SO1.out
                  have sf1 := SF1.out
                  have sx1 := SX1.out
                  have sb1 := SB1.out
                  clear SO1 SF1 SX1 SB1
                  rw [hW1] at so1 sf1 sx1 sb1
                  rw [hW1]
                  clear hW1
                  obtain ⟨gB, hgB⟩ : ∃ gB, wr.heap.size = gB := ⟨_, rfl⟩
                  rw [hgB] at sb1
                  rw [hgB]
                  clear hgB
                  have SO1 : Aside (OwnRc W1 w.heap.size (.slice A6 l.length c6) l) := so1
                  have SF1 : Aside (FM W1 w.heap.size gU R (usedB E N) R.length) := sf1
                  have SX1 : Aside (Ext w W1) := sx1
                  have SB1 : Aside (Blk W1 gB 42 #[.int .i64 xt, .int .i64 xs, .int .i64 xv, .int .i64 xr]) := sb1
                  clear so1 sf1 sx1 sb1
                  go_cut [17] (fun s17 wx => ∃ k : Nat, s17 = .int .i64 k ∧ l1.length ≤ k ∧ k ≤ l.length ∧ Hid (∀ q (hq : q < l.length), k ≤ q → xs < (l[q]).ssn) ∧ Hid (∀ q (hq : q < l.length), k = q + 1 → l1.length ≤ q → (l[q]).ssn ≤ xs) ∧ Aside (Ext W1 wx))
                  case first =>
                    go_wp2_with fail
                    go_loopg [17] l.length (fun kx s17 wx => ∃ k : Nat, s17 = .int .i64 k ∧ l1.length ≤ k ∧ k ≤ l.length ∧ k ≤ kx ∧ Hid (∀ q (hq : q < l.length), k ≤ q → xs < (l[q]).ssn) ∧ Aside (Ext W1 wx))
                    case atStart => exact ⟨l.length, rfl, hl1l, Nat.le_refl _, Nat.le_refl _, (fun q hq h => absurd hq (by omega) : ∀ q (hq : q < l.length), l.length ≤ q → xs < (l[q]).ssn), Ext.refl W1⟩
                    case round =>
                      obtain ⟨k, rfl, hk1, hk2, hkk, HGT, SXk⟩ := hrel
                      by_cases hkl : l1.length < k
                      · obtain ⟨j, rfl⟩ : ∃ j, k = j + 1 := ⟨k - 1, by omega⟩
                        have hjl : j < l.length := by omega
                        obtain ⟨A6', c6', hv6, hs6, _, _⟩ := own_slice (own_ext SO1.out SXk.out)
                        injection hv6 with hA6 _ hc6
                        subst hA6
                        subst hc6
                        obtain ⟨ab, aoff, rfl, e0, e1, e2⟩ := Rc.at_ hs6 hjl
                        obtain ⟨⟨b0, b1, b2, b3⟩, _⟩ := blk4 (SB1.out.ext SXk.out)
                        obtain ⟨ss, hss⟩ : ∃ ss, ss = (l[j]).ssn := ⟨_, rfl⟩
                        rw [← hss] at e1
                        have HSS := Lib.hid hss
                        clear hss e0 e2 hs6
                        have hj0 : (0 : Int) ≤ (j : Int) := by omega
                        have hjz : (j : Int) < (l.length : Int) := by omega
                        have dk : decide ((l1.length : Int) < (j : Int) + 1) = true := decide_eq_true (by omega)
                        have dkM : (l1.length : Int) < (j : Int) + 1 := by omega
                        by_cases hgt : xs < ss
                        · have d2 : decide (xs < ss) = true := decide_eq_true hgt
                          have HGT2 : Hid (∀ q (hq : q < l.length), j ≤ q → xs < (l[q]).ssn) := (fun q hq h => by
                            by_cases e : q = j
                            · subst e; rw [← HSS.out]; exact hgt
                            · exact HGT.out q hq (by omega) : ∀ q (hq : q < l.length), j ≤ q → xs < (l[q]).ssn)
                          go_wp2_with fail
                          go_quiet (fail)
                          go_wp2_with fail
                          go_roundg j
                          case measure => omega
                          case rel => exact ⟨j, by first | rfl | go_num, by omega, by omega, Nat.le_refl _, HGT2, SXk.out.drewN _⟩
                        · have d2 : decide (xs < ss) = false := decide_eq_false hgt
                          have HLE : Hid (∀ q (hq : q < l.length), j + 1 = q + 1 → l1.length ≤ q → (l[q]).ssn ≤ xs) := (fun q hq h _ => by
                            obtain rfl : q = j := by omega
                            rw [← HSS.out]; omega : ∀ q (hq : q < l.length), j + 1 = q + 1 → l1.length ≤ q → (l[q]).ssn ≤ xs)
                          go_wp2_with fail
                          go_quiet (fail)
                          go_wp2_with fail
                          go_meet
                          exact ⟨j + 1, by first | rfl | go_num, hk1, hk2, HGT, HLE, SXk.out.drewN _⟩
                      · obtain rfl : k = l1.length := by omega
                        have dk : decide ((l1.length : Int) < (l1.length : Int)) = false := decide_eq_false (by omega)
                        have dkM : ¬ (l1.length : Int) < (l1.length : Int) := by omega
                        have HLE : Hid (∀ q (hq : q < l.length), l1.length = q + 1 → l1.length ≤ q → (l[q]).ssn ≤ xs) := (fun q hq h h2 => absurd h (by omega) : ∀ q (hq : q < l.length), l1.length = q + 1 → l1.length ≤ q → (l[q]).ssn ≤ xs)
                        go_wp2_with fail
                        go_quiet (fail)
                        go_wp2_with fail
                        go_meet
                        exact ⟨l1.length, rfl, Nat.le_refl _, hl1l, HGT, HLE, SXk.out.drewN _⟩
                  case rest =>
                    obtain ⟨k, rfl, hk1, hk2, HGT, HLE, SXk⟩ := hcut
                    have SOc : Aside (OwnRc wc w.heap.size (.slice A6 l.length c6) l) := own_ext SO1.out SXk.out
                    have SFc : Aside (FM wc w.heap.size gU R (usedB E N) R.length) := SF1.out.ext SXk.out
                    have SXc : Aside (Ext w wc) := SX1.out.trans SXk.out
                    have SBc : Aside (Blk wc gB 42 #[.int .i64 xt, .int .i64 xs, .int .i64 xv, .int .i64 xr]) := SB1.out.ext SXk.out
                    clear SO1 SF1 SX1 SB1 SXk
                    have hli : (l.length : Int) ≤ 600 := by omega
                    have hkI : (k : Int) ≤ (l.length : Int) := by omega
                    have hkI1 : (k : Int) < (l.length : Int) + 1 := by omega
                    have hkI0 : (0 : Int) ≤ (k : Int) := by omega
                    have hwk : IntKind.i64.wrap ((k : Int) + 1) = (k : Int) + 1 := IntWalk.i64_in _ (by omega)
                    have hkJ : (0 : Int) ≤ (k : Int) + 1 := by omega
                    have hkJ1 : (k : Int) + 1 ≤ (l.length : Int) + 1 := by omega
                    go_wp2_with (at_builtin; refine wpList_pushZ _ rfl _ _ rfl w.heap.size _ l rfl SOc.out rfl (by omega) SXc.out.size ?_; intro g6 cap6 w6 hown6 hc6 hc6m hg6 hblk6)
                    have hF6 : FM w6 w.heap.size gU R (usedB E N) R.length := SFc.out.grown SOc.out hg6
                    have hE6 : Ext w w6 := Ext.own SXc.out SOc.out (Nat.le_refl _) hg6
                    have hB6 : Blk w6 gB 42 #[.int .i64 xt, .int .i64 xs, .int .i64 xv, .int .i64 xr] := (hg6.block gB SBc.out.lt (own_ne_blk SOc.out SBc.out (by decide))).trans SBc.out
                    obtain ⟨X, hX⟩ : ∃ X, l ++ [zRc] = X := ⟨_, rfl⟩
                    have hXl : X.length = l.length + 1 := by rw [← hX, List.length_append]; rfl
                    rw [hX] at hown6
                    have HXE := Lib.hid hX
                    have HXL := Lib.hid hXl
                    clear hX hg6 hblk6 SOc SFc SXc SBc hXl
                    go_upto_region 27 with fail
                    have SO7 : Aside (w6.drew.ownsRow w.heap.size 54 3 (.slice (some ⟨g6, 0, none⟩) (l.length + 1) cap6) (l.length + 1) (X.flatMap Rc.cells)) := hown6
                    have SF7 : Aside (FM w6.drew w.heap.size gU R (usedB E N) R.length) := hF6.ext ((Ext.refl w6).drewN 1)
                    have SX7 : Aside (Ext w w6.drew) := Below.drew hE6
                    have SB7 : Aside (Blk w6.drew gB 42 #[.int .i64 xt, .int .i64 xs, .int .i64 xv, .int .i64 xr]) := hB6
                    have HRow7 : Aside (Row w6.drew g6 X) := (row_of_own hown6).1
                    have hgw6 := (row_of_own hown6).2
                    clear hown6 hF6 hE6 hB6
                    go_cut [17] (fun s17 wx => s17 = .int .i64 (k : Int) ∧ ∃ Y : List Rc, Hid (Y.length = l.length + 1) ∧ Hid (Y.set k ⟨(p : Int), xs, xv⟩ = l.take k ++ ⟨(p : Int), xs, xv⟩ :: l.drop k) ∧ Aside (wx.ownsRow w.heap.size 54 3 (.slice (some ⟨g6, 0, none⟩) (l.length + 1) cap6) (l.length + 1) (Y.flatMap Rc.cells)) ∧ Aside (FM wx w.heap.size gU R (usedB E N) R.length) ∧ Aside (Ext w wx) ∧ Aside (Blk wx gB 42 #[.int .i64 xt, .int .i64 xs, .int .i64 xv, .int .i64 xr]))
                    case first =>
                      by_cases hkn : k = l.length
                      · have HK : Hid (X.set k ⟨(p : Int), xs, xv⟩ = l.take k ++ ⟨(p : Int), xs, xv⟩ :: l.drop k) := by
                          show X.set k _ = _
                          rw [← HXE.out, hkn, List.take_length, List.drop_length, List.set_append_right _ _ (Nat.le_refl _), Nat.sub_self]
                          rfl
                        have hsl1 := fun w => run_from w g6 (l.length + 1) cap6 (k + 1) ((k : Int) + 1) (by omega) (by omega)
                        have hsl2 := fun w => run_from w g6 (l.length + 1) cap6 k (k : Int) rfl (by omega)
                        rw [show l.length + 1 - (k + 1) = 0 by omega] at hsl1
                        generalize (if cap6 = k + 1 then (⟨g6, 0, none⟩ : Addr) else ⟨g6, (k + 1) * 3, none⟩) = D1 at hsl1
                        generalize (if cap6 = k then (⟨g6, 0, none⟩ : Addr) else ⟨g6, k * 3, none⟩) = S1 at hsl2
                        have hcp := fun w d s dc sl sc => run_copy_none w 3 d s dc sl sc
                        clear hkn
                        go_still_tail 7, (by kernel_rfl)
                        change wpList _ _ _ _ _ w6.drew
                        generalize w6.drew = w7 at *
                        go_wp2_with fail
                        go_meet
                        exact ⟨rfl, X, HXL, HK, SO7, SF7, SX7, SB7⟩
                      · have hkn' : k < l.length := by omega
                        have HK : Hid ((X.take (k + 1) ++ (X.drop k).take (l.length - k)).set k ⟨(p : Int), xs, xv⟩ = l.take k ++ ⟨(p : Int), xs, xv⟩ :: l.drop k) := by
                          show (X.take (k + 1) ++ (X.drop k).take (l.length - k)).set k _ = _
                          have e1 : (l ++ [zRc]).take (k + 1) = l.take (k + 1) := List.take_append_of_le_length (by omega)
                          have e2 : ((l ++ [zRc]).drop k).take (l.length - k) = l.drop k := by rw [List.drop_append_of_le_length (by omega), List.take_append_of_le_length (by rw [List.length_drop]; omega), List.take_of_length_le (by rw [List.length_drop]; omega)]
                          rw [← HXE.out, e1, e2]
                          exact ins_list _ hkn'
                        have hsl1 := fun w => run_from w g6 (l.length + 1) cap6 (k + 1) ((k : Int) + 1) (by omega) (by omega)
                        have hsl2 := fun w => run_from w g6 (l.length + 1) cap6 k (k : Int) rfl (by omega)
                        rw [show l.length + 1 - (k + 1) = l.length - k by omega, if_neg (show ¬ cap6 = k + 1 by omega)] at hsl1
                        rw [if_neg (show ¬ cap6 = k by omega)] at hsl2
                        have hcp := run_copy_rc w6.drew 3 g6 k l.length (cap6 - (k + 1)) (cap6 - k) X HRow7.out HXL.out hkn'
                        have hXl := HXL.out
                        have hYl : ((X.drop k).take (l.length - k)).length = l.length - k := by rw [List.length_take, List.length_drop]; omega
                        have hO8 : (w6.drew.setCells g6 ((k + 1) * 3) (((X.drop k).take (l.length - k)).flatMap Rc.cells)).ownsRow w.heap.size 54 3 (.slice (some ⟨g6, 0, none⟩) (l.length + 1) cap6) (l.length + 1) ((X.take (k + 1) ++ (X.drop k).take (l.length - k)).flatMap Rc.cells) := by
                          have := own_sets SO7.out (o := (k + 1) * 3) (vs := ((X.drop k).take (l.length - k)).flatMap Rc.cells) (by rw [flat_len Rc.cells 3 Rc.len, flat_len Rc.cells 3 Rc.len, hYl]; omega)
                          rw [setAll_flats X ((X.drop k).take (l.length - k)) (k + 1) (by rw [hYl]; omega), hYl, show X.drop (k + 1 + (l.length - k)) = [] from List.drop_eq_nil_of_le (by omega), List.append_nil] at this
                          exact this
                        have hE8 : Ext w (w6.drew.setCells g6 ((k + 1) * 3) (((X.drop k).take (l.length - k)).flatMap Rc.cells)) := Ext.grownRow SX7.out hgw6 (grownRow_sets _ _ _ _)
                        have hSO7 : w6.drew.ownsRow w.heap.size 54 3 (.slice (some ⟨g6, 0, none⟩) (l.length + 1) cap6) X.length (X.flatMap Rc.cells) := by rw [hXl]; exact SO7.out
                        have hF8 : FM (w6.drew.setCells g6 ((k + 1) * 3) (((X.drop k).take (l.length - k)).flatMap Rc.cells)) w.heap.size gU R (usedB E N) R.length := SF7.out.grown hSO7 (grownRow_sets _ _ _ _)
                        have hB8 : Blk (w6.drew.setCells g6 ((k + 1) * 3) (((X.drop k).take (l.length - k)).flatMap Rc.cells)) gB 42 #[.int .i64 xt, .int .i64 xs, .int .i64 xv, .int .i64 xr] := (World.heap_setCells_other _ g6 _ _ SB7.out.lt (fun e => own_ne_blk SO7.out SB7.out (by decide) (by rw [e]; rfl))).trans SB7.out
                        obtain ⟨Y, hY⟩ : ∃ Y, X.take (k + 1) ++ (X.drop k).take (l.length - k) = Y := ⟨_, rfl⟩
                        have HYY : Hid (Y.length = l.length + 1) := by show _ = _; rw [← hY, List.length_append, hYl, List.length_take]; omega
                        rw [hY] at HK hO8
                        clear hkn hY hYl hXl hSO7
                        go_still_tail 7, (by kernel_rfl)
                        change wpList _ _ _ _ _ w6.drew
                        obtain ⟨w8, hw8⟩ : ∃ w8, w6.drew.setCells g6 ((k + 1) * 3) (((X.drop k).take (l.length - k)).flatMap Rc.cells) = w8 := ⟨_, rfl⟩
                        rw [hw8] at hcp hO8 hE8 hB8 hF8
                        clear hw8
                        have SO8 : Aside _ := hO8
                        have SE8 : Aside _ := hE8
                        have SB8 : Aside _ := hB8
                        have SF8 : Aside _ := hF8
                        clear hO8 hE8 hB8 hF8 SO7 SF7 SX7 SB7 HRow7
                        generalize w6.drew = w7 at *
                        go_wp2_with fail
                        go_meet
                        exact ⟨rfl, Y, HYY, HK, SO8, SF8, SE8, SB8⟩
                    case rest =>
                      clear SO7 SF7 SX7 SB7 HRow7
                      obtain ⟨rfl, Y, HYL, HYS, SO8, SF8, SX8, SB8⟩ := hcut
                      obtain ⟨⟨t0, t1, t2, t3⟩, _⟩ := blk4 SB8.out
                      have hrec := receipt_any (p : Int) ⟨xt, xs, xv, xr⟩ wc
                      have hkz : (k : Int) < (l.length : Int) + 1 := hkI1
                      go_wp2_with fail
                      refine hrec.mono ?_
                      rintro e w9 ⟨rfl, hE9⟩
                      have hyl := HYL.out
                      have hkY : k < Y.length := by omega
                      have hO9 := own_extD SO8.out hE9
                      have hR9 := (row_of_own hO9).1
                      have hO9' : w9.ownsRow w.heap.size 54 3 (.slice (some ⟨g6, 0, none⟩) (l.length + 1) cap6) Y.length (Y.flatMap Rc.cells) := by rw [hyl]; exact hO9
                      have HF9 : Hid (FM (putR w9 g6 (k * 3) ⟨(p : Int), xs, xv⟩) w.heap.size gU R (usedB E N) R.length) := (SF8.out.ext hE9).grown hO9' (grownRow_sets w9 g6 (k * 3) (Rc.cells ⟨(p : Int), xs, xv⟩))
                      have HX9 : Hid (Ext w (putR w9 g6 (k * 3) ⟨(p : Int), xs, xv⟩)) := Ext.grownRow (SX8.out.trans hE9) hgw6 (grownRow_sets w9 g6 (k * 3) (Rc.cells ⟨(p : Int), xs, xv⟩))
                      have HO9 : Hid ((putR w9 g6 (k * 3) ⟨(p : Int), xs, xv⟩).ownsRow w.heap.size 54 3 (.slice (some ⟨g6, 0, none⟩) (l.length + 1) cap6) (l.length + 1) ((Y.set k ⟨(p : Int), xs, xv⟩).flatMap Rc.cells)) := by
                        have := own_sets hO9 (o := k * 3) (vs := Rc.cells ⟨(p : Int), xs, xv⟩) (by rw [flat_len Rc.cells 3 Rc.len, Rc.len]; omega)
                        rw [setAll_flat Rc.cells 3 (by omega) Rc.len Y k _ hkY] at this
                        exact this
                      obtain ⟨c0, c1, c2⟩ := Row.atR hR9 hkY
                      obtain ⟨f0, f1, f2⟩ := Row.frzR hR9 hkY
                      generalize Y[k] = zz at c0 c1 c2
                      unfold putR at HO9 HX9 HF9
                      have HQ9 := Lib.hid (HQ6.out.put (j := k - l1.length) hlt2 HX.out HT.out HU.out (by have := congrArg List.length HL.out; rw [List.length_append] at this; omega) (fun q hq h => by
                        have := HGT.out (l1.length + q) (by have := congrArg List.length HL.out; rw [List.length_append] at this; omega) (by omega)
                        simp only [HL.out] at this
                        rw [List.getElem_append_right (by omega)] at this
                        simpa using this) (fun q hq h => by
                        have := HLE.out (l1.length + q) (by have := congrArg List.length HL.out; rw [List.length_append] at this; omega) (by omega) (by omega)
                        simp only [HL.out] at this
                        rw [List.getElem_append_right (by omega)] at this
                        simpa using this))
                      have HL9 := Lib.hid (ins_seg (⟨(p : Int), xs, xv⟩ : Rc) HL.out hk1)
                      have HLn : Hid ((l.take k ++ (⟨(p : Int), xs, xv⟩ : Rc) :: l.drop k).length = l.length + 1) := by
                        show _ = _
                        simp only [List.length_append, List.length_cons, List.length_take, List.length_drop]
                        omega
                      have HYS' := HYS
                      rw [HYS.out] at HO9
                      clear hrec hE9 hO9 hR9 hO9' t0 t1 t2 t3 SO8 SF8 SX8 SB8 hyl hkY
                      go_wp2_with fail
                      go_roundg (cs.length - (i + 1))
                      case measure => omega
                      case rel =>
                        exact ⟨i + 1, l.take k ++ ⟨(p : Int), xs, xv⟩ :: l.drop k, _, _, by go_num, by omega, Nat.le_refl _, by
                          show OwnRc _ _ _ _
                          unfold OwnRc
                          rw [HLn.out]
                          exact HO9.out, HF9.out, HX9.out, HL9, HQ9⟩
              · have hb1 : (xt != tg) = true := by simp [ht]
                have HQ8 := Lib.hid (HQ6.out.skip1 hlt2 HX.out ht)
                clear ht
                go_wp2_with fail
                go_roundg (cs.length - (i + 1))
                case measure => omega
                case rel => exact ⟨i + 1, l, dseg, seg, by go_num, by omega, Nat.le_refl _, own_ext SO.out ((Ext.refl wr).allocs _), SF.out.ext ((Ext.refl wr).allocs _), SX.out.allocs _, HL, HQ8⟩
            · have hlt2z : ¬ (i : Int) < (cs.length : Int) := by omega
              have h6 := HQ6.out
              rw [HTL.out] at h6
              have HQ9 := Lib.hid (h6.close HQ.out (by omega))
              have HL2 : Hid (l = l0 ++ (S ++ seg)) := by show _ = _; rw [HL.out, HL1.out, List.append_assoc]
              clear h6 hrow
              go_wp2_with fail
              go_roundg (R.length - (p + 1))
              case measure => omega
              case rel => exact ⟨p + 1, l, dn ++ dseg, S ++ seg, by go_num, by omega, Nat.le_refl _, SO, SF, SX, HL2, HQ9⟩
        · have hltz : ¬ (p : Int) < (R.length : Int) := by omega
          have hq := HQ.out
          obtain ⟨k1, k2, k3, k4, k5⟩ := hq
          rw [tabR_end tg R p (by omega)] at k5
          have HF : Hid (Reb E l1 N) := ⟨S, by rw [HL1.out, HL0.out], HST.out, k2, by
            have : dn = restL E N := by rw [← k5]; simp [restF]
            rw [← this]; exact k3⟩
          clear k1 k2 k3 k4 k5
          go_wp2_with fail
          go_ret2
          exact ⟨_, l1, N, by congr 1; congr 1; rw [show (l0.length : Int) = (N : Int) by omega]; rfl, SO.out, HF.out, hl1b, by have := congrArg List.length HL1.out; rw [List.length_append] at this; omega, SX.out⟩
end Go.Proofs.Ytooegndajfopkaa
