/- Restorable of package determinant and of the reference. No statement of the seat is proved here. -/
import Derived.Test.YthadaahemhamdaaHas
namespace Go.Proofs.Ythadaahemhamdaa
open Go.RowKit Go.Maps
set_option linter.unusedVariables false

def ckB (ck : List Int) (k : Int) : Bool := ck.any fun c => c == k
theorem ckB_take (ck : List Int) (k : Int) (j : Nat) (hj : j < ck.length) : ckB (ck.take (j + 1)) k = (ckB (ck.take j) k || ck[j] == k) := by
  unfold ckB
  rw [List.take_succ_eq_append_getElem hj, List.any_append]
  simp
/-- whether the index k can be restored -/
def goodAt (ck : List Int) (st L : List Dt) : Nat → Bool
  | 0 => ckB ck 0
  | k + 1 => ckB ck ((k : Int) + 1) || (goodAt ck st L k && (match L[k]? with | some d => hasB st d | none => false))
/-- the restorable indexes below n -/
def restTo (ck : List Int) (st L : List Dt) : Nat → List Int
  | 0 => []
  | n + 1 => if goodAt ck st L n = true then restTo ck st L n ++ [(n : Int)] else restTo ck st L n
theorem restTo_len (ck : List Int) (st L : List Dt) (n : Nat) : (restTo ck st L n).length ≤ n := by
  induction n with
  | zero => simp [restTo]
  | succ n ih =>
    rw [restTo]
    split
    · simp; omega
    · omega
def restV (p : Int) (es : List Ev) (ck : List Int) (st : List Dt) : List Int := restTo ck st (linV p es) (es.length + 1)

theorem good_succ (ck : List Int) (st L : List Dt) (k : Nat) (d : Dt) (hd : L[k]? = some d) : goodAt ck st L (k + 1) = (ckB ck ((k : Int) + 1) || (goodAt ck st L k && hasB st d)) := by
  rw [goodAt, hd]

open Classical in
def Known (p : Int) (st : List Dt) (f : Dt → Bool) : Prop := ∀ d, f d = (hasB st d && d.proc == p)
theorem Known.step {p : Int} {st : List Dt} {f : Dt → Bool} {j : Nat} (hj : j < st.length) (h : Known p (st.take j) f) (hp : st[j].proc ≠ p) : Known p (st.take (j + 1)) f := by
  intro d
  rw [h d, hasB_take st d j hj]
  rcases hs : st[j].same d with _ | _
  · simp
  · have := (Dt.same_iff _ _).1 hs
    subst this
    simp [hp]
open Classical in
theorem Known.put {p : Int} {st : List Dt} {f : Dt → Bool} {j : Nat} (hj : j < st.length) (h : Known p (st.take j) f) (hp : st[j].proc = p) : Known p (st.take (j + 1)) (fun d => if d = st[j] then true else f d) := by
  intro d
  rw [hasB_take st d j hj]
  by_cases e : d = st[j]
  · subst e
    simp [Dt.same_self, hp]
  · simp only [if_neg e]
    rw [h d, Dt.same_ne (fun h => e h.symm)]
    simp

def KRel (w : World) (b p : Int) (st : List Dt) (bm g : Nat) (i : Value) (wr : World) : Prop :=
  ∃ (j n : Nat) (f : Dt → Bool), j ≤ st.length ∧ i = .int .i64 j ∧ g = st.length - j ∧ DMap wr bm n f ∧ n ≤ j ∧ Known p (st.take j) f ∧ Ext w wr
def SRel (w : World) (p : Int) (st : List Dt) (ck : List Int) (b1 b2 g : Nat) (i : Value) (wr : World) : Prop :=
  ∃ (j n n1 : Nat) (f : Dt → Bool) (f2 : Int → Bool), j ≤ ck.length ∧ i = .int .i64 j ∧ g = ck.length - j ∧ DMap wr b1 n1 f ∧ Known p st f ∧ BMap wr b2 n f2 ∧ n ≤ j ∧ (∀ k, f2 k = ckB (ck.take j) k) ∧ Ext w wr
def GRel (w : World) (ck : List Int) (st L : List Dt) (f : Dt → Bool) (f2 : Int → Bool) (b1 b2 base bL g : Nat) (vL v gd i : Value) (wr : World) : Prop :=
  ∃ (j n1 n2 : Nat), j ≤ L.length ∧ i = .int .i64 j ∧ g = L.length - j ∧ gd = .bool (goodAt ck st L j) ∧ wr.ownsRow base 3 1 v (restTo ck st L (j + 1)).length ((restTo ck st L (j + 1)).flatMap Iv) ∧ DMap wr b1 n1 f ∧ BMap wr b2 n2 f2 ∧ wr.ownsRow bL 39 9 vL L.length (L.flatMap Dt.cells) ∧ Ext w wr


set_option maxHeartbeats 3200000 in
theorem rest_sl (Ae Ac As : Option Addr) (ce cc cs : Nat) (p : Int) (es : List Ev) (ck : List Int) (st : List Dt) (w : World) (he : EvSeg w Ae es) (hc : IntSeg w Ac ck) (hst : DtSeg w As st)
    (hp : InI64 p) (hoke : ∀ e ∈ es, e.ok) (hokc : ∀ c ∈ ck, InI64 c) (hoks : ∀ d ∈ st, d.ok) (hn1 : es.length ≤ 1000) (hn2 : ck.length ≤ 1000) (hn3 : st.length ≤ 1000) :
    Calls Try.prog 18 #[.int .i64 p, .slice Ae es.length ce, .slice Ac ck.length cc, .slice As st.length cs] w (RowPost w 3 1 (restV p es ck st).length ((restV p es ck st).flatMap Iv)) := by
  have hmm := @run_makeMap Try.prog
  have HE := Lib.hid hoke
  have HCk := Lib.hid hokc
  have HS := Lib.hid hoks
  clear hoke hokc hoks
  go_enter Try.func18, Try.ntmps18
  go_wp2_with fail
  have hM0 := DMap.made w
  have hX0 := (Ext.refl w).allocs (.map #[] 0)
  go_loopg [22] st.length (fun g i wr => KRel w 0 p st w.heap.size g i wr)
  case atStart => exact ⟨0, 0, _, Nat.zero_le _, rfl, rfl, hM0, Nat.le_refl _, fun d => rfl, hX0⟩
  case round =>
    clear hM0 hX0
    obtain ⟨j, n, f, hj, rfl, rfl, hM, hnj, hKn, hX⟩ := hrel
    by_cases hlt : j < st.length
    · obtain ⟨b, off, rfl, p0, p1, p2, p3, p4, p5, p6, p7, p8⟩ := Dt.at_ (hst.ext hX) hlt
      have hok := HS.out st[j] (List.getElem_mem hlt)
      by_cases hpj : st[j].proc = p
      · have hpj' : (st[j].proc == p) = true := by simp [hpj]
        have HK := Lib.hid (Known.put hlt hKn hpj)
        have hMx := hM.ext ((Ext.refl wr).allocs (.cells st[j].cells.toArray 39))
        obtain ⟨w2, hput, hM2, hg2⟩ := hMx.put hok true (by unfold maxLen; omega)
        have hX2 : Ext w w2 := Below.grown (hX.allocs _) hg2 (hX.allocs (.cells st[j].cells.toArray 39)).size (by intro q hq; injection hq; omega)
        unfold Dt.val Dt.cells at hput
        generalize st[j] = x at *
        clear hpj hKn hMx hg2
        go_wp2_with fail
        go_roundg (st.length - (j + 1))
        case measure => omega
        case rel => exact ⟨j + 1, n + 1, _, by omega, by go_num, rfl, hM2, by omega, HK.out, hX2⟩
      · have hpj' : (st[j].proc == p) = false := by simp [hpj]
        have HK := Lib.hid (Known.step hlt hKn hpj)
        generalize st[j] = x at *
        clear hpj hKn
        go_wp2_with fail
        go_roundg (st.length - (j + 1))
        case measure => omega
        case rel => exact ⟨j + 1, n, f, by omega, by go_num, rfl, hM.ext ((Ext.refl wr).allocs _), by omega, HK.out, hX.allocs _⟩
    · obtain rfl : j = st.length := by omega
      rw [List.take_of_length_le (Nat.le_refl _)] at hKn
      have hMz := hM.lt
      have hM1 := hM.ext ((Ext.refl wr).allocs (.map #[] 0))
      have hB1 := BMap.made wr
      have hX1 := hX.allocs (.map #[] 0)
      clear hM hX
      obtain ⟨wo, rfl⟩ : ∃ wo : World, wo = wr := ⟨_, rfl⟩
      go_wp2_with fail
      go_loopg [36] ck.length (fun g i wr => SRel w p st ck w.heap.size wo.heap.size g i wr)
      case atStart => exact ⟨0, 0, n, f, _, Nat.zero_le _, rfl, rfl, hM1, hKn, hB1, Nat.le_refl _, fun k => rfl, hX1⟩
      case round =>
        clear hM1 hB1 hX1 hKn hnj
        obtain ⟨j, n, n1, f, f2, hj, rfl, rfl, hM, hKn, hB, hnj, hf2, hX⟩ := hrel
        have HF2 := Lib.hid hf2
        have HKn := Lib.hid hKn
        clear hf2 hKn
        by_cases hlt : j < ck.length
        · obtain ⟨b, off, rfl, p0⟩ := Iv.at_ (hc.ext hX) hlt
          have hok := HCk.out ck[j] (List.getElem_mem hlt)
          have HT := Lib.hid (fun k => ckB_take ck k j hlt)
          obtain ⟨w2, hput, hB2, hg2⟩ := hB.put hok true (by unfold maxLen; omega)
          have hX2 : Ext w w2 := Below.grown hX hg2 hX.size (by intro q hq; injection hq; omega)
          have hM2 := hM.kept hg2 (by intro e; injection e; omega)
          have p0' := mul_one_cell p0
          generalize ck[j] = x at *
          clear hg2 hB hM
          go_wp2_with fail
          go_roundg (ck.length - (j + 1))
          case measure => omega
          case rel =>
            refine ⟨j + 1, n + 1, n1, f, _, by omega, by go_num, rfl, hM2, HKn.out, hB2, by omega, fun k => ?_, hX2⟩
            rw [HT.out k, ← HF2.out k]
            by_cases e : k = x
            · simp [e]
            · have : (x == k) = false := by simp; omega
              simp [e, this]
        · obtain rfl : j = ck.length := by omega
          have hf2 : ∀ k, f2 k = ckB ck k := by intro k; have := HF2.out k; rw [List.take_of_length_le (Nat.le_refl _)] at this; exact this
          clear HF2
          have HF2 := Lib.hid hf2
          clear hf2
          have HG0 : Hid (goodAt ck st (linV p es) 0 = f2 0) := (HF2.out 0).symm
          have hl0 := hB.look (k := 0) ⟨by omega, by omega⟩
          have hzb := hB.lt
          have hLl : (linV p es).length = es.length := lin_len p es 0
          rcases hg0 : f2 0 with _ | _
          all_goals
            rw [hg0] at hl0 HG0
            clear hg0
          · have HR : Hid (restTo ck st (linV p es) 1 = []) := by show restTo ck st (linV p es) (0 + 1) = []; rw [restTo, HG0.out]; rfl
            go_wp2_with fail
            refine (lineage_sl Ae ce p es _ (he.ext hX) (by omega)).mono ?_
            rintro e w3 ⟨v3, rfl, hown3, hE3⟩
            have hM3 := hM.ext hE3
            have hB3 := hB.ext hE3
            have hX3 := hX.trans hE3
            obtain ⟨A3, c3, rfl, hsl3, hc31, hc32⟩ := own_slice hown3
            unfold maxLen at hc32
            generalize hL : linV p es = L at *
            have HL := Lib.hid hL
            clear hL hM hB hE3 hl0
            obtain ⟨wl, rfl⟩ : ∃ wl : World, wl = w3 := ⟨_, rfl⟩
            have hownN : wl.ownsRow wl.heap.size 3 1 (.slice none 0 0) (restTo ck st L (0 + 1)).length ((restTo ck st L (0 + 1)).flatMap Iv) := by rw [Nat.zero_add, HR.out]; exact own_nil _ _ _ _ _
            obtain ⟨base, hbase⟩ : ∃ base, wl.heap.size = base := ⟨_, rfl⟩
            rw [hbase] at hownN
            have hb1 : wo.heap.size < base := by have := hB3.lt; omega
            have hb0 : w.heap.size < base := by have := hM3.lt; omega
            have hbl : base ≤ wl.heap.size := by omega
            clear hbase
            obtain ⟨bL, hbL⟩ : ∃ bL, wl.ownsRow bL 39 9 (.slice A3 L.length c3) L.length (L.flatMap Dt.cells) := ⟨_, hown3⟩
            clear hown3
            go_wp2_with fail
            go_loopg [15, 16, 53] L.length (fun g v gd i wr => GRel w ck st L f f2 w.heap.size wo.heap.size base bL g (.slice A3 L.length c3) v gd i wr ∧ base ≤ wr.heap.size)
            case atStart => exact ⟨⟨0, n1, n, Nat.zero_le _, rfl, rfl, by rw [HG0.out], hownN, hM3, hB3, hbL, hX3⟩, hbl⟩
            case round =>
              clear hM3 hB3 hX3 hownN HG0 HR hbL hsl3
              obtain ⟨⟨j, m1, m2, hj, rfl, rfl, rfl, hown, hM, hB, hrowL, hX⟩, hzw⟩ := hrel
              by_cases hlt : j < L.length
              · have hje : j < es.length := by omega
                have hok0 := HE.out es[j] (List.getElem_mem hje)
                have hLj : L[j]? = some ⟨p, (j : Int) + 1, es[j]⟩ := by
                  have h1 := linV_get p es 0 j hje
                  have h2 : linFrom p es 0 = L := HL.out
                  rw [h2] at h1
                  rw [h1]
                  congr 3
                  omega
                have hLj' : L[j] = ⟨p, (j : Int) + 1, es[j]⟩ := by rw [List.getElem?_eq_getElem hlt] at hLj; injection hLj
                have hS := good_succ ck st L j _ hLj
                obtain ⟨b, off, rfl, p0, p1, p2, p3, p4, p5, p6, p7, p8⟩ := Dt.at_ (Seg.of_own hrowL) hlt
                rw [hLj'] at p0 p1 p2 p3 p4 p5 p6 p7 p8
                obtain ⟨x, hx⟩ : ∃ x, es[j] = x := ⟨_, rfl⟩
                rw [hx] at p0 p1 p2 p3 p4 p5 p6 p7 p8 hok0 hS
                clear hx hLj hLj'
                have hlk1 := fun o => (hB.ext ((Ext.refl wr).allocs o)).look (k := (j : Int) + 1) ⟨by omega, by omega⟩
                have hlk2 := fun o => (hM.ext ((Ext.refl wr).allocs o)).look (d := ⟨p, (j : Int) + 1, x⟩) ⟨hp, (show InI64 ((j : Int) + 1) from ⟨by omega, by omega⟩), hok0⟩
                rw [HKn.out ⟨p, (j : Int) + 1, x⟩] at hlk2
                simp only [BEq.rfl, Bool.and_true] at hlk2
                rw [HF2.out] at hlk1
                generalize hasB st ⟨p, (j : Int) + 1, x⟩ = hv at hlk2 hS
                generalize ckB ck ((j : Int) + 1) = av at hlk1 hS
                have HSg := Lib.hid hS
                clear hS
                have HGJ : Hid (True) := trivial
                rcases hgj : goodAt ck st L j with _ | _ <;> rcases av with _ | _ <;> rcases hv with _ | _
                · have HG : Hid (goodAt ck st L (j + 1) = false) := by unfold Hid; rw [HSg.out, hgj]; rfl
                  clear hlk2
                  clear hgj
                  have HR : Hid (restTo ck st L (j + 1 + 1) = restTo ck st L (j + 1)) := by unfold Hid; rw [restTo, HG.out, if_neg (by simp)]
                  go_wp2_with fail
                  go_roundg (L.length - (j + 1))
                  case measure => omega
                  case rel => exact ⟨⟨j + 1, m1, m2, by omega, by go_num, rfl, by rw [HG.out], by rw [HR.out]; exact hown.alloc _, hM.ext ((Ext.refl wr).allocs _), hB.ext ((Ext.refl wr).allocs _), hrowL.alloc _, hX.allocs _⟩, by simp; omega⟩
                · have HG : Hid (goodAt ck st L (j + 1) = false) := by unfold Hid; rw [HSg.out, hgj]; rfl
                  clear hlk2
                  clear hgj
                  have HR : Hid (restTo ck st L (j + 1 + 1) = restTo ck st L (j + 1)) := by unfold Hid; rw [restTo, HG.out, if_neg (by simp)]
                  go_wp2_with fail
                  go_roundg (L.length - (j + 1))
                  case measure => omega
                  case rel => exact ⟨⟨j + 1, m1, m2, by omega, by go_num, rfl, by rw [HG.out], by rw [HR.out]; exact hown.alloc _, hM.ext ((Ext.refl wr).allocs _), hB.ext ((Ext.refl wr).allocs _), hrowL.alloc _, hX.allocs _⟩, by simp; omega⟩
                · have HG : Hid (goodAt ck st L (j + 1) = true) := by unfold Hid; rw [HSg.out, hgj]; rfl
                  clear hlk2
                  clear hgj
                  have HR : Hid (restTo ck st L (j + 1 + 1) = restTo ck st L (j + 1) ++ [(j : Int) + 1]) := by unfold Hid; rw [restTo, HG.out, if_pos rfl]; congr 2
                  have hRl := restTo_len ck st L (j + 1)
                  generalize restTo ck st L (j + 1) = R at *
                  go_wp2_with (at_builtin; refine wpList_push_at Iv 1 8 Iv.len Iv.one (by omega) rfl _ _ _ rfl base 3 Try.underlying23 (by kernel_rfl) u15 R ((j : Int) + 1) (wr.heap.size + 1) rfl (hown.alloc _) rfl (by first | rfl | simp) (by unfold maxLen; omega) (by omega) (by simp; omega) ?_; intro v7 w7 hown7 hg7)
                  have hlt7 : ∀ r, u15.ownBlock = some r → base ≤ r := fun r hr => (hown.lt r hr).1
                  have hMx := (hM.ext ((Ext.refl wr).allocs (.cells #[.int .i64 p, .int .i64 ((j : Int) + 1), .int .i64 x.kind, .int .i64 x.inc, .int .i64 x.frm, .int .i64 x.sinc, .int .i64 x.sidx, .int .i64 x.ord, .int .i64 x.val] 39))).kept hg7 (by intro e; have := hlt7 _ e.symm; omega)
                  have hBx := (hB.ext ((Ext.refl wr).allocs (.cells #[.int .i64 p, .int .i64 ((j : Int) + 1), .int .i64 x.kind, .int .i64 x.inc, .int .i64 x.frm, .int .i64 x.sinc, .int .i64 x.sidx, .int .i64 x.ord, .int .i64 x.val] 39))).kept hg7 (by intro e; have := hlt7 _ e.symm; omega)
                  have hX7 : Ext w w7 := Ext.own (hX.allocs _) (hown.alloc (.cells #[.int .i64 p, .int .i64 ((j : Int) + 1), .int .i64 x.kind, .int .i64 x.inc, .int .i64 x.frm, .int .i64 x.sinc, .int .i64 x.sidx, .int .i64 x.ord, .int .i64 x.val] 39)) (by omega) hg7
                  have hL7 := (hrowL.alloc (.cells #[.int .i64 p, .int .i64 ((j : Int) + 1), .int .i64 x.kind, .int .i64 x.inc, .int .i64 x.frm, .int .i64 x.sinc, .int .i64 x.sidx, .int .i64 x.ord, .int .i64 x.val] 39)).kept hg7 (own_ne hrowL hown (by decide))
                  go_roundg (L.length - (j + 1))
                  case measure => omega
                  case rel => exact ⟨⟨j + 1, m1, m2, by omega, by go_num, rfl, by rw [HG.out], by rw [HR.out]; exact hown7, hMx, hBx, hL7, hX7⟩, by have := hg7.size; simp at this; omega⟩
                · have HG : Hid (goodAt ck st L (j + 1) = true) := by unfold Hid; rw [HSg.out, hgj]; rfl
                  clear hlk2
                  clear hgj
                  have HR : Hid (restTo ck st L (j + 1 + 1) = restTo ck st L (j + 1) ++ [(j : Int) + 1]) := by unfold Hid; rw [restTo, HG.out, if_pos rfl]; congr 2
                  have hRl := restTo_len ck st L (j + 1)
                  generalize restTo ck st L (j + 1) = R at *
                  go_wp2_with (at_builtin; refine wpList_push_at Iv 1 8 Iv.len Iv.one (by omega) rfl _ _ _ rfl base 3 Try.underlying23 (by kernel_rfl) u15 R ((j : Int) + 1) (wr.heap.size + 1) rfl (hown.alloc _) rfl (by first | rfl | simp) (by unfold maxLen; omega) (by omega) (by simp; omega) ?_; intro v7 w7 hown7 hg7)
                  have hlt7 : ∀ r, u15.ownBlock = some r → base ≤ r := fun r hr => (hown.lt r hr).1
                  have hMx := (hM.ext ((Ext.refl wr).allocs (.cells #[.int .i64 p, .int .i64 ((j : Int) + 1), .int .i64 x.kind, .int .i64 x.inc, .int .i64 x.frm, .int .i64 x.sinc, .int .i64 x.sidx, .int .i64 x.ord, .int .i64 x.val] 39))).kept hg7 (by intro e; have := hlt7 _ e.symm; omega)
                  have hBx := (hB.ext ((Ext.refl wr).allocs (.cells #[.int .i64 p, .int .i64 ((j : Int) + 1), .int .i64 x.kind, .int .i64 x.inc, .int .i64 x.frm, .int .i64 x.sinc, .int .i64 x.sidx, .int .i64 x.ord, .int .i64 x.val] 39))).kept hg7 (by intro e; have := hlt7 _ e.symm; omega)
                  have hX7 : Ext w w7 := Ext.own (hX.allocs _) (hown.alloc (.cells #[.int .i64 p, .int .i64 ((j : Int) + 1), .int .i64 x.kind, .int .i64 x.inc, .int .i64 x.frm, .int .i64 x.sinc, .int .i64 x.sidx, .int .i64 x.ord, .int .i64 x.val] 39)) (by omega) hg7
                  have hL7 := (hrowL.alloc (.cells #[.int .i64 p, .int .i64 ((j : Int) + 1), .int .i64 x.kind, .int .i64 x.inc, .int .i64 x.frm, .int .i64 x.sinc, .int .i64 x.sidx, .int .i64 x.ord, .int .i64 x.val] 39)).kept hg7 (own_ne hrowL hown (by decide))
                  go_roundg (L.length - (j + 1))
                  case measure => omega
                  case rel => exact ⟨⟨j + 1, m1, m2, by omega, by go_num, rfl, by rw [HG.out], by rw [HR.out]; exact hown7, hMx, hBx, hL7, hX7⟩, by have := hg7.size; simp at this; omega⟩
                · have HG : Hid (goodAt ck st L (j + 1) = false) := by unfold Hid; rw [HSg.out, hgj]; rfl
                  clear hgj
                  have HR : Hid (restTo ck st L (j + 1 + 1) = restTo ck st L (j + 1)) := by unfold Hid; rw [restTo, HG.out, if_neg (by simp)]
                  go_wp2_with fail
                  go_roundg (L.length - (j + 1))
                  case measure => omega
                  case rel => exact ⟨⟨j + 1, m1, m2, by omega, by go_num, rfl, by rw [HG.out], by rw [HR.out]; exact hown.alloc _, hM.ext ((Ext.refl wr).allocs _), hB.ext ((Ext.refl wr).allocs _), hrowL.alloc _, hX.allocs _⟩, by simp; omega⟩
                · have HG : Hid (goodAt ck st L (j + 1) = true) := by unfold Hid; rw [HSg.out, hgj]; rfl
                  clear hgj
                  have HR : Hid (restTo ck st L (j + 1 + 1) = restTo ck st L (j + 1) ++ [(j : Int) + 1]) := by unfold Hid; rw [restTo, HG.out, if_pos rfl]; congr 2
                  have hRl := restTo_len ck st L (j + 1)
                  generalize restTo ck st L (j + 1) = R at *
                  go_wp2_with (at_builtin; refine wpList_push_at Iv 1 8 Iv.len Iv.one (by omega) rfl _ _ _ rfl base 3 Try.underlying23 (by kernel_rfl) u15 R ((j : Int) + 1) (wr.heap.size + 1) rfl (hown.alloc _) rfl (by first | rfl | simp) (by unfold maxLen; omega) (by omega) (by simp; omega) ?_; intro v7 w7 hown7 hg7)
                  have hlt7 : ∀ r, u15.ownBlock = some r → base ≤ r := fun r hr => (hown.lt r hr).1
                  have hMx := (hM.ext ((Ext.refl wr).allocs (.cells #[.int .i64 p, .int .i64 ((j : Int) + 1), .int .i64 x.kind, .int .i64 x.inc, .int .i64 x.frm, .int .i64 x.sinc, .int .i64 x.sidx, .int .i64 x.ord, .int .i64 x.val] 39))).kept hg7 (by intro e; have := hlt7 _ e.symm; omega)
                  have hBx := (hB.ext ((Ext.refl wr).allocs (.cells #[.int .i64 p, .int .i64 ((j : Int) + 1), .int .i64 x.kind, .int .i64 x.inc, .int .i64 x.frm, .int .i64 x.sinc, .int .i64 x.sidx, .int .i64 x.ord, .int .i64 x.val] 39))).kept hg7 (by intro e; have := hlt7 _ e.symm; omega)
                  have hX7 : Ext w w7 := Ext.own (hX.allocs _) (hown.alloc (.cells #[.int .i64 p, .int .i64 ((j : Int) + 1), .int .i64 x.kind, .int .i64 x.inc, .int .i64 x.frm, .int .i64 x.sinc, .int .i64 x.sidx, .int .i64 x.ord, .int .i64 x.val] 39)) (by omega) hg7
                  have hL7 := (hrowL.alloc (.cells #[.int .i64 p, .int .i64 ((j : Int) + 1), .int .i64 x.kind, .int .i64 x.inc, .int .i64 x.frm, .int .i64 x.sinc, .int .i64 x.sidx, .int .i64 x.ord, .int .i64 x.val] 39)).kept hg7 (own_ne hrowL hown (by decide))
                  go_roundg (L.length - (j + 1))
                  case measure => omega
                  case rel => exact ⟨⟨j + 1, m1, m2, by omega, by go_num, rfl, by rw [HG.out], by rw [HR.out]; exact hown7, hMx, hBx, hL7, hX7⟩, by have := hg7.size; simp at this; omega⟩
                · have HG : Hid (goodAt ck st L (j + 1) = true) := by unfold Hid; rw [HSg.out, hgj]; rfl
                  clear hlk2
                  clear hgj
                  have HR : Hid (restTo ck st L (j + 1 + 1) = restTo ck st L (j + 1) ++ [(j : Int) + 1]) := by unfold Hid; rw [restTo, HG.out, if_pos rfl]; congr 2
                  have hRl := restTo_len ck st L (j + 1)
                  generalize restTo ck st L (j + 1) = R at *
                  go_wp2_with (at_builtin; refine wpList_push_at Iv 1 8 Iv.len Iv.one (by omega) rfl _ _ _ rfl base 3 Try.underlying23 (by kernel_rfl) u15 R ((j : Int) + 1) (wr.heap.size + 1) rfl (hown.alloc _) rfl (by first | rfl | simp) (by unfold maxLen; omega) (by omega) (by simp; omega) ?_; intro v7 w7 hown7 hg7)
                  have hlt7 : ∀ r, u15.ownBlock = some r → base ≤ r := fun r hr => (hown.lt r hr).1
                  have hMx := (hM.ext ((Ext.refl wr).allocs (.cells #[.int .i64 p, .int .i64 ((j : Int) + 1), .int .i64 x.kind, .int .i64 x.inc, .int .i64 x.frm, .int .i64 x.sinc, .int .i64 x.sidx, .int .i64 x.ord, .int .i64 x.val] 39))).kept hg7 (by intro e; have := hlt7 _ e.symm; omega)
                  have hBx := (hB.ext ((Ext.refl wr).allocs (.cells #[.int .i64 p, .int .i64 ((j : Int) + 1), .int .i64 x.kind, .int .i64 x.inc, .int .i64 x.frm, .int .i64 x.sinc, .int .i64 x.sidx, .int .i64 x.ord, .int .i64 x.val] 39))).kept hg7 (by intro e; have := hlt7 _ e.symm; omega)
                  have hX7 : Ext w w7 := Ext.own (hX.allocs _) (hown.alloc (.cells #[.int .i64 p, .int .i64 ((j : Int) + 1), .int .i64 x.kind, .int .i64 x.inc, .int .i64 x.frm, .int .i64 x.sinc, .int .i64 x.sidx, .int .i64 x.ord, .int .i64 x.val] 39)) (by omega) hg7
                  have hL7 := (hrowL.alloc (.cells #[.int .i64 p, .int .i64 ((j : Int) + 1), .int .i64 x.kind, .int .i64 x.inc, .int .i64 x.frm, .int .i64 x.sinc, .int .i64 x.sidx, .int .i64 x.ord, .int .i64 x.val] 39)).kept hg7 (own_ne hrowL hown (by decide))
                  go_roundg (L.length - (j + 1))
                  case measure => omega
                  case rel => exact ⟨⟨j + 1, m1, m2, by omega, by go_num, rfl, by rw [HG.out], by rw [HR.out]; exact hown7, hMx, hBx, hL7, hX7⟩, by have := hg7.size; simp at this; omega⟩
                · have HG : Hid (goodAt ck st L (j + 1) = true) := by unfold Hid; rw [HSg.out, hgj]; rfl
                  clear hlk2
                  clear hgj
                  have HR : Hid (restTo ck st L (j + 1 + 1) = restTo ck st L (j + 1) ++ [(j : Int) + 1]) := by unfold Hid; rw [restTo, HG.out, if_pos rfl]; congr 2
                  have hRl := restTo_len ck st L (j + 1)
                  generalize restTo ck st L (j + 1) = R at *
                  go_wp2_with (at_builtin; refine wpList_push_at Iv 1 8 Iv.len Iv.one (by omega) rfl _ _ _ rfl base 3 Try.underlying23 (by kernel_rfl) u15 R ((j : Int) + 1) (wr.heap.size + 1) rfl (hown.alloc _) rfl (by first | rfl | simp) (by unfold maxLen; omega) (by omega) (by simp; omega) ?_; intro v7 w7 hown7 hg7)
                  have hlt7 : ∀ r, u15.ownBlock = some r → base ≤ r := fun r hr => (hown.lt r hr).1
                  have hMx := (hM.ext ((Ext.refl wr).allocs (.cells #[.int .i64 p, .int .i64 ((j : Int) + 1), .int .i64 x.kind, .int .i64 x.inc, .int .i64 x.frm, .int .i64 x.sinc, .int .i64 x.sidx, .int .i64 x.ord, .int .i64 x.val] 39))).kept hg7 (by intro e; have := hlt7 _ e.symm; omega)
                  have hBx := (hB.ext ((Ext.refl wr).allocs (.cells #[.int .i64 p, .int .i64 ((j : Int) + 1), .int .i64 x.kind, .int .i64 x.inc, .int .i64 x.frm, .int .i64 x.sinc, .int .i64 x.sidx, .int .i64 x.ord, .int .i64 x.val] 39))).kept hg7 (by intro e; have := hlt7 _ e.symm; omega)
                  have hX7 : Ext w w7 := Ext.own (hX.allocs _) (hown.alloc (.cells #[.int .i64 p, .int .i64 ((j : Int) + 1), .int .i64 x.kind, .int .i64 x.inc, .int .i64 x.frm, .int .i64 x.sinc, .int .i64 x.sidx, .int .i64 x.ord, .int .i64 x.val] 39)) (by omega) hg7
                  have hL7 := (hrowL.alloc (.cells #[.int .i64 p, .int .i64 ((j : Int) + 1), .int .i64 x.kind, .int .i64 x.inc, .int .i64 x.frm, .int .i64 x.sinc, .int .i64 x.sidx, .int .i64 x.ord, .int .i64 x.val] 39)).kept hg7 (own_ne hrowL hown (by decide))
                  go_roundg (L.length - (j + 1))
                  case measure => omega
                  case rel => exact ⟨⟨j + 1, m1, m2, by omega, by go_num, rfl, by rw [HG.out], by rw [HR.out]; exact hown7, hMx, hBx, hL7, hX7⟩, by have := hg7.size; simp at this; omega⟩
              · obtain rfl : j = L.length := by omega
                go_wp2_with fail
                go_ret
                refine ⟨_, rfl, ?_, hX⟩
                unfold restV
                rw [HL.out, ← hLl]
                exact own_base hown (by omega)
          · have HR : Hid (restTo ck st (linV p es) 1 = [0]) := by show restTo ck st (linV p es) (0 + 1) = [0]; rw [restTo, HG0.out]; rfl
            go_wp2_with (at_builtin; refine wpList_push_at Iv 1 8 Iv.len Iv.one (by omega) rfl _ _ _ rfl wr.heap.size 3 Try.underlying23 (by kernel_rfl) (.slice none 0 0) [] 0 wr.heap.size rfl (own_nil _ _ _ _ _) rfl (by first | rfl | simp) (by unfold maxLen; simp) (by simp) (Nat.le_refl _) ?_; intro v9 w9 hown9 hg9)
            have hE9 : Ext wr w9 := Ext.of_grown rfl hg9
            refine (lineage_sl Ae ce p es _ (he.ext (hX.trans hE9)) (by omega)).mono ?_
            rintro e w3 ⟨v3, rfl, hown3, hE3⟩
            have hM3 := (hM.ext hE9).ext hE3
            have hB3 := (hB.ext hE9).ext hE3
            have hX3 := (hX.trans hE9).trans hE3
            have hzz := hE9.size
            have hzz2 := hE3.size
            have hown9' := own_ext hown9 hE3
            obtain ⟨A3, c3, rfl, hsl3, hc31, hc32⟩ := own_slice hown3
            unfold maxLen at hc32
            generalize hL : linV p es = L at *
            have HL := Lib.hid hL
            clear hL hM hB hE3 hl0 hE9 hg9
            obtain ⟨wl, rfl⟩ : ∃ wl : World, wl = w3 := ⟨_, rfl⟩
            have hownN : wl.ownsRow wr.heap.size 3 1 v9 (restTo ck st L (0 + 1)).length ((restTo ck st L (0 + 1)).flatMap Iv) := by rw [Nat.zero_add, HR.out]; exact hown9'
            obtain ⟨base, hbase⟩ : ∃ base, wr.heap.size = base := ⟨_, rfl⟩
            rw [hbase] at hownN
            have hb1 : wo.heap.size < base := by have := hB3.lt; omega
            have hb0 : w.heap.size < base := by have := hM3.lt; omega
            have hbl : base ≤ wl.heap.size := by omega
            clear hbase
            obtain ⟨bL, hbL⟩ : ∃ bL, wl.ownsRow bL 39 9 (.slice A3 L.length c3) L.length (L.flatMap Dt.cells) := ⟨_, hown3⟩
            clear hown3
            go_wp2_with fail
            go_loopg [15, 16, 53] L.length (fun g v gd i wr => GRel w ck st L f f2 w.heap.size wo.heap.size base bL g (.slice A3 L.length c3) v gd i wr ∧ base ≤ wr.heap.size)
            case atStart => exact ⟨⟨0, n1, n, Nat.zero_le _, rfl, rfl, by rw [HG0.out], hownN, hM3, hB3, hbL, hX3⟩, hbl⟩
            case round =>
              clear hM3 hB3 hX3 hownN HG0 HR hbL hsl3
              obtain ⟨⟨j, m1, m2, hj, rfl, rfl, rfl, hown, hM, hB, hrowL, hX⟩, hzw⟩ := hrel
              by_cases hlt : j < L.length
              · have hje : j < es.length := by omega
                have hok0 := HE.out es[j] (List.getElem_mem hje)
                have hLj : L[j]? = some ⟨p, (j : Int) + 1, es[j]⟩ := by
                  have h1 := linV_get p es 0 j hje
                  have h2 : linFrom p es 0 = L := HL.out
                  rw [h2] at h1
                  rw [h1]
                  congr 3
                  omega
                have hLj' : L[j] = ⟨p, (j : Int) + 1, es[j]⟩ := by rw [List.getElem?_eq_getElem hlt] at hLj; injection hLj
                have hS := good_succ ck st L j _ hLj
                obtain ⟨b, off, rfl, p0, p1, p2, p3, p4, p5, p6, p7, p8⟩ := Dt.at_ (Seg.of_own hrowL) hlt
                rw [hLj'] at p0 p1 p2 p3 p4 p5 p6 p7 p8
                obtain ⟨x, hx⟩ : ∃ x, es[j] = x := ⟨_, rfl⟩
                rw [hx] at p0 p1 p2 p3 p4 p5 p6 p7 p8 hok0 hS
                clear hx hLj hLj'
                have hlk1 := fun o => (hB.ext ((Ext.refl wr).allocs o)).look (k := (j : Int) + 1) ⟨by omega, by omega⟩
                have hlk2 := fun o => (hM.ext ((Ext.refl wr).allocs o)).look (d := ⟨p, (j : Int) + 1, x⟩) ⟨hp, (show InI64 ((j : Int) + 1) from ⟨by omega, by omega⟩), hok0⟩
                rw [HKn.out ⟨p, (j : Int) + 1, x⟩] at hlk2
                simp only [BEq.rfl, Bool.and_true] at hlk2
                rw [HF2.out] at hlk1
                generalize hasB st ⟨p, (j : Int) + 1, x⟩ = hv at hlk2 hS
                generalize ckB ck ((j : Int) + 1) = av at hlk1 hS
                have HSg := Lib.hid hS
                clear hS
                have HGJ : Hid (True) := trivial
                rcases hgj : goodAt ck st L j with _ | _ <;> rcases av with _ | _ <;> rcases hv with _ | _
                · have HG : Hid (goodAt ck st L (j + 1) = false) := by unfold Hid; rw [HSg.out, hgj]; rfl
                  clear hlk2
                  clear hgj
                  have HR : Hid (restTo ck st L (j + 1 + 1) = restTo ck st L (j + 1)) := by unfold Hid; rw [restTo, HG.out, if_neg (by simp)]
                  go_wp2_with fail
                  go_roundg (L.length - (j + 1))
                  case measure => omega
                  case rel => exact ⟨⟨j + 1, m1, m2, by omega, by go_num, rfl, by rw [HG.out], by rw [HR.out]; exact hown.alloc _, hM.ext ((Ext.refl wr).allocs _), hB.ext ((Ext.refl wr).allocs _), hrowL.alloc _, hX.allocs _⟩, by simp; omega⟩
                · have HG : Hid (goodAt ck st L (j + 1) = false) := by unfold Hid; rw [HSg.out, hgj]; rfl
                  clear hlk2
                  clear hgj
                  have HR : Hid (restTo ck st L (j + 1 + 1) = restTo ck st L (j + 1)) := by unfold Hid; rw [restTo, HG.out, if_neg (by simp)]
                  go_wp2_with fail
                  go_roundg (L.length - (j + 1))
                  case measure => omega
                  case rel => exact ⟨⟨j + 1, m1, m2, by omega, by go_num, rfl, by rw [HG.out], by rw [HR.out]; exact hown.alloc _, hM.ext ((Ext.refl wr).allocs _), hB.ext ((Ext.refl wr).allocs _), hrowL.alloc _, hX.allocs _⟩, by simp; omega⟩
                · have HG : Hid (goodAt ck st L (j + 1) = true) := by unfold Hid; rw [HSg.out, hgj]; rfl
                  clear hlk2
                  clear hgj
                  have HR : Hid (restTo ck st L (j + 1 + 1) = restTo ck st L (j + 1) ++ [(j : Int) + 1]) := by unfold Hid; rw [restTo, HG.out, if_pos rfl]; congr 2
                  have hRl := restTo_len ck st L (j + 1)
                  generalize restTo ck st L (j + 1) = R at *
                  go_wp2_with (at_builtin; refine wpList_push_at Iv 1 8 Iv.len Iv.one (by omega) rfl _ _ _ rfl base 3 Try.underlying23 (by kernel_rfl) u15 R ((j : Int) + 1) (wr.heap.size + 1) rfl (hown.alloc _) rfl (by first | rfl | simp) (by unfold maxLen; omega) (by omega) (by simp; omega) ?_; intro v7 w7 hown7 hg7)
                  have hlt7 : ∀ r, u15.ownBlock = some r → base ≤ r := fun r hr => (hown.lt r hr).1
                  have hMx := (hM.ext ((Ext.refl wr).allocs (.cells #[.int .i64 p, .int .i64 ((j : Int) + 1), .int .i64 x.kind, .int .i64 x.inc, .int .i64 x.frm, .int .i64 x.sinc, .int .i64 x.sidx, .int .i64 x.ord, .int .i64 x.val] 39))).kept hg7 (by intro e; have := hlt7 _ e.symm; omega)
                  have hBx := (hB.ext ((Ext.refl wr).allocs (.cells #[.int .i64 p, .int .i64 ((j : Int) + 1), .int .i64 x.kind, .int .i64 x.inc, .int .i64 x.frm, .int .i64 x.sinc, .int .i64 x.sidx, .int .i64 x.ord, .int .i64 x.val] 39))).kept hg7 (by intro e; have := hlt7 _ e.symm; omega)
                  have hX7 : Ext w w7 := Ext.own (hX.allocs _) (hown.alloc (.cells #[.int .i64 p, .int .i64 ((j : Int) + 1), .int .i64 x.kind, .int .i64 x.inc, .int .i64 x.frm, .int .i64 x.sinc, .int .i64 x.sidx, .int .i64 x.ord, .int .i64 x.val] 39)) (by omega) hg7
                  have hL7 := (hrowL.alloc (.cells #[.int .i64 p, .int .i64 ((j : Int) + 1), .int .i64 x.kind, .int .i64 x.inc, .int .i64 x.frm, .int .i64 x.sinc, .int .i64 x.sidx, .int .i64 x.ord, .int .i64 x.val] 39)).kept hg7 (own_ne hrowL hown (by decide))
                  go_roundg (L.length - (j + 1))
                  case measure => omega
                  case rel => exact ⟨⟨j + 1, m1, m2, by omega, by go_num, rfl, by rw [HG.out], by rw [HR.out]; exact hown7, hMx, hBx, hL7, hX7⟩, by have := hg7.size; simp at this; omega⟩
                · have HG : Hid (goodAt ck st L (j + 1) = true) := by unfold Hid; rw [HSg.out, hgj]; rfl
                  clear hlk2
                  clear hgj
                  have HR : Hid (restTo ck st L (j + 1 + 1) = restTo ck st L (j + 1) ++ [(j : Int) + 1]) := by unfold Hid; rw [restTo, HG.out, if_pos rfl]; congr 2
                  have hRl := restTo_len ck st L (j + 1)
                  generalize restTo ck st L (j + 1) = R at *
                  go_wp2_with (at_builtin; refine wpList_push_at Iv 1 8 Iv.len Iv.one (by omega) rfl _ _ _ rfl base 3 Try.underlying23 (by kernel_rfl) u15 R ((j : Int) + 1) (wr.heap.size + 1) rfl (hown.alloc _) rfl (by first | rfl | simp) (by unfold maxLen; omega) (by omega) (by simp; omega) ?_; intro v7 w7 hown7 hg7)
                  have hlt7 : ∀ r, u15.ownBlock = some r → base ≤ r := fun r hr => (hown.lt r hr).1
                  have hMx := (hM.ext ((Ext.refl wr).allocs (.cells #[.int .i64 p, .int .i64 ((j : Int) + 1), .int .i64 x.kind, .int .i64 x.inc, .int .i64 x.frm, .int .i64 x.sinc, .int .i64 x.sidx, .int .i64 x.ord, .int .i64 x.val] 39))).kept hg7 (by intro e; have := hlt7 _ e.symm; omega)
                  have hBx := (hB.ext ((Ext.refl wr).allocs (.cells #[.int .i64 p, .int .i64 ((j : Int) + 1), .int .i64 x.kind, .int .i64 x.inc, .int .i64 x.frm, .int .i64 x.sinc, .int .i64 x.sidx, .int .i64 x.ord, .int .i64 x.val] 39))).kept hg7 (by intro e; have := hlt7 _ e.symm; omega)
                  have hX7 : Ext w w7 := Ext.own (hX.allocs _) (hown.alloc (.cells #[.int .i64 p, .int .i64 ((j : Int) + 1), .int .i64 x.kind, .int .i64 x.inc, .int .i64 x.frm, .int .i64 x.sinc, .int .i64 x.sidx, .int .i64 x.ord, .int .i64 x.val] 39)) (by omega) hg7
                  have hL7 := (hrowL.alloc (.cells #[.int .i64 p, .int .i64 ((j : Int) + 1), .int .i64 x.kind, .int .i64 x.inc, .int .i64 x.frm, .int .i64 x.sinc, .int .i64 x.sidx, .int .i64 x.ord, .int .i64 x.val] 39)).kept hg7 (own_ne hrowL hown (by decide))
                  go_roundg (L.length - (j + 1))
                  case measure => omega
                  case rel => exact ⟨⟨j + 1, m1, m2, by omega, by go_num, rfl, by rw [HG.out], by rw [HR.out]; exact hown7, hMx, hBx, hL7, hX7⟩, by have := hg7.size; simp at this; omega⟩
                · have HG : Hid (goodAt ck st L (j + 1) = false) := by unfold Hid; rw [HSg.out, hgj]; rfl
                  clear hgj
                  have HR : Hid (restTo ck st L (j + 1 + 1) = restTo ck st L (j + 1)) := by unfold Hid; rw [restTo, HG.out, if_neg (by simp)]
                  go_wp2_with fail
                  go_roundg (L.length - (j + 1))
                  case measure => omega
                  case rel => exact ⟨⟨j + 1, m1, m2, by omega, by go_num, rfl, by rw [HG.out], by rw [HR.out]; exact hown.alloc _, hM.ext ((Ext.refl wr).allocs _), hB.ext ((Ext.refl wr).allocs _), hrowL.alloc _, hX.allocs _⟩, by simp; omega⟩
                · have HG : Hid (goodAt ck st L (j + 1) = true) := by unfold Hid; rw [HSg.out, hgj]; rfl
                  clear hgj
                  have HR : Hid (restTo ck st L (j + 1 + 1) = restTo ck st L (j + 1) ++ [(j : Int) + 1]) := by unfold Hid; rw [restTo, HG.out, if_pos rfl]; congr 2
                  have hRl := restTo_len ck st L (j + 1)
                  generalize restTo ck st L (j + 1) = R at *
                  go_wp2_with (at_builtin; refine wpList_push_at Iv 1 8 Iv.len Iv.one (by omega) rfl _ _ _ rfl base 3 Try.underlying23 (by kernel_rfl) u15 R ((j : Int) + 1) (wr.heap.size + 1) rfl (hown.alloc _) rfl (by first | rfl | simp) (by unfold maxLen; omega) (by omega) (by simp; omega) ?_; intro v7 w7 hown7 hg7)
                  have hlt7 : ∀ r, u15.ownBlock = some r → base ≤ r := fun r hr => (hown.lt r hr).1
                  have hMx := (hM.ext ((Ext.refl wr).allocs (.cells #[.int .i64 p, .int .i64 ((j : Int) + 1), .int .i64 x.kind, .int .i64 x.inc, .int .i64 x.frm, .int .i64 x.sinc, .int .i64 x.sidx, .int .i64 x.ord, .int .i64 x.val] 39))).kept hg7 (by intro e; have := hlt7 _ e.symm; omega)
                  have hBx := (hB.ext ((Ext.refl wr).allocs (.cells #[.int .i64 p, .int .i64 ((j : Int) + 1), .int .i64 x.kind, .int .i64 x.inc, .int .i64 x.frm, .int .i64 x.sinc, .int .i64 x.sidx, .int .i64 x.ord, .int .i64 x.val] 39))).kept hg7 (by intro e; have := hlt7 _ e.symm; omega)
                  have hX7 : Ext w w7 := Ext.own (hX.allocs _) (hown.alloc (.cells #[.int .i64 p, .int .i64 ((j : Int) + 1), .int .i64 x.kind, .int .i64 x.inc, .int .i64 x.frm, .int .i64 x.sinc, .int .i64 x.sidx, .int .i64 x.ord, .int .i64 x.val] 39)) (by omega) hg7
                  have hL7 := (hrowL.alloc (.cells #[.int .i64 p, .int .i64 ((j : Int) + 1), .int .i64 x.kind, .int .i64 x.inc, .int .i64 x.frm, .int .i64 x.sinc, .int .i64 x.sidx, .int .i64 x.ord, .int .i64 x.val] 39)).kept hg7 (own_ne hrowL hown (by decide))
                  go_roundg (L.length - (j + 1))
                  case measure => omega
                  case rel => exact ⟨⟨j + 1, m1, m2, by omega, by go_num, rfl, by rw [HG.out], by rw [HR.out]; exact hown7, hMx, hBx, hL7, hX7⟩, by have := hg7.size; simp at this; omega⟩
                · have HG : Hid (goodAt ck st L (j + 1) = true) := by unfold Hid; rw [HSg.out, hgj]; rfl
                  clear hlk2
                  clear hgj
                  have HR : Hid (restTo ck st L (j + 1 + 1) = restTo ck st L (j + 1) ++ [(j : Int) + 1]) := by unfold Hid; rw [restTo, HG.out, if_pos rfl]; congr 2
                  have hRl := restTo_len ck st L (j + 1)
                  generalize restTo ck st L (j + 1) = R at *
                  go_wp2_with (at_builtin; refine wpList_push_at Iv 1 8 Iv.len Iv.one (by omega) rfl _ _ _ rfl base 3 Try.underlying23 (by kernel_rfl) u15 R ((j : Int) + 1) (wr.heap.size + 1) rfl (hown.alloc _) rfl (by first | rfl | simp) (by unfold maxLen; omega) (by omega) (by simp; omega) ?_; intro v7 w7 hown7 hg7)
                  have hlt7 : ∀ r, u15.ownBlock = some r → base ≤ r := fun r hr => (hown.lt r hr).1
                  have hMx := (hM.ext ((Ext.refl wr).allocs (.cells #[.int .i64 p, .int .i64 ((j : Int) + 1), .int .i64 x.kind, .int .i64 x.inc, .int .i64 x.frm, .int .i64 x.sinc, .int .i64 x.sidx, .int .i64 x.ord, .int .i64 x.val] 39))).kept hg7 (by intro e; have := hlt7 _ e.symm; omega)
                  have hBx := (hB.ext ((Ext.refl wr).allocs (.cells #[.int .i64 p, .int .i64 ((j : Int) + 1), .int .i64 x.kind, .int .i64 x.inc, .int .i64 x.frm, .int .i64 x.sinc, .int .i64 x.sidx, .int .i64 x.ord, .int .i64 x.val] 39))).kept hg7 (by intro e; have := hlt7 _ e.symm; omega)
                  have hX7 : Ext w w7 := Ext.own (hX.allocs _) (hown.alloc (.cells #[.int .i64 p, .int .i64 ((j : Int) + 1), .int .i64 x.kind, .int .i64 x.inc, .int .i64 x.frm, .int .i64 x.sinc, .int .i64 x.sidx, .int .i64 x.ord, .int .i64 x.val] 39)) (by omega) hg7
                  have hL7 := (hrowL.alloc (.cells #[.int .i64 p, .int .i64 ((j : Int) + 1), .int .i64 x.kind, .int .i64 x.inc, .int .i64 x.frm, .int .i64 x.sinc, .int .i64 x.sidx, .int .i64 x.ord, .int .i64 x.val] 39)).kept hg7 (own_ne hrowL hown (by decide))
                  go_roundg (L.length - (j + 1))
                  case measure => omega
                  case rel => exact ⟨⟨j + 1, m1, m2, by omega, by go_num, rfl, by rw [HG.out], by rw [HR.out]; exact hown7, hMx, hBx, hL7, hX7⟩, by have := hg7.size; simp at this; omega⟩
                · have HG : Hid (goodAt ck st L (j + 1) = true) := by unfold Hid; rw [HSg.out, hgj]; rfl
                  clear hlk2
                  clear hgj
                  have HR : Hid (restTo ck st L (j + 1 + 1) = restTo ck st L (j + 1) ++ [(j : Int) + 1]) := by unfold Hid; rw [restTo, HG.out, if_pos rfl]; congr 2
                  have hRl := restTo_len ck st L (j + 1)
                  generalize restTo ck st L (j + 1) = R at *
                  go_wp2_with (at_builtin; refine wpList_push_at Iv 1 8 Iv.len Iv.one (by omega) rfl _ _ _ rfl base 3 Try.underlying23 (by kernel_rfl) u15 R ((j : Int) + 1) (wr.heap.size + 1) rfl (hown.alloc _) rfl (by first | rfl | simp) (by unfold maxLen; omega) (by omega) (by simp; omega) ?_; intro v7 w7 hown7 hg7)
                  have hlt7 : ∀ r, u15.ownBlock = some r → base ≤ r := fun r hr => (hown.lt r hr).1
                  have hMx := (hM.ext ((Ext.refl wr).allocs (.cells #[.int .i64 p, .int .i64 ((j : Int) + 1), .int .i64 x.kind, .int .i64 x.inc, .int .i64 x.frm, .int .i64 x.sinc, .int .i64 x.sidx, .int .i64 x.ord, .int .i64 x.val] 39))).kept hg7 (by intro e; have := hlt7 _ e.symm; omega)
                  have hBx := (hB.ext ((Ext.refl wr).allocs (.cells #[.int .i64 p, .int .i64 ((j : Int) + 1), .int .i64 x.kind, .int .i64 x.inc, .int .i64 x.frm, .int .i64 x.sinc, .int .i64 x.sidx, .int .i64 x.ord, .int .i64 x.val] 39))).kept hg7 (by intro e; have := hlt7 _ e.symm; omega)
                  have hX7 : Ext w w7 := Ext.own (hX.allocs _) (hown.alloc (.cells #[.int .i64 p, .int .i64 ((j : Int) + 1), .int .i64 x.kind, .int .i64 x.inc, .int .i64 x.frm, .int .i64 x.sinc, .int .i64 x.sidx, .int .i64 x.ord, .int .i64 x.val] 39)) (by omega) hg7
                  have hL7 := (hrowL.alloc (.cells #[.int .i64 p, .int .i64 ((j : Int) + 1), .int .i64 x.kind, .int .i64 x.inc, .int .i64 x.frm, .int .i64 x.sinc, .int .i64 x.sidx, .int .i64 x.ord, .int .i64 x.val] 39)).kept hg7 (own_ne hrowL hown (by decide))
                  go_roundg (L.length - (j + 1))
                  case measure => omega
                  case rel => exact ⟨⟨j + 1, m1, m2, by omega, by go_num, rfl, by rw [HG.out], by rw [HR.out]; exact hown7, hMx, hBx, hL7, hX7⟩, by have := hg7.size; simp at this; omega⟩
              · obtain rfl : j = L.length := by omega
                go_wp2_with fail
                go_ret
                refine ⟨_, rfl, ?_, hX⟩
                unfold restV
                rw [HL.out, ← hLl]
                exact own_base hown (by omega)
end Go.Proofs.Ythadaahemhamdaa
