/- StableK, Memory, SelK2, PlayPlain, MergeK, StableC, GOwnK, CmpMem, Sched2, Send, joined. No statement of the seat is proved here. -/
import Derived.Test.YtfnnoncdocghjaaK2
import Derived.Deep.AppendLies
import Derived.Test.YtfnnoncdocghjaaK1
import Derived.Deep.MidRow
import Derived.Deep.Upon
import Derived.Deep.DeepCutAuto
namespace Go.Proofs.Ytfnnoncdocghjaa
open Go.RowKit
set_option linter.unusedVariables false
set_option maxRecDepth 100000

theorem step_push_lies {P : Program} {α : Type} (f : α → List Value) (s bytes : Nat) (hf : ∀ a, (f a).length = s) (h1 : ∀ a, ∀ u ∈ f a, u.oneCell' = true) (hs0 : 0 < s)
    {w : World} {ops : Array Oper} {o : Oper} {a : Act} {K : Act → World → Prop} {Q : Exit → Act → World → Prop} {E : Prop} (hgd : o.guard = none) (so xo : Operand) (t : TypeId)
    (ho : o.op = .call { callee := .builtin .append, args := #[so, xo], argTypes := #[t, t] })
    (base : Nat) (e : TypeId) (ht : P.underlying t = some (.slice e)) (hinfo : elemOf P e = some (s, s, bytes))
    (v : Value) (l : List α) (x : α) (gx : Nat) (hso : a.eval so = v) (hown : w.ownsRow base e s v l.length (l.flatMap f)) (hxo : a.eval xo = .slice (some ⟨gx, 0, none⟩) 1 1) (hseg : Seg w s (some ⟨gx, 0, none⟩) 1 (f x))
    (h63 : l.length + 1 ≤ maxLen) (hbytes : (l.length + 1) * bytes ≤ 140737488355328) (hbase : base ≤ w.heap.size)
    (h : ∀ g cap w', w'.ownsRow base e s (.slice (some ⟨g, 0, none⟩) (l.length + 1) cap) (l ++ [x]).length ((l ++ [x]).flatMap f) → w.grownBy w' v.ownBlock → (v.ownBlock = some g ∨ g = w.heap.size) → K (a.put o.dst (.slice (some ⟨g, 0, none⟩) (l.length + 1) cap)) w') :
    if Region.wanted o (yielded ops a.tmps) = true then Oper.wp P o a w K Q else E := by
  obtain ⟨i, z, hi, hz, hsz, hby, hzs⟩ := elemOf_some hinfo
  refine step_append_lies w hgd so xo t ho base e i z s bytes ht hi hz hsz hby hzs hs0 v l.length (l.flatMap f) hso hown ⟨gx, 0, none⟩ 1 1 (f x) hxo (by rw [hf]; omega) ?_ (h1 x) (by omega) h63 hbytes hbase w.heap.size rfl ?_
  · intro j u hu
    obtain ⟨b, off, hA, _, hc⟩ := hseg.2 (by omega)
    injection hA with hA
    injection hA with hA1 hA2
    subst hA1 hA2
    have ha : (⟨gx, 0, none⟩ : Addr).add j = ⟨gx, 0 + j, none⟩ := by unfold Addr.add; split <;> simp_all
    rw [ha]
    exact hc j u hu
  · intro g cap w' h2 h3 h4 _
    refine h g cap w' ?_ h3 h4
    rw [List.flatMap_append, List.length_append]
    simpa using h2
theorem Seg.ofBlkK {W : World} {g : Nat} {t : TypeId} {cs : List Value} {s n : Nat} (h : Blk W g t cs.toArray) (hl : cs.length = n * s) : Seg W s (some ⟨g, 0, none⟩) n cs :=
  ⟨hl, fun _ => ⟨g, 0, rfl, h.lt, fun j u hu => by rw [Nat.zero_add, h.cell, List.getElem?_toArray, hu]⟩⟩
def stK (m : Nat) (k : Kn) : Kn := ⟨k.d, bits .or .u32 k.h ((2 : Int) ^ m - 1)⟩
def KnAt (W : World) (b o : Nat) (x : Kn) : Prop := W.cell? ⟨b, o, none⟩ = some (.int .i64 x.d.proc) ∧ W.cell? ⟨b, o + 1, none⟩ = some (.int .i64 x.d.index) ∧ W.cell? ⟨b, o + 2, none⟩ = some (.int .i64 x.d.ev.kind) ∧ W.cell? ⟨b, o + 3, none⟩ = some (.int .i64 x.d.ev.inc) ∧ W.cell? ⟨b, o + 4, none⟩ = some (.int .i64 x.d.ev.frm) ∧ W.cell? ⟨b, o + 5, none⟩ = some (.int .i64 x.d.ev.sinc) ∧ W.cell? ⟨b, o + 6, none⟩ = some (.int .i64 x.d.ev.sidx) ∧ W.cell? ⟨b, o + 7, none⟩ = some (.int .i64 x.d.ev.ord) ∧ W.cell? ⟨b, o + 8, none⟩ = some (.int .i64 x.d.ev.val) ∧ W.cell? ⟨b, o + 9, none⟩ = some (.int .u32 x.h)
def SbRel (w : World) (l : List Kn) (m : Nat) (g : Nat) (v i : Value) (wr : World) : Prop := ∃ j : Nat, j ≤ l.length ∧ i = .int .i64 j ∧ g = l.length - j ∧ Ext w wr ∧ wr.ownsRow w.heap.size 34 10 v ((l.take j).map (stK m)).length (((l.take j).map (stK m)).flatMap Kn.cells)
theorem map_take_stK (m : Nat) (l : List Kn) (j : Nat) (hj : j < l.length) : (l.take (j + 1)).map (stK m) = (l.take j).map (stK m) ++ [stK m l[j]] := by
  rw [List.take_succ_eq_append_getElem hj, List.map_append]
  rfl
set_option maxHeartbeats 1600000 in
theorem stable_ref (A : Option Addr) (c : Nat) (l : List Kn) (n : Int) (m : Nat) (hm : min (max n 0) 32 = (m : Int)) (w : World) (hs : KnSeg w A l) (hn : l.length ≤ 1000) :
    Calls Try.prog 37 #[.slice A l.length c, .int .i64 n] w (OwnPostK (l.map (stK m)) w) := by
  have HS := Lib.hid hs
  clear hs
  go_enter Try.func37, Try.ntmps37
  go_wp2_with fail
  go_loopg [5, 6] l.length (fun g v i wr => SbRel w l m g v i wr)
  case atStart => exact ⟨0, Nat.zero_le _, rfl, rfl, Ext.refl w, own_nil _ _ _ _ _⟩
  case round =>
    obtain ⟨j, hj, rfl, rfl, hE, hown⟩ := hrel
    by_cases hlt : j < l.length
    · obtain ⟨b, off, rfl, -⟩ := Kn.at_ (HS.out.ext hE) hlt
      have HX : Hid (∀ W, Ext w W → KnAt W b (off + j * 10) l[j]) := fun W hW => by
        obtain ⟨b', off', e, h⟩ := Kn.at_ (HS.out.ext hW) hlt
        injection e with e
        injection e with e1 e2
        subst e1 e2
        exact h
      have HT := Lib.hid (map_take_stK m l j hlt)
      have HL : ((l.take j).map (stK m)).length ≤ l.length := by rw [List.length_map, List.length_take]; omega
      obtain ⟨x, hx⟩ : ∃ x, l[j] = x := ⟨_, rfl⟩
      rw [hx] at HX HT
      clear hx
      obtain ⟨L, hL⟩ : ∃ L, (l.take j).map (stK m) = L := ⟨_, rfl⟩
      rw [hL] at HT HL hown
      clear hL
      obtain ⟨Av, cv, rfl, -, -, -⟩ := own_slice hown
      have HO := Lib.hid hown
      have HE := Lib.hid hE
      clear hown hE
      have hj0 : (0 : Int) ≤ (j : Int) := by omega
      have hj1 : (j : Int) < (l.length : Int) := by omega
      have HA := Lib.hid (fun w => all_any n m hm w)
      clear hm
      go_upto_region 5 with fail
      refine wp_region_sched (by kernel_rfl) 16 [(0, true), (1, true), (2, true), (3, true), (4, true), (5, true), (6, true), (7, true), (8, true), (9, true), (10, true), (11, true), (12, false), (13, true), (14, true), (15, false), (16, false), (17, false)] (fun w' => KnAt w' b (off + j * 10) x) (by kernel_rfl) (fun _ _ dd _ _ h => by cases dd <;> exact h) (HX.out _ (Below.drew HE.out)) (fun hHeld => ?_)
      iterate 12 ((refine sched_read (v := ?_) rfl (Or.inl ⟨by rfl, ?_⟩) hHeld ?_; rotate_left 1; · (intro w' hSw; obtain ⟨t0, t1, t2, t3, t4, t5, t6, t7, t8, t9⟩ := hSw; go_simp; (first | done | with_reducible rfl))); (try simp only [Act.put, List.setIfInBounds_toArray, List.set_cons_zero, List.set_cons_succ]))
      refine sched_eff rfl (fun K hK => ?_)
      go_simp
      refine (HA.out _).mono ?_
      rintro e w2 ⟨rfl, rfl⟩
      go_wp2_with fail
      refine hK.out _ _ (HX.out _ (Below.drew HE.out)) (fun hHeld => ?_)
      clear hK K
      try simp only [Act.put, List.setIfInBounds_toArray, List.set_cons_zero, List.set_cons_succ]
      iterate 2 ((refine sched_read (v := ?_) rfl (Or.inl ⟨by rfl, ?_⟩) hHeld ?_; rotate_left 1; · (intro w' hSw; obtain ⟨t0, t1, t2, t3, t4, t5, t6, t7, t8, t9⟩ := hSw; go_simp; (first | done | with_reducible rfl))); (try simp only [Act.put, List.setIfInBounds_toArray, List.set_cons_zero, List.set_cons_succ]))
      have hEa : Ext wr.drew (wr.drew.alloc (.cells (Kn.cells (stK m x)).toArray 34)) := (Ext.refl wr.drew).allocs _
      have HBa : Hid (Blk (wr.drew.alloc (.cells (Kn.cells (stK m x)).toArray 34)) wr.drew.heap.size 34 (Kn.cells (stK m x)).toArray) := Blk.new wr.drew _ _
      refine sched_eff rfl (fun K hK => ?_)
      go_simp
      refine hK.out _ _ (HX.out _ (Ext.allocs (Below.drew HE.out) _)) (fun hHeld => ?_)
      clear hK K
      try simp only [Act.put, List.setIfInBounds_toArray, List.set_cons_zero, List.set_cons_succ]
      refine sched_tail rfl (by decide) (fun K hK => ?_)
      refine step_push_lies Kn.cells 10 80 Kn.len Kn.one (by omega) (by rfl) _ _ _ (by rfl) w.heap.size 34 Try.underlying26 (by kernel_rfl) (.slice Av L.length cv) L (stK m x) wr.drew.heap.size (by rfl) (own_ext (own_ext HO.out (Below.drew (Ext.refl wr))) hEa) (by rfl) (Seg.ofBlkK HBa.out rfl) (by unfold maxLen; omega) (by omega) (Nat.le_trans HE.out.size hEa.size) ?_
      intro g9 c9 w9 hown9 hg9 hd9
      have hE9 : Ext w w9 := Ext.own (Ext.allocs (Below.drew HE.out) _) (own_ext (own_ext HO.out (Below.drew (Ext.refl wr))) hEa) (Nat.le_refl _) hg9
      refine hK.out _ _ ?_
      clear hK K
      try simp only [Act.put, List.setIfInBounds_toArray, List.set_cons_zero, List.set_cons_succ]
      refine sched_tail rfl (by decide) (fun K hK => ?_)
      go_simp
      refine hK.out _ _ ?_
      clear hK K
      refine sched_done ?_
      have HO9 := Lib.hid hown9
      have HE9 := Lib.hid hE9
      clear hown9 hg9 hd9 hE9
      go_wp2_with fail
      go_roundg (l.length - (j + 1))
      case measure => omega
      case rel => exact ⟨j + 1, by omega, by go_num, rfl, HE9.out, by rw [HT.out]; have := HO9.out; simpa using this⟩
    · obtain rfl : j = l.length := by omega
      rw [List.take_of_length_le (Nat.le_refl _)] at hown
      go_wp2_with fail
      go_ret
      exact ⟨_, rfl, hown, hE⟩
end Go.Proofs.Ytfnnoncdocghjaa
namespace Go.Proofs.Ytfnnoncdocghjaa
open Go.RowKit Go.Shelf Go.Lib Go.Sort
set_option linter.unusedVariables false
set_option maxRecDepth 100000

theorem own_two {w : World} {base s n : Nat} {e : TypeId} {v : Value} {xs : List Value} (h : w.ownsRow base e s v n xs) : (v = .slice none 0 0 ∧ n = 0) ∨ ∃ g c, v = .slice (some ⟨g, 0, none⟩) n c := by
  rcases h.2 with ⟨h1, h2⟩ | ⟨g, cap, cur, hv, _⟩
  · exact .inl ⟨h1, h2⟩
  · exact .inr ⟨g, cap, hv⟩
theorem grown_set1 (w : World) (g o : Nat) (v : Value) : w.grownBy (w.setCell ⟨g, o, none⟩ v) (some g) :=
  ⟨rfl, rfl, rfl, by simp [World.setCell], fun k hk hne => Below.heap_setCell _ _ _ _ (fun e => hne (by rw [e]))⟩
theorem sort_ownK (w0 : World) (v : Value) (l : List Kn) (w : World) (hE : Ext w0 w) (hown : w.ownsRow w0.heap.size 34 10 v l.length (l.flatMap Kn.cells)) (hsz : l.length ≤ 1000) :
    Calls Try.prog 61 #[v, .func (.func 62) #[] #[]] w fun e w' => e = .returned (.tuple #[]) ∧ Ext w0 w' ∧ ∃ l' : List Kn, l'.Perm l ∧ l'.Pairwise (fun a b => cmpD a.d b.d ≤ 0) ∧ w'.ownsRow w0.heap.size 34 10 v l'.length (l'.flatMap Kn.cells) := by
  rcases own_two hown with ⟨rfl, hn⟩ | ⟨g, c, rfl⟩
  · have hl : l = [] := List.eq_nil_of_length_eq_zero hn
    subst hl
    refine (AnyF.slices_SortFunc_none Try.sortKn none 0 _ w).mono ?_
    rintro e w' ⟨rfl, rfl⟩
    exact ⟨rfl, hE, [], List.Perm.refl _, List.Pairwise.nil, hown⟩
  · obtain ⟨hrow, hgb⟩ := row_of_own hown
    have hsh := shp_of_own hown
    obtain ⟨A, c', e, _, hc, hcm⟩ := own_slice hown
    injection e with e1 _ e2
    subst e2
    refine (sort_rowK g c l w hrow hsz).mono ?_
    rintro e w' ⟨rfl, hG, l', hp, hs, hR⟩
    have hll : l'.length = l.length := hp.length_eq
    refine ⟨rfl, Ext.grownRow hE hgb hG.1, l', hp, hs, ?_⟩
    have := own_of_row hR (hG.2 _ hsh) (by omega) hcm hgb
    rw [hll] at this ⊢
    exact this

theorem mem_last {l : List Kn} {L : List Kn} {x k : Kn} {j : Nat} (hj : j < l.length) (hs : l.Pairwise (fun a b => cmpD a.d b.d ≤ 0)) (hk : l[j] = k) (h : MemOf (l.take j) (L ++ [x])) (hne : x.d ≠ k.d) : ∀ y ∈ L ++ [x], cmpD y.d k.d < 0 := by
  have hle : ∀ y ∈ L ++ [x], cmpD y.d k.d ≤ 0 := fun y hy => by
    obtain ⟨z, hz, ez⟩ := (h.dets y.d).1 ⟨y, hy, rfl⟩
    obtain ⟨i, hi, rfl⟩ := List.mem_iff_getElem.1 hz
    have hi2 : i < j := by rw [List.length_take] at hi; omega
    rw [← ez, ← hk, List.getElem_take]
    exact List.pairwise_iff_getElem.1 hs i j (by omega) hj hi2
  have hx : cmpD x.d k.d < 0 := by
    have h1 := hle x (by simp)
    have h2 : cmpD x.d k.d ≠ 0 := fun e => hne ((cmpD_zero _ _).1 e)
    omega
  intro y hy
  rcases List.mem_append.1 hy with hy | hy
  · have hasc := h.asc
    rw [List.map_append] at hasc
    have := (List.pairwise_append.1 hasc).2.2 y.d (List.mem_map.2 ⟨y, hy, rfl⟩) x.d (by simp)
    exact cmpD_lt_trans this hx
  · rw [List.mem_singleton] at hy; subst hy; exact hx
/-- one cell of an element -/
theorem flat_set1 {α : Type} (f : α → List Value) (s : Nat) (hs : 0 < s) (hf : ∀ a, (f a).length = s) (l : List α) (j : Nat) (x : α) (hj : j < l.length) (o : Nat) (ho : o < s) (v : Value) (hx : f x = (f l[j]).set o v) :
    (l.flatMap f).set (j * s + o) v = (l.set j x).flatMap f := by
  rw [← setAll_flat f s hs hf l j x hj]
  refine List.ext_getElem? fun q => ?_
  rw [setAll_get, hf, flat_len f s hf, List.getElem?_set, flat_len f s hf]
  have hjl : (j + 1) * s ≤ l.length * s := Nat.mul_le_mul_right _ hj
  rw [Nat.add_mul] at hjl
  have hbase : ∀ i, i < s → (l.flatMap f)[j * s + i]? = (f l[j])[i]? := fun i hi => flat_get f s hf l j i l[j] (List.getElem?_eq_getElem hj) hi
  by_cases hq : j * s ≤ q ∧ q < j * s + s
  · rw [if_pos (show j * s ≤ q ∧ q < j * s + s ∧ q < l.length * s by omega)]
    obtain ⟨i, rfl⟩ : ∃ i, q = j * s + i := ⟨q - j * s, by omega⟩
    rw [show j * s + i - j * s = i by omega, hx, List.getElem?_set, hf]
    by_cases hio : o = i
    · subst hio
      rw [if_pos rfl, if_pos rfl, if_pos (by omega), if_pos ho]
    · rw [if_neg (by omega), if_neg hio, hbase i (by omega)]
  · rw [if_neg (show ¬ j * s + o = q by omega), if_neg (by omega)]

theorem own_setH {w : World} {base g c n : Nat} {l : List Kn} (h : w.ownsRow base 34 10 (.slice (some ⟨g, 0, none⟩) n c) n (l.flatMap Kn.cells)) {i : Nat} (hi : i < l.length) (y : Kn) (hy : y.d = l[i].d) :
    (w.setCell ⟨g, i * 10 + 9, none⟩ (.int .u32 y.h)).ownsRow base 34 10 (.slice (some ⟨g, 0, none⟩) n c) n ((l.set i y).flatMap Kn.cells) := by
  have h2 := (h.stored (i * 10 + 9) (.int .u32 y.h)).1
  rwa [flat_set1 Kn.cells 10 (by omega) Kn.len l i y hi 9 (by omega) _ (by unfold Kn.cells; rw [hy]; rfl)] at h2
theorem set_last (O : List Kn) (x y : Kn) {n : Nat} (hn : O.length = n) : (O ++ [x]).set n y = O ++ [y] := by
  subst hn; simp

def MmRel (w1 : World) (l : List Kn) (g : Nat) (v i : Value) (wr : World) : Prop := ∃ (j : Nat) (o : List Kn), j ≤ l.length ∧ i = .int .i64 j ∧ g = l.length - j ∧ Ext w1 wr ∧ wr.ownsRow w1.heap.size 34 10 v o.length (o.flatMap Kn.cells) ∧ MemOf (l.take j) o ∧ o.length ≤ j
theorem blk10 {w : World} {g : Nat} {t : TypeId} {k : Kn} (h : Blk w g t k.cells.toArray) : w.cell? ⟨g, 0, none⟩ = some (.int .i64 k.d.proc) ∧ w.cell? ⟨g, 1, none⟩ = some (.int .i64 k.d.index) ∧ w.cell? ⟨g, 2, none⟩ = some (.int .i64 k.d.ev.kind) ∧ w.cell? ⟨g, 3, none⟩ = some (.int .i64 k.d.ev.inc) ∧ w.cell? ⟨g, 4, none⟩ = some (.int .i64 k.d.ev.frm) ∧ w.cell? ⟨g, 5, none⟩ = some (.int .i64 k.d.ev.sinc) ∧ w.cell? ⟨g, 6, none⟩ = some (.int .i64 k.d.ev.sidx) ∧ w.cell? ⟨g, 7, none⟩ = some (.int .i64 k.d.ev.ord) ∧ w.cell? ⟨g, 8, none⟩ = some (.int .i64 k.d.ev.val) ∧ w.cell? ⟨g, 9, none⟩ = some (.int .u32 k.h) :=
  ⟨(h.cell 0).trans rfl, (h.cell 1).trans rfl, (h.cell 2).trans rfl, (h.cell 3).trans rfl, (h.cell 4).trans rfl, (h.cell 5).trans rfl, (h.cell 6).trans rfl, (h.cell 7).trans rfl, (h.cell 8).trans rfl, (h.cell 9).trans rfl⟩
set_option maxHeartbeats 1600000 in
theorem memory_any (gS : Nat) (A B : Option Addr) (ca cb : Nat) (a b : List Kn) (w : World) (hS : Blk w gS 26 #[.slice A a.length ca, .slice B b.length cb]) (ha : KnSeg w A a) (hb : KnSeg w B b) (hla : a.length ≤ 700) (hlb : b.length ≤ 300) (hok : ∀ k ∈ a ++ b, okH k.h) :
    Calls Try.prog 45 #[.slice (some ⟨gS, 0, none⟩) 2 2] w (OwnPostK (memV (a ++ b)) w) := by
  have HC := Lib.hid (concat_two gS A B ca cb a b w hS ha hb hla hlb)
  have HOK := Lib.hid hok
  have hLl : (a ++ b).length ≤ 1000 := by rw [List.length_append]; omega
  clear hS ha hb hok
  generalize a ++ b = L at HC hLl HOK ⊢
  clear hla hlb
  go_enter Try.func45, Try.ntmps45
  go_wp2_with fail
  refine HC.out.mono ?_
  rintro e w1 ⟨v, rfl, hown, hE1⟩
  clear HC
  go_wp2_with fail
  refine (sort_ownK w v L w1 hE1 hown hLl).mono ?_
  rintro e w2 ⟨rfl, hE2, l, hp, hs, hown2⟩
  clear hown hE1
  obtain ⟨A2, c2, rfl, hs2, -, -⟩ := own_slice hown2
  clear hown2
  have hln : l.length ≤ 1000 := by rw [hp.length_eq]; exact hLl
  have hln' : (l.length : Int) ≤ 1000 := by omega
  have HP := Lib.hid hp
  have HS := Lib.hid hs
  have HS2 := Lib.hid hs2
  have HE2 := Lib.hid hE2
  clear hp hs hs2 hE2 hLl
  have HKO : Hid (∀ k ∈ l, okH k.h) := fun k hk => HOK.out k (HP.out.mem_iff.1 hk)
  go_wp2_with fail
  go_loopg [4, 14] l.length (fun g v i wr => MmRel w2 l g v i wr)
  case atStart => exact ⟨0, [], Nat.zero_le _, rfl, rfl, Ext.refl w2, own_nil _ _ _ _ _, MemOf.nil, Nat.le_refl _⟩
  case round =>
    obtain ⟨j, o, hj, rfl, rfl, hE, hown, hM, hoj⟩ := hrel
    by_cases hlt : j < l.length
    · obtain ⟨b, off, rfl, p0, p1, p2, p3, p4, p5, p6, p7, p8, p9⟩ := Kn.at_ (HS2.out.ext hE) hlt
      have HT : Hid (l.take (j + 1) = l.take j ++ [l[j]]) := List.take_succ_eq_append_getElem hlt
      have hk := HKO.out _ (List.getElem_mem hlt)
      obtain ⟨k, ek⟩ : ∃ k, l[j] = k := ⟨_, rfl⟩
      have HK := Lib.hid ek
      rw [ek] at p0 p1 p2 p3 p4 p5 p6 p7 p8 p9 HT hk
      clear ek
      have HM := Lib.hid hM
      have HE := Lib.hid hE
      have HOKk := Lib.hid hk
      clear hM hk
      have hz := hE.size
      have HBK : Hid (Blk (wr.alloc (.cells k.cells.toArray 34)) wr.heap.size 34 k.cells.toArray) := Blk.new wr _ _
      obtain ⟨f0, f1, f2, f3, f4, f5, f6, f7, f8, f9⟩ := blk10 HBK.out
      rcases List.eq_nil_or_concat o with rfl | ⟨O, x, rfl⟩
      · obtain ⟨Av, cv, rfl, -, -, -⟩ := own_slice hown
        have HO := Lib.hid hown
        clear hown
        have HMk : Hid (MemOf (l.take (j + 1)) ([] ++ [k])) := by show MemOf _ _; rw [HT.out]; exact HM.out.push HOKk.out (by simp)
        go_wp2_with fail
        go_quiet (fail)
        go_wp2_with (at_builtin; refine wpList_push_at Kn.cells 10 80 Kn.len Kn.one (by omega) rfl _ _ _ rfl w2.heap.size 34 Try.underlying26 (by kernel_rfl) (.slice Av ([] : List Kn).length cv) ([] : List Kn) k (wr.heap.size + 1) rfl (own_ext HO.out (((Ext.refl wr).allocs _).drewN nq)) rfl (by first | rfl | simp) (by unfold maxLen; simp) (by simp) (by simp; omega) ?_; intro v' w6 hown6 hg6)
        have hE6 : Ext w2 w6 := Ext.own ((HE.out.allocs _).drewN nq) (own_ext HO.out (((Ext.refl wr).allocs _).drewN nq)) (Nat.le_refl _) hg6
        go_roundg (l.length - (j + 1))
        case measure => omega
        case rel => exact ⟨j + 1, _, by omega, by go_num, rfl, hE6, hown6, HMk.out, by simp⟩
      · rw [List.concat_eq_append] at *
        obtain ⟨n, hn⟩ : ∃ n, O.length = n := ⟨_, rfl⟩
        have hol : (O ++ [x]).length = n + 1 := by simp [hn]
        rw [hol] at hown
        obtain ⟨gO, cv, rfl⟩ : ∃ gO cv, u4 = .slice (some ⟨gO, 0, none⟩) (n + 1) cv := by
          rcases own_two hown with ⟨_, h⟩ | h
          · omega
          · exact h
        have HO := Lib.hid hown
        have hxc : ∀ i (u : Value), i < 10 → x.cells[i]? = some u → wr.cell? ⟨gO, n * 10 + i, none⟩ = some u := fun i u hi hu => by
          rw [hown.cellAt (n * 10 + i) (by omega), flat_get Kn.cells 10 Kn.len (O ++ [x]) n i x (by simp [← hn]) hi, hu]
        have hgs : gO < wr.heap.size := by
          have := (hown.lt gO rfl).2
          exact this
        have HX : Hid (∀ W, Ext wr W → KnAt W gO (n * 10) x) := fun W hW => by
          have hc : ∀ i (u : Value), i < 10 → x.cells[i]? = some u → W.cell? ⟨gO, n * 10 + i, none⟩ = some u := fun i u hi hu => (hW.cell (p := ⟨gO, n * 10 + i, none⟩) hgs).trans (hxc i u hi hu)
          exact ⟨hc 0 _ (by omega) rfl, hc 1 _ (by omega) rfl, hc 2 _ (by omega) rfl, hc 3 _ (by omega) rfl, hc 4 _ (by omega) rfl, hc 5 _ (by omega) rfl, hc 6 _ (by omega) rfl, hc 7 _ (by omega) rfl, hc 8 _ (by omega) rfl, hc 9 _ (by omega) rfl⟩
        have heq := fun w => eql_det w x.d k.d
        obtain ⟨x0, x1, x2, x3, x4, x5, x6, x7, x8, x9⟩ := HX.out wr (Ext.refl wr)
        clear hxc hown hol
        have hn1000 : n + 1 ≤ j := by simpa [hn] using hoj
        by_cases hsm : x.d = k.d
        · rw [(Dt.same_iff _ _).2 hsm] at heq
          have HSM := Lib.hid hsm
          have HMk : Hid (MemOf (l.take (j + 1)) (O ++ [orK x k])) := by show MemOf _ _; rw [HT.out]; exact HM.out.join HOKk.out hsm
          go_wp2_with fail
          go_quiet (fail)
          go_wp2_with fail
          clear x0 x1 x2 x3 x4 x5 x6 x7 x8 x9 heq p0 p1 p2 p3 p4 p5 p6 p7 p8 p9 f0 f1 f2 f3 f4 f5 f6 f7 f8 f9
          obtain ⟨wa, hwa⟩ : ∃ wa, (wr.alloc (.cells k.cells.toArray 34)).drewN nq = wa := ⟨_, rfl⟩
          have hEa : Ext wr wa := by rw [← hwa]; exact ((Ext.refl wr).allocs _).drewN nq
          have HBa : Hid (∀ W, Ext wa W → W.cell? ⟨wr.heap.size, 9, none⟩ = some (.int .u32 k.h)) := fun W hW => by
            have h1 := (HBK.out.ext (Ext.trans (by rw [← hwa]; exact (Ext.refl _).drewN nq) hW) : Blk W _ _ _)
            exact (blk10 h1).2.2.2.2.2.2.2.2.2
          have hwa' := hwa
          unfold Kn.cells at hwa'
          rw [hwa']
          clear hwa hwa'
          have HEa := Lib.hid hEa
          clear hEa
          have hwn : IntKind.i64.wrap ((n : Int)) = (n : Int) := by rw [IntKind.wrap_i64]; omega
          have hn0 : (0 : Int) ≤ (n : Int) := by omega
          have hn1 : (n : Int) < (n : Int) + 1 := by omega
          refine wp_region_sched (by kernel_rfl) 11 [(0, true), (1, true), (2, true), (3, true), (4, true), (5, true), (6, true), (7, true), (8, true), (9, true), (10, true), (11, false)] (fun W => W.cell? ⟨gO, n * 10 + 9, none⟩ = some (.int .u32 x.h) ∧ W.cell? ⟨wr.heap.size, 9, none⟩ = some (.int .u32 k.h)) (by kernel_rfl) (fun _ _ dd _ _ h => by cases dd <;> exact h) ⟨(HX.out _ (Below.drew HEa.out)).2.2.2.2.2.2.2.2.2, HBa.out _ (Below.drew (Ext.refl wa))⟩ (fun hHeld => ?_)
          iterate 11 ((refine sched_read (v := ?_) rfl (Or.inl ⟨by rfl, ?_⟩) hHeld ?_; rotate_left 1; · (intro w' hSw; obtain ⟨t0, t1⟩ := hSw; go_simp; (first | done | with_reducible rfl))); (try simp only [Act.put, List.setIfInBounds_toArray, List.set_cons_zero, List.set_cons_succ]))
          have HOa : Hid ((wa.drew.setCell ⟨gO, n * 10 + 9, none⟩ (.int .u32 (orK x k).h)).ownsRow w2.heap.size 34 10 (.slice (some ⟨gO, 0, none⟩) (n + 1) cv) (n + 1) ((O ++ [orK x k]).flatMap Kn.cells)) := by
            have h1 := own_setH (own_ext HO.out (Below.drew HEa.out)) (i := n) (by simp [← hn]) (orK x k) (by simp [← hn]; rfl)
            rwa [set_last O x (orK x k) hn] at h1
          have HEb : Hid (Ext w2 (wa.drew.setCell ⟨gO, n * 10 + 9, none⟩ (.int .u32 (orK x k).h))) := Below.setCell (Below.drew (Ext.trans HE.out HEa.out)) ((HO.out.lt gO rfl).1) _
          have hfz : wa.drew.frozen? ⟨gO, n * 10 + 9, none⟩ = false := (own_ext HO.out (Below.drew HEa.out)).frozenAt _
          refine sched_tail rfl (by decide) (fun K hK => ?_)
          go_simp
          refine hK.out _ _ ?_
          clear hK K
          refine sched_done ?_
          go_wp2_with fail
          go_roundg (l.length - (j + 1))
          case measure => omega
          case rel => exact ⟨j + 1, _, by omega, by go_num, rfl, HEb.out, by rw [show (O ++ [orK x k]).length = n + 1 by simp [hn]]; exact HOa.out, HMk.out, by simp [hn]; omega⟩
        · rw [Dt.same_ne hsm] at heq
          have HMk : Hid (MemOf (l.take (j + 1)) (O ++ [x] ++ [k])) := by show MemOf _ _; rw [HT.out]; exact HM.out.push HOKk.out (mem_last hlt HS.out HK.out HM.out hsm)
          have HOl : Hid (wr.ownsRow w2.heap.size 34 10 (.slice (some ⟨gO, 0, none⟩) (n + 1) cv) (O ++ [x]).length ((O ++ [x]).flatMap Kn.cells)) := by show World.ownsRow _ _ _ _ _ _ _; rw [show (O ++ [x]).length = n + 1 by simp [hn]]; exact HO.out
          have hol : (O ++ [x]).length = n + 1 := by simp [hn]
          have HOL := Lib.hid hol
          clear hol
          go_wp2_with fail
          go_quiet (fail)
          clear x0 x1 x2 x3 x4 x5 x6 x7 x8 x9 heq p0 p1 p2 p3 p4 p5 p6 p7 p8 p9
          go_wp2_with (at_builtin; refine wpList_push_at Kn.cells 10 80 Kn.len Kn.one (by omega) rfl _ _ _ rfl w2.heap.size 34 Try.underlying26 (by kernel_rfl) (.slice (some ⟨gO, 0, none⟩) (n + 1) cv) (O ++ [x]) k (wr.heap.size + 1) rfl (own_ext HOl.out (((Ext.refl wr).allocs _).drewN nq)) rfl (by first | rfl | simp) (by rw [HOL.out]; unfold maxLen; omega) (by rw [HOL.out]; omega) (by simp; omega) ?_; intro v' w6 hown6 hg6)
          have hE6 : Ext w2 w6 := Ext.own ((HE.out.allocs _).drewN nq) (own_ext HOl.out (((Ext.refl wr).allocs _).drewN nq)) (Nat.le_refl _) hg6
          go_roundg (l.length - (j + 1))
          case measure => omega
          case rel => exact ⟨j + 1, _, by omega, by go_num, rfl, hE6, hown6, HMk.out, by simp [hn]; omega⟩
    · obtain rfl : j = l.length := by omega
      rw [List.take_of_length_le (Nat.le_refl _)] at hM
      have HV : Hid (o = memV L) := (hM.congr fun x => HP.out.mem_iff).eqV HOK.out
      have HE := Lib.hid hE
      have HO := Lib.hid hown
      clear hM hE hown
      go_wp2_with fail
      go_ret
      refine ⟨_, rfl, ?_, Ext.trans HE2.out HE.out⟩
      rw [← HV.out]
      exact own_base HO.out HE2.out.size
end Go.Proofs.Ytfnnoncdocghjaa
namespace Go.Proofs.Ytfnnoncdocghjaa
open Go.RowKit
set_option linter.unusedVariables false
set_option maxRecDepth 100000

def keepF (n : Int) (k : Kn) : Bool := decide ((cnt k.h : Int) ≤ n)
set_option maxHeartbeats 1600000 in
theorem carry_any (A : Option Addr) (c : Nat) (l : List Kn) (n : Int) (w : World) (hs : KnSeg w A l) (hn : l.length ≤ 1000) (hok : ∀ k ∈ l, okH k.h) :
    Calls Try.prog 34 #[.slice A l.length c, .int .i64 n] w (OwnPostK (l.filter (keepF n)) w) := by
  have hn' : (l.length : Int) ≤ 1000 := by omega
  have HOK := Lib.hid hok
  clear hok
  go_enter Try.func34, Try.ntmps34
  go_wp2_with fail
  go_loopg [5, 10] l.length (fun g v i wr => FtRel w l (keepF n) g v i wr)
  case atStart => exact ⟨0, Nat.zero_le _, rfl, rfl, Ext.refl w, own_nil _ _ _ _ _⟩
  case round =>
    obtain ⟨j, hj, rfl, rfl, hE, hown⟩ := hrel
    by_cases hlt : j < l.length
    · obtain ⟨b, off, rfl, p0, p1, p2, p3, p4, p5, p6, p7, p8, p9⟩ := Kn.at_ (hs.ext hE) hlt
      have HT := Lib.hid (filter_take l (keepF n) j hlt)
      have hk := HOK.out _ (List.getElem_mem hlt)
      have HL := List.length_filter_le (keepF n) (l.take j)
      rw [List.length_take] at HL
      obtain ⟨x, hx⟩ : ∃ x, l[j] = x := ⟨_, rfl⟩
      rw [hx] at p0 p1 p2 p3 p4 p5 p6 p7 p8 p9 HT hk
      clear hx
      have hz := hE.size
      obtain ⟨L, hL⟩ : ∃ L, (l.take j).filter (keepF n) = L := ⟨_, rfl⟩
      rw [hL] at HT HL hown
      clear hL
      have hc := cnt_le x.h
      have HC := Lib.hid (fun w => count_any x.h w hk.1 hk.2)
      obtain ⟨cx, hcx⟩ : ∃ cx, cnt x.h = cx := ⟨_, rfl⟩
      have HKD : Hid (keepF n x = decide ((cx : Int) ≤ n)) := by show keepF n x = _; unfold keepF; rw [hcx]
      rw [hcx] at hc HC
      clear hk hcx
      by_cases hi : (cx : Int) ≤ n
      · have HK : Hid (keepF n x = true) := by show keepF n x = true; rw [HKD.out]; exact decide_eq_true hi
        clear HKD
        go_wp2_with fail
        refine (HC.out _).mono ?_
        rintro e w2 ⟨rfl, rfl⟩
        go_wp2_with (at_builtin; refine wpList_push_at Kn.cells 10 80 Kn.len Kn.one (by omega) rfl _ _ _ rfl w.heap.size 34 Try.underlying26 (by kernel_rfl) u5 L x (wr.heap.size + 1) rfl (hown.alloc _) rfl (by first | rfl | simp) (by unfold maxLen; omega) (by omega) (by simp; omega) ?_; intro v' w6 hown6 hg6)
        have hE6 : Ext w w6 := Ext.own (hE.allocs _) (hown.alloc _) (Nat.le_refl _) hg6
        go_roundg (l.length - (j + 1))
        case measure => omega
        case rel => exact ⟨j + 1, by omega, by go_num, rfl, hE6, by rw [HT.out, HK.out]; exact hown6⟩
      · have HK : Hid (keepF n x = false) := by show keepF n x = false; rw [HKD.out]; exact decide_eq_false hi
        have hi' : decide ((cx : Int) ≤ n) = false := decide_eq_false hi
        clear HKD
        go_wp2_with fail
        refine (HC.out _).mono ?_
        rintro e w2 ⟨rfl, rfl⟩
        go_wp2_with fail
        go_roundg (l.length - (j + 1))
        case measure => omega
        case rel => exact ⟨j + 1, by omega, by go_num, rfl, hE.allocs _, by rw [HT.out, HK.out]; exact hown.alloc _⟩
    · obtain rfl : j = l.length := by omega
      rw [List.take_of_length_le (Nat.le_refl _)] at hown
      go_wp2_with fail
      go_ret
      exact ⟨_, rfl, hown, hE⟩
def DsRel (w : World) (l : List Kn) (g : Nat) (v i : Value) (wr : World) : Prop := ∃ j : Nat, j ≤ l.length ∧ i = .int .i64 j ∧ g = l.length - j ∧ Ext w wr ∧ wr.ownsRow w.heap.size 32 9 v ((l.take j).map Kn.d).length (((l.take j).map Kn.d).flatMap Dt.cells)
theorem map_take_succ (l : List Kn) (j : Nat) (hj : j < l.length) : (l.take (j + 1)).map Kn.d = (l.take j).map Kn.d ++ [l[j].d] := by
  rw [List.take_succ_eq_append_getElem hj, List.map_append]
  rfl
set_option maxHeartbeats 1600000 in
theorem dets_any (A : Option Addr) (c : Nat) (l : List Kn) (w : World) (hs : KnSeg w A l) (hn : l.length ≤ 1000) :
    Calls Try.prog 33 #[.slice A l.length c] w (RowPost w 32 9 (l.map Kn.d).length ((l.map Kn.d).flatMap Dt.cells)) := by
  have hn' : (l.length : Int) ≤ 1000 := by omega
  go_enter Try.func33, Try.ntmps33
  go_wp2_with fail
  go_loopg [3, 8] l.length (fun g v i wr => DsRel w l g v i wr)
  case atStart => exact ⟨0, Nat.zero_le _, rfl, rfl, Ext.refl w, own_nil _ _ _ _ _⟩
  case round =>
    obtain ⟨j, hj, rfl, rfl, hE, hown⟩ := hrel
    by_cases hlt : j < l.length
    · obtain ⟨b, off, rfl, p0, p1, p2, p3, p4, p5, p6, p7, p8, p9⟩ := Kn.at_ (hs.ext hE) hlt
      have HT := Lib.hid (map_take_succ l j hlt)
      have HL : ((l.take j).map Kn.d).length ≤ l.length := by rw [List.length_map, List.length_take]; omega
      obtain ⟨x, hx⟩ : ∃ x, l[j] = x := ⟨_, rfl⟩
      rw [hx] at p0 p1 p2 p3 p4 p5 p6 p7 p8 p9 HT
      clear hx
      have hz := hE.size
      obtain ⟨L, hL⟩ : ∃ L, (l.take j).map Kn.d = L := ⟨_, rfl⟩
      rw [hL] at HT HL hown
      clear hL
      go_wp2_with (at_builtin; refine wpList_push_at Dt.cells 9 72 Dt.len Dt.one (by omega) rfl _ _ _ rfl w.heap.size 32 Try.underlying56 (by kernel_rfl) u3 L x.d (wr.heap.size + 1) rfl (hown.alloc _) rfl (by first | rfl | simp) (by unfold maxLen; omega) (by omega) (by simp; omega) ?_; intro v' w6 hown6 hg6)
      have hE6 : Ext w w6 := Ext.own (hE.allocs _) (hown.alloc _) (Nat.le_refl _) hg6
      go_roundg (l.length - (j + 1))
      case measure => omega
      case rel => exact ⟨j + 1, by omega, by go_num, rfl, hE6, by rw [HT.out]; exact hown6⟩
    · obtain rfl : j = l.length := by omega
      rw [List.take_of_length_le (Nat.le_refl _)] at hown
      go_wp2_with fail
      go_ret
      exact ⟨_, rfl, hown, hE⟩
end Go.Proofs.Ytfnnoncdocghjaa
namespace Go.Proofs.Ytfnnoncdocghjaa
open Go.RowKit
set_option linter.unusedVariables false

structure Mg where
  frm : Nat
  dst : Nat
  idx : Nat
  ord : Nat
  kn : List Kn
structure Cm where
  ords : List Nat
  fl : List Mg
  ev : List (List Ev)
  kn : List (List Kn)
structure Av where
  kind : Int
  proc : Int
  other : Int
def startV (n : Nat) : Cm := ⟨List.replicate n 0, [], List.replicate n [], List.replicate n []⟩
def okProc (n : Nat) (p : Int) : Bool := decide (0 ≤ p) && decide (p < n)
def canSend (n : Nat) (s : Cm) (p o : Int) : Bool := okProc n p && okProc n o && (p != o) && decide (s.fl.length < 256)
def sendV (f : Int) (s : Cm) (a b : Nat) : Cm :=
  ⟨s.ords.set a (s.ords.getD a 0 + 1), s.fl ++ [⟨a, b, (s.ev.getD a []).length, s.ords.getD a 0, (s.kn.getD a []).filter (keepF f)⟩], s.ev, s.kn⟩
def mgD : Mg := ⟨0, 0, 0, 0, []⟩
def canRecv (s : Cm) (o : Int) : Bool := decide (0 ≤ o) && decide (o < s.fl.length) && decide ((s.ev.getD (s.fl.getD o.toNat mgD).dst []).length < 64)
def evOf (m : Mg) : Ev := ⟨1, 0, m.frm, 0, m.idx, m.ord, 0⟩
def mergeV (b : Int) (x y : List Kn) : List Kn := (memV (x ++ y)).map (orB b)
def recvV (s : Cm) (i : Nat) : Cm :=
  let m := s.fl.getD i mgD
  let q := m.dst
  let es := s.ev.getD q []
  ⟨s.ords.set q 0, s.fl.eraseIdx i, s.ev.set q (es ++ [evOf m]), s.kn.set q (memV (mergeV (2 ^ q) (s.kn.getD q []) m.kn ++ [⟨⟨q, (es.length : Int) + 1, evOf m⟩, 2 ^ q⟩]))⟩
def ckptV (n : Nat) (s : Cm) (p : Nat) : Cm := ⟨s.ords, s.fl, s.ev, s.kn.set p ((s.kn.getD p []).map (stK n))⟩
def actV (n : Nat) (f : Int) (s : Cm) (a : Av) : Cm :=
  if a.kind = 1 then if canSend n s a.proc a.other then sendV f s a.proc.toNat a.other.toNat else s
  else if a.kind = 2 then if canRecv s a.other then recvV s a.other.toNat else s
  else if a.kind = 3 then if okProc n a.proc then ckptV n s a.proc.toNat else s
  else s
def playV (n : Nat) (f : Int) (l : List Av) : Cm := l.foldl (actV n f) (startV n)
theorem playV_take (n : Nat) (f : Int) (l : List Av) (j : Nat) (hj : j < l.length) : playV n f (l.take (j + 1)) = actV n f (playV n f (l.take j)) l[j] := by
  unfold playV
  rw [List.take_succ_eq_append_getElem hj, List.foldl_append]
  rfl

/-! ### what is bounded -/
theorem nodup_le {l G : List Dt} (h : AscD l) (hs : ∀ d ∈ l, d ∈ G) : l.length ≤ G.length := by
  induction l generalizing G with
  | nil => exact Nat.zero_le _
  | cons x l ih =>
    obtain ⟨h1, h2⟩ := List.pairwise_cons.1 h
    obtain ⟨a, b, rfl⟩ := List.append_of_mem (hs x (List.mem_cons_self ..))
    have := ih (G := a ++ b) h2 fun d hd => by
      have hne : d ≠ x := fun e => by
        have h3 := h1 d hd
        rw [e] at h3
        have := cmpD_anti x x
        omega
      have h4 := hs d (List.mem_cons_of_mem _ hd)
      simp only [List.mem_append, List.mem_cons] at h4 ⊢
      rcases h4 with h4 | h4 | h4
      · exact .inl h4
      · exact absurd h4 hne
      · exact .inr h4
    simp only [List.length_append, List.length_cons] at this ⊢
    omega
structure KnOk (G : List Dt) (l : List Kn) : Prop where
  asc : AscD (l.map Kn.d)
  mem : ∀ k ∈ l, k.d ∈ G
  ok : ∀ k ∈ l, okH k.h
theorem KnOk.len {G : List Dt} {l : List Kn} (h : KnOk G l) : l.length ≤ G.length := by
  have := nodup_le h.asc (G := G) fun d hd => by
    obtain ⟨k, hk, rfl⟩ := List.mem_map.1 hd
    exact h.mem k hk
  simpa using this
theorem KnOk.nil (G : List Dt) : KnOk G [] := ⟨List.Pairwise.nil, by simp, by simp⟩
theorem KnOk.more {G G' : List Dt} {l : List Kn} (h : KnOk G l) (hG : ∀ d ∈ G, d ∈ G') : KnOk G' l := ⟨h.asc, fun k hk => hG _ (h.mem k hk), h.ok⟩
theorem KnOk.filter {G : List Dt} {l : List Kn} (h : KnOk G l) (f : Kn → Bool) : KnOk G (l.filter f) :=
  ⟨h.asc.sublist (List.filter_sublist.map _), fun k hk => h.mem k (List.mem_filter.1 hk).1, fun k hk => h.ok k (List.mem_filter.1 hk).1⟩
theorem KnOk.map {G : List Dt} {l : List Kn} (h : KnOk G l) (f : Kn → Kn) (hd : ∀ k, (f k).d = k.d) (hf : ∀ k, okH k.h → okH (f k).h) : KnOk G (l.map f) := by
  refine ⟨?_, fun k hk => ?_, fun k hk => ?_⟩
  · rw [List.map_map, show Kn.d ∘ f = Kn.d from funext hd]; exact h.asc
  · obtain ⟨x, hx, rfl⟩ := List.mem_map.1 hk
    rw [hd]; exact h.mem x hx
  · obtain ⟨x, hx, rfl⟩ := List.mem_map.1 hk
    exact hf x (h.ok x hx)
theorem KnOk.memV {G : List Dt} {l : List Kn} (hm : ∀ k ∈ l, k.d ∈ G) (hok : ∀ k ∈ l, okH k.h) : KnOk G (memV l) := by
  have h := memV_of l hok
  refine ⟨h.asc, fun k hk => ?_, h.ok⟩
  obtain ⟨x, hx, e⟩ := (h.dets k.d).1 ⟨k, hk, rfl⟩
  rw [← e]; exact hm x hx
structure MgOk (n t : Nat) (G : List Dt) (m : Mg) : Prop where
  k : KnOk G m.kn
  f : m.frm < n
  d : m.dst < n
  i : m.idx ≤ 64
  o : m.ord ≤ t
structure WF (n t : Nat) (s : Cm) : Prop where
  o : s.ords.length = n
  e : s.ev.length = n
  k : s.kn.length = n
  fl : s.fl.length ≤ t
  f256 : s.fl.length ≤ 256
  ol : ∀ x ∈ s.ords, x ≤ t
  el : ∀ x ∈ s.ev, x.length ≤ 64
  g : ∃ G : List Dt, G.length ≤ t ∧ (∀ l ∈ s.kn, KnOk G l) ∧ ∀ m ∈ s.fl, MgOk n t G m
theorem getD_mem {α : Type} (l : List α) (i : Nat) (d : α) (h : i < l.length) : l.getD i d ∈ l := by
  rw [List.getD_eq_getElem?_getD, List.getElem?_eq_getElem h]; exact List.getElem_mem h
theorem okH_pow {m : Nat} (h : m < 32) : okH ((2 : Int) ^ m) := by
  have : ∀ i : Fin 32, okH ((2 : Int) ^ i.val) := by unfold okH; decide
  exact this ⟨m, h⟩
theorem okH_all {m : Nat} (h : m ≤ 32) : okH ((2 : Int) ^ m - 1) := by
  have : ∀ i : Fin 33, okH ((2 : Int) ^ i.val - 1) := by unfold okH; decide
  exact this ⟨m, by omega⟩
theorem stK_ok {m : Nat} (h : m ≤ 32) (k : Kn) (hk : okH k.h) : okH (stK m k).h := orB_ok (okH_all h) hk
theorem WF.start (n : Nat) : WF n 0 (startV n) := by
  refine ⟨by simp [startV], by simp [startV], by simp [startV], Nat.le_refl _, Nat.zero_le _, fun x hx => ?_, fun x hx => ?_, [], Nat.le_refl _, fun l hl => ?_, fun m hm => ?_⟩
  · rw [(List.mem_replicate.1 hx).2]; exact Nat.le_refl _
  · rw [(List.mem_replicate.1 hx).2]; exact Nat.zero_le _
  · rw [(List.mem_replicate.1 hl).2]; exact KnOk.nil _
  · cases hm
theorem MgOk.more {n t t' : Nat} {G G' : List Dt} {m : Mg} (h : MgOk n t G m) (ht : t ≤ t') (hG : ∀ d ∈ G, d ∈ G') : MgOk n t' G' m := ⟨h.k.more hG, h.f, h.d, h.i, Nat.le_trans h.o ht⟩
theorem WF.more {n t t' : Nat} {s : Cm} (h : WF n t s) (ht : t ≤ t') : WF n t' s := by
  obtain ⟨G, h1, h2, h3⟩ := h.g
  exact ⟨h.o, h.e, h.k, Nat.le_trans h.fl ht, h.f256, fun x hx => Nat.le_trans (h.ol x hx) ht, h.el, G, Nat.le_trans h1 ht, h2, fun m hm => (h3 m hm).more ht fun _ hd => hd⟩
theorem okProc_iff {n : Nat} {p : Int} : okProc n p = true ↔ 0 ≤ p ∧ p < n := by simp [okProc]
theorem canSend_iff {n : Nat} {s : Cm} {p o : Int} : canSend n s p o = true ↔ (0 ≤ p ∧ p < n) ∧ (0 ≤ o ∧ o < n) ∧ p ≠ o ∧ s.fl.length < 256 := by
  simp [canSend, okProc_iff, and_assoc]
theorem canRecv_iff {s : Cm} {o : Int} : canRecv s o = true ↔ 0 ≤ o ∧ o < s.fl.length ∧ (s.ev.getD (s.fl.getD o.toNat mgD).dst []).length < 64 := by
  simp [canRecv, and_assoc]
theorem mem_set {α : Type} {l : List α} {i : Nat} {x y : α} (h : y ∈ l.set i x) : y = x ∨ y ∈ l := (List.mem_or_eq_of_mem_set h).symm
theorem WF.send {n t : Nat} {f : Int} {s : Cm} {a b : Nat} (h : WF n t s) (ha : a < n) (hb : b < n) (hl : s.fl.length < 256) : WF n (t + 1) (sendV f s a b) := by
  obtain ⟨G, h1, h2, h3⟩ := h.g
  have hk := h2 _ (getD_mem s.kn a [] (by rw [h.k]; exact ha))
  have he := h.el _ (getD_mem s.ev a [] (by rw [h.e]; exact ha))
  have ho := h.ol _ (getD_mem s.ords a 0 (by rw [h.o]; exact ha))
  have h5 := h.fl
  refine ⟨by simp [sendV, h.o], h.e, h.k, ?_, ?_, fun x hx => ?_, h.el, G, by omega, h2, fun m hm => ?_⟩
  · simp [sendV]; omega
  · simp [sendV]; omega
  · rcases mem_set hx with rfl | hx
    · omega
    · have := h.ol x hx; omega
  · rcases List.mem_append.1 hm with hm | hm
    · exact (h3 m hm).more (Nat.le_succ _) fun _ hd => hd
    · rw [List.mem_singleton] at hm
      subst hm
      exact ⟨hk.filter _, ha, hb, he, Nat.le_trans ho (Nat.le_succ _)⟩
theorem WF.recv {n t : Nat} {s : Cm} {i : Nat} (h : WF n t s) (hn : n ≤ 32) (hi : i < s.fl.length) (hl : (s.ev.getD (s.fl.getD i mgD).dst []).length < 64) : WF n (t + 1) (recvV s i) := by
  obtain ⟨G, h1, h2, h3⟩ := h.g
  have hm := h3 _ (getD_mem s.fl i mgD hi)
  unfold recvV
  generalize s.fl.getD i mgD = m at *
  obtain ⟨hmk, hmf, hmd, hmi, hmo⟩ := hm
  have hk := h2 _ (getD_mem s.kn m.dst [] (by rw [h.k]; exact hmd))
  dsimp only
  generalize s.kn.getD m.dst [] = K at *
  generalize s.ev.getD m.dst [] = es at *
  have h5 := h.fl
  have hpow := okH_pow (m := m.dst) (by omega)
  have hMo : ∀ k ∈ mergeV (2 ^ m.dst) K m.kn, okH k.h ∧ k.d ∈ G := fun k hk' => by
    obtain ⟨x, hx, rfl⟩ := List.mem_map.1 hk'
    have := KnOk.memV (G := G) (l := K ++ m.kn) (fun y hy => by rcases List.mem_append.1 hy with hy | hy; exact hk.mem y hy; exact hmk.mem y hy) (fun y hy => by rcases List.mem_append.1 hy with hy | hy; exact hk.ok y hy; exact hmk.ok y hy)
    exact ⟨orB_ok hpow (this.ok x hx), this.mem x hx⟩
  refine ⟨by simp [h.o], by simp [h.e], by simp [h.k], ?_, ?_, fun x hx => ?_, fun x hx => ?_, ⟨m.dst, (es.length : Int) + 1, evOf m⟩ :: G, by simp; omega, fun l hl' => ?_, fun m' hm' => ?_⟩
  · have := List.length_eraseIdx_le s.fl i
    dsimp only; omega
  · have := List.length_eraseIdx_le s.fl i
    have := h.f256
    dsimp only; omega
  · rcases mem_set hx with rfl | hx
    · omega
    · have := h.ol x hx; omega
  · rcases mem_set hx with rfl | hx
    · simp; omega
    · exact h.el x hx
  · rcases mem_set hl' with rfl | hl'
    · refine KnOk.memV (fun k hk' => ?_) (fun k hk' => ?_)
      · rcases List.mem_append.1 hk' with hk' | hk'
        · exact List.mem_cons_of_mem _ (hMo k hk').2
        · rw [List.mem_singleton] at hk'; subst hk'; exact List.mem_cons_self ..
      · rcases List.mem_append.1 hk' with hk' | hk'
        · exact (hMo k hk').1
        · rw [List.mem_singleton] at hk'; subst hk'; exact hpow
    · exact (h2 l hl').more fun _ hd => List.mem_cons_of_mem _ hd
  · exact (h3 m' (List.mem_of_mem_eraseIdx hm')).more (Nat.le_succ _) fun _ hd => List.mem_cons_of_mem _ hd
theorem WF.ckpt {n t : Nat} {s : Cm} {p : Nat} (h : WF n t s) (hn : n ≤ 32) (hp : p < n) : WF n t (ckptV n s p) := by
  obtain ⟨G, h1, h2, h3⟩ := h.g
  have hk := h2 _ (getD_mem s.kn p [] (by rw [h.k]; exact hp))
  refine ⟨h.o, h.e, by simp [ckptV, h.k], h.fl, h.f256, h.ol, h.el, G, h1, fun l hl => ?_, h3⟩
  rcases mem_set hl with rfl | hl
  · exact hk.map _ (fun _ => rfl) (fun k hk => stK_ok hn k hk)
  · exact h2 l hl
theorem WF.act {n t : Nat} {f : Int} {s : Cm} {a : Av} (h : WF n t s) (hn : n ≤ 32) : WF n (t + 1) (actV n f s a) := by
  unfold actV
  split
  · split
    · rename_i hc
      obtain ⟨⟨h1, h2⟩, ⟨h3, h4⟩, h5, h6⟩ := canSend_iff.1 hc
      exact h.send (by omega) (by omega) h6
    · exact h.more (Nat.le_succ _)
  · split
    · split
      · rename_i hc
        obtain ⟨h1, h2, h3⟩ := canRecv_iff.1 hc
        exact h.recv hn (by omega) h3
      · exact h.more (Nat.le_succ _)
    · split
      · split
        · rename_i hc
          obtain ⟨h1, h2⟩ := okProc_iff.1 hc
          exact (h.ckpt hn (by omega)).more (Nat.le_succ _)
        · exact h.more (Nat.le_succ _)
      · exact h.more (Nat.le_succ _)
theorem WF.play (n : Nat) (f : Int) (hn : n ≤ 32) (l : List Av) : ∀ j, j ≤ l.length → WF n j (playV n f (l.take j)) := by
  intro j
  induction j with
  | zero => intro _; exact WF.start n
  | succ j ih => intro hj; rw [playV_take n f l j hj]; exact (ih (by omega)).act hn
end Go.Proofs.Ytfnnoncdocghjaa
namespace Go.Proofs.Ytfnnoncdocghjaa
open Go.RowKit Go.Shelf Go.Lib
set_option linter.unusedVariables false
set_option maxRecDepth 100000

abbrev Kn.val (k : Kn) : Value := .agg #[.int .i64 k.d.proc, .int .i64 k.d.index, .int .i64 k.d.ev.kind, .int .i64 k.d.ev.inc, .int .i64 k.d.ev.frm, .int .i64 k.d.ev.sinc, .int .i64 k.d.ev.sidx, .int .i64 k.d.ev.ord, .int .i64 k.d.ev.val, .int .u32 k.h]
set_option maxHeartbeats 1600000 in
theorem add_any (A : Option Addr) (c : Nat) (l : List Kn) (k : Kn) (w : World) (hs : KnSeg w A l) (hn : l.length ≤ 700) (hok : ∀ x ∈ l ++ [k], okH x.h) :
    Calls Try.prog 19 #[.slice A l.length c, .agg #[.int .i64 k.d.proc, .int .i64 k.d.index, .int .i64 k.d.ev.kind, .int .i64 k.d.ev.inc, .int .i64 k.d.ev.frm, .int .i64 k.d.ev.sinc, .int .i64 k.d.ev.sidx, .int .i64 k.d.ev.ord, .int .i64 k.d.ev.val, .int .u32 k.h]] w (OwnPostK (memV (l ++ [k])) w) := by
  have h0 : Hid (KnSeg ((w.alloc (.cells k.cells.toArray 34)).alloc (.cells k.cells.toArray 34)) (some ⟨w.heap.size + 1, 0, none⟩) [k]) := by
    have hb : Blk ((w.alloc (.cells k.cells.toArray 34)).alloc (.cells k.cells.toArray 34)) (w.heap.size + 1) 34 ([k].flatMap Kn.cells).toArray := by
      have := Blk.new (w.alloc (.cells k.cells.toArray 34)) 34 k.cells.toArray
      simpa using this
    exact Seg.ofBlkK hb rfl
  have HS := Lib.hid hs
  have HOK := Lib.hid hok
  clear hs hok
  have hE : Ext w ((w.alloc (.cells k.cells.toArray 34)).alloc (.cells k.cells.toArray 34)) := ((Ext.refl w).allocs _).allocs _
  have HE := Lib.hid hE
  clear hE
  have HM : Hid (∀ gS, gS = ((w.alloc (.cells k.cells.toArray 34)).alloc (.cells k.cells.toArray 34)).heap.size → Calls Try.prog 45 #[.slice (some ⟨gS, 0, none⟩) 2 2] (((w.alloc (.cells k.cells.toArray 34)).alloc (.cells k.cells.toArray 34)).alloc (.cells #[.slice A l.length c, .slice (some ⟨w.heap.size + 1, 0, none⟩) 1 1] 26)) (OwnPostK (memV (l ++ [k])) (((w.alloc (.cells k.cells.toArray 34)).alloc (.cells k.cells.toArray 34)).alloc (.cells #[.slice A l.length c, .slice (some ⟨w.heap.size + 1, 0, none⟩) 1 1] 26)))) := by
    intro gS e
    subst e
    exact memory_any _ A (some ⟨w.heap.size + 1, 0, none⟩) c 1 l [k] _ (Blk.new _ _ _) ((HS.out.ext HE.out).alloc _) (h0.out.alloc _) hn (by simp) HOK.out
  clear h0
  go_enter Try.func19, Try.ntmps19
  go_wp2_with (refine (HM.out _ ?_).mono ?_; · (first | rfl | simp))
  rintro e w1 ⟨v, rfl, hown, hE1⟩
  clear HM
  have HO := Lib.hid hown
  have HE1 := Lib.hid hE1
  clear hown hE1
  go_wp2_with fail
  go_ret
  have hX := Ext.trans (Ext.allocs HE.out _) HE1.out
  exact ⟨v, rfl, own_base HO.out ((HE.out.allocs _).size), hX⟩

/-- the first j elements are changed -/
def mapTo (f : Kn → Kn) (l : List Kn) (j : Nat) : List Kn := (l.take j).map f ++ l.drop j
theorem mapTo_zero (f : Kn → Kn) (l : List Kn) : mapTo f l 0 = l := by simp [mapTo]
theorem mapTo_all (f : Kn → Kn) (l : List Kn) : mapTo f l l.length = l.map f := by simp [mapTo]
theorem mapTo_len (f : Kn → Kn) (l : List Kn) (j : Nat) : (mapTo f l j).length = l.length := by simp [mapTo]; omega
theorem mapTo_at (f : Kn → Kn) (l : List Kn) (j : Nat) (hj : j < l.length) : (mapTo f l j)[j]? = some l[j] := by
  unfold mapTo
  rw [List.getElem?_append_right (by simp; omega)]
  simp only [List.length_map, List.length_take, List.getElem?_drop]
  rw [show j + (j - min j l.length) = j by omega]
  exact List.getElem?_eq_getElem hj
theorem mapTo_succ (f : Kn → Kn) (l : List Kn) (j : Nat) (hj : j < l.length) : (mapTo f l j).set j (f l[j]) = mapTo f l (j + 1) := by
  apply List.ext_getElem?
  intro i
  rw [List.getElem?_set, mapTo_len]
  unfold mapTo
  by_cases h : j = i
  · subst h
    rw [if_pos rfl, if_pos hj, List.getElem?_append_left (by simp; omega), List.getElem?_map, List.getElem?_take_of_lt (by omega), List.getElem?_eq_getElem hj]
    rfl
  · rw [if_neg h]
    by_cases hi : i < j
    · rw [List.getElem?_append_left (by simp; omega), List.getElem?_append_left (by simp; omega), List.getElem?_map, List.getElem?_map, List.getElem?_take_of_lt hi, List.getElem?_take_of_lt (by omega)]
    · rw [List.getElem?_append_right (by simp; omega), List.getElem?_append_right (by simp; omega)]
      simp only [List.length_map, List.length_take, List.getElem?_drop]
      congr 1
      omega
def MjRel (w0 : World) (g0 c0 : Nat) (L : List Kn) (f : Kn → Kn) (g : Nat) (i : Value) (wr : World) : Prop := ∃ j : Nat, j ≤ L.length ∧ i = .int .i64 j ∧ g = L.length - j ∧ Ext w0 wr ∧ wr.ownsRow w0.heap.size 34 10 (.slice (some ⟨g0, 0, none⟩) L.length c0) L.length ((mapTo f L j).flatMap Kn.cells)
theorem orB_all {b : Int} (l : List Kn) (hl : ∀ k ∈ l, okH k.h) (hb : b = 0) : l.map (orB b) = l := by
  subst hb
  have : ∀ k ∈ l, orB 0 k = k := fun k hk => orB_zero (hl k hk)
  rw [List.map_congr_left this, List.map_id']
set_option maxHeartbeats 1600000 in
theorem merge_code (A B : Option Addr) (ca cb : Nat) (a b : List Kn) (self : Int) (w : World) (ha : KnSeg w A a) (hb : KnSeg w B b) (hla : a.length ≤ 700) (hlb : b.length ≤ 300) (hok : ∀ k ∈ a ++ b, okH k.h) :
    Calls Try.prog 21 #[.slice A a.length ca, .slice B b.length cb, .int .i64 self] w (OwnPostK (mergeV (bitV self) a b) w) := by
  have HC := Lib.hid (memory_any w.heap.size A B ca cb a b (w.alloc (.cells #[.slice A a.length ca, .slice B b.length cb] 26)) (Blk.new w _ _) (ha.alloc _) (hb.alloc _) hla hlb hok)
  have HOK : Hid (∀ k ∈ memV (a ++ b), okH k.h) := (memV_of _ hok).ok
  have hLl : (memV (a ++ b)).length ≤ 1000 := by have := memV_len (a ++ b); rw [List.length_append] at this; omega
  unfold mergeV
  clear ha hb hok
  generalize memV (a ++ b) = L at HC hLl HOK ⊢
  clear hla hlb
  by_cases hin : 0 ≤ self ∧ self < 32
  · obtain ⟨q, rfl⟩ : ∃ q : Nat, self = (q : Int) := ⟨self.toNat, by omega⟩
    have hq32 : (q : Int) < 32 := hin.2
    have hq0 : (0 : Int) ≤ (q : Int) := by omega
    clear hin
    have HV : Hid (bitV (q : Int) = (2 : Int) ^ q % 4294967296) := by
      show bitV (q : Int) = _
      unfold bitV
      rw [if_neg (by omega), Int.toNat_natCast]
      have h : ∀ i : Fin 32, (2 : Int) ^ i.val = (2 : Int) ^ i.val % 4294967296 := by decide
      exact h ⟨q, by omega⟩
    go_enter Try.func21, Try.ntmps21
    go_wp2_with fail
    refine HC.out.mono ?_
    rintro e w1 ⟨v, rfl, hown, hE1⟩
    clear HC
    have HO1 : Hid (w1.ownsRow w.heap.size 34 10 v L.length (L.flatMap Kn.cells)) := own_base hown (by simp)
    have HE1 : Hid (Ext w w1) := Ext.trans ((Ext.refl w).allocs _) hE1
    clear hown hE1
    rcases own_two HO1.out with ⟨rfl, hn⟩ | ⟨g0, c0, rfl⟩
    · have hl : L = [] := List.eq_nil_of_length_eq_zero hn
      subst hl
      go_wp2_with fail
      go_loopg [21] 0 (fun g i wr => i = .int .i64 0 ∧ g = 0 ∧ wr = w1)
      case atStart => exact ⟨rfl, rfl, rfl⟩
      case round =>
        obtain ⟨rfl, rfl, rfl⟩ := hrel
        go_wp2_with fail
        go_ret
        exact ⟨_, rfl, HO1.out, HE1.out⟩
    · go_wp2_with fail
      go_loopg [21] L.length (fun g i wr => MjRel w g0 c0 L (orB (bitV q)) g i wr)
      case atStart => exact ⟨0, Nat.zero_le _, rfl, rfl, HE1.out, by rw [mapTo_zero]; exact HO1.out⟩
      case round =>
        obtain ⟨j, hj, rfl, rfl, hE, hown⟩ := hrel
        have HO := Lib.hid hown
        have HE := Lib.hid hE
        clear hown hE
        by_cases hlt : j < L.length
        · have HX : Hid (∀ W, Ext wr W → W.cell? ⟨g0, j * 10 + 9, none⟩ = some (.int .u32 (L[j]).h)) := fun W hW => by
            have h1 := own_ext HO.out hW
            rw [h1.cellAt (j * 10 + 9) (by omega), flat_get Kn.cells 10 Kn.len _ j 9 L[j] (mapTo_at _ L j hlt) (by omega)]
            rfl
          have HT := Lib.hid (mapTo_succ (orB (bitV q)) L j hlt)
          have HTl := Lib.hid (mapTo_len (orB (bitV q)) L j)
          have HTa := Lib.hid (mapTo_at (orB (bitV q)) L j hlt)
          obtain ⟨x, hx⟩ : ∃ x, L[j] = x := ⟨_, rfl⟩
          rw [hx] at HX HT HTa
          clear hx
          have hj0 : (0 : Int) ≤ (j : Int) := by omega
          have hj1 : (j : Int) < (L.length : Int) := by omega
          have HEN : Hid ((orB (bitV q) x).h = bits .or .u32 x.h ((2 : Int) ^ q % 4294967296)) := by show bits .or .u32 x.h (bitV q) = _; rw [HV.out]
          go_wp2_with fail
          refine wp_region_sched (by kernel_rfl) 10 [(0, true), (1, true), (2, true), (3, true), (4, true), (5, true), (6, true), (7, true), (8, true), (9, true), (10, false)] (fun W => W.cell? ⟨g0, j * 10 + 9, none⟩ = some (.int .u32 x.h)) (by kernel_rfl) (fun _ _ dd _ _ h => by cases dd <;> exact h) (HX.out _ (Below.drew (Ext.refl wr))) (fun hHeld => ?_)
          iterate 10 ((refine sched_read (v := ?_) rfl (Or.inl ⟨by rfl, ?_⟩) hHeld ?_; rotate_left 1; · (intro w' hSw; go_simp; (first | done | with_reducible rfl))); (try simp only [Act.put, List.setIfInBounds_toArray, List.set_cons_zero, List.set_cons_succ]))
          have hb : (mapTo (orB (bitV q)) L j).length = L.length := HTl.out
          have h1 := own_setH (own_ext HO.out (Below.drew (Ext.refl wr))) (i := j) (by rw [hb]; exact hlt) (orB (bitV q) x) (by have := HTa.out; rw [List.getElem?_eq_getElem (by rw [hb]; exact hlt)] at this; injection this with this; rw [this]; rfl)
          rw [HT.out, HEN.out] at h1
          have HOa := Lib.hid h1
          have HEb : Hid (Ext w (wr.drew.setCell ⟨g0, j * 10 + 9, none⟩ (.int .u32 (bits .or .u32 x.h ((2 : Int) ^ q % 4294967296))))) := Below.setCell (Below.drew HE.out) ((HO.out.lt g0 rfl).1) _
          have hfz : wr.drew.frozen? ⟨g0, j * 10 + 9, none⟩ = false := (own_ext HO.out (Below.drew (Ext.refl wr))).frozenAt _
          clear h1 hb
          refine sched_tail rfl (by decide) (fun K hK => ?_)
          go_simp
          refine hK.out _ _ ?_
          clear hK K
          refine sched_done ?_
          go_wp2_with fail
          go_roundg (L.length - (j + 1))
          case measure => omega
          case rel => exact ⟨j + 1, by omega, by go_num, rfl, HEb.out, HOa.out⟩
        · obtain rfl : j = L.length := by omega
          go_wp2_with fail
          go_ret
          refine ⟨_, rfl, ?_, HE.out⟩
          have h1 := HO.out
          rw [mapTo_all] at h1
          rw [List.length_map]
          exact h1
  · have HV : Hid (L.map (orB (bitV self)) = L) := orB_all L HOK.out (by unfold bitV; rw [if_pos (by omega)])
    rw [HV.out]
    clear HV
    by_cases h0 : self < 0
    · go_enter Try.func21, Try.ntmps21
      go_wp2_with fail
      refine HC.out.mono ?_
      rintro e w1 ⟨v, rfl, hown, hE1⟩
      have HO1 : Hid (w1.ownsRow w.heap.size 34 10 v L.length (L.flatMap Kn.cells)) := own_base hown (by simp)
      have HE1 : Hid (Ext w w1) := Ext.trans ((Ext.refl w).allocs _) hE1
      clear hown hE1 HC
      go_wp2_with fail
      go_ret
      exact ⟨_, rfl, HO1.out, HE1.out⟩
    · have h1 : 32 ≤ self := by omega
      go_enter Try.func21, Try.ntmps21
      go_wp2_with fail
      refine HC.out.mono ?_
      rintro e w1 ⟨v, rfl, hown, hE1⟩
      have HO1 : Hid (w1.ownsRow w.heap.size 34 10 v L.length (L.flatMap Kn.cells)) := own_base hown (by simp)
      have HE1 : Hid (Ext w w1) := Ext.trans ((Ext.refl w).allocs _) hE1
      clear hown hE1 HC
      go_wp2_with fail
      go_ret
      exact ⟨_, rfl, HO1.out, HE1.out⟩
end Go.Proofs.Ytfnnoncdocghjaa
namespace Go.Proofs.Ytfnnoncdocghjaa
open Go.RowKit Go.Shelf Go.Lib
set_option linter.unusedVariables false
set_option maxRecDepth 100000

theorem stK_zero {k : Kn} (hk : okH k.h) : stK 0 k = k := orB_zero hk
theorem okH_bit {b : Nat} (hb : b < 32) : okH ((2 : Int) ^ b % 4294967296) := by
  have : ∀ i : Fin 32, okH ((2 : Int) ^ i.val % 4294967296) := by unfold okH; decide
  exact this ⟨b, hb⟩
theorem stK_step {k : Kn} (hk : okH k.h) {b : Nat} (hb : b < 32) : bits .or .u32 (stK b k).h ((2 : Int) ^ b % 4294967296) = (stK (b + 1) k).h := by
  have h1 := stK_ok (m := b) (by omega) k hk
  have h2 := okH_all (m := b) (by omega)
  have h3 := okH_bit hb
  have h4 := okH_all (m := b + 1) (by omega)
  have e1 := (bits_u32 h1.1 h1.2 h3.1 h3.2).2.1
  have e2 := (bits_u32 hk.1 hk.2 h2.1 h2.2).2.1
  have e3 := (bits_u32 h2.1 h2.2 h3.1 h3.2).2.1
  have e4 := (bits_u32 hk.1 hk.2 h4.1 h4.2).2.1
  have e5 := or_low hb
  rw [e3] at e5
  rw [e1]
  show _ = bits .or .u32 k.h ((2 : Int) ^ (b + 1) - 1)
  rw [e4, ← e5, Int.toNat_natCast]
  show (((bits .or .u32 k.h ((2 : Int) ^ b - 1)).toNat ||| _ : Nat) : Int) = _
  rw [e2, Int.toNat_natCast, Nat.or_assoc]
def SjRel (w0 : World) (g0 c0 : Nat) (X : List Kn) (x : Kn) (jj n m : Nat) (g : Nat) (i : Value) (wr : World) : Prop := ∃ b : Nat, b ≤ m ∧ i = .int .i64 b ∧ g = m - b ∧ Ext w0 wr ∧ wr.ownsRow w0.heap.size 34 10 (.slice (some ⟨g0, 0, none⟩) n c0) n ((X.set jj (stK b x)).flatMap Kn.cells)
theorem set_same {X : List Kn} {j : Nat} {x : Kn} (h : X[j]? = some x) : X.set j x = X := by
  apply List.ext_getElem?
  intro i
  rw [List.getElem?_set]
  split
  · rename_i e; subst e; rw [if_pos (List.getElem?_eq_some_iff.1 h).1, h]
  · rfl
set_option maxHeartbeats 1600000 in
theorem stable_code (A : Option Addr) (c : Nat) (l : List Kn) (n : Int) (m : Nat) (hm : min (max n 0) 32 = (m : Int)) (w : World) (hs : KnSeg w A l) (hn : l.length ≤ 1000) (hok : ∀ k ∈ l, okH k.h) :
    Calls Try.prog 36 #[.slice A l.length c, .int .i64 n] w (OwnPostK (l.map (stK m)) w) := by
  have HC := Lib.hid (clone_any A c l w hs hn)
  have HOK := Lib.hid hok
  have hm32 : m ≤ 32 := by omega
  clear hs hok
  go_enter Try.func36, Try.ntmps36
  go_wp2_with fail
  refine HC.out.mono ?_
  rintro e w1 ⟨v, rfl, hown, hE1⟩
  have HO1 := Lib.hid hown
  have HE1 := Lib.hid hE1
  clear hown hE1 HC
  rcases own_two HO1.out with ⟨rfl, hn0⟩ | ⟨g0, c0, rfl⟩
  · have hl : l = [] := List.eq_nil_of_length_eq_zero hn0
    subst hl
    go_wp2_with fail
    go_loopg [12] 0 (fun g i wr => i = .int .i64 0 ∧ g = 0 ∧ wr = w1)
    case atStart => exact ⟨rfl, rfl, rfl⟩
    case round =>
      obtain ⟨rfl, rfl, rfl⟩ := hrel
      go_wp2_with fail
      go_ret
      exact ⟨_, rfl, HO1.out, HE1.out⟩
  · go_wp2_with fail
    go_loopg [12] l.length (fun g i wr => MjRel w g0 c0 l (stK m) g i wr)
    case atStart => exact ⟨0, Nat.zero_le _, rfl, rfl, HE1.out, by rw [mapTo_zero]; exact HO1.out⟩
    case round =>
      obtain ⟨j, hj, rfl, rfl, hE, hown⟩ := hrel
      have HO := Lib.hid hown
      have HE := Lib.hid hE
      clear hown hE
      by_cases hlt : j < l.length
      · have HT := Lib.hid (mapTo_succ (stK m) l j hlt)
        have HTl := Lib.hid (mapTo_len (stK m) l j)
        have HTa := Lib.hid (mapTo_at (stK m) l j hlt)
        have hxk : okH (l[j]).h := HOK.out _ (List.getElem_mem hlt)
        obtain ⟨x, hx⟩ : ∃ x, l[j] = x := ⟨_, rfl⟩
        rw [hx] at HT HTa hxk
        have HXK := Lib.hid hxk
        clear hx hxk
        obtain ⟨X, hX⟩ : ∃ X, mapTo (stK m) l j = X := ⟨_, rfl⟩
        rw [hX] at HT HTl HTa HO
        clear hX
        have hj0 : (0 : Int) ≤ (j : Int) := by omega
        have hj1 : (j : Int) < (l.length : Int) := by omega
        go_wp2_with fail
        go_loopg [7, 18] m (fun g b i wr => SjRel w g0 c0 X x j l.length m g i wr)
        case atStart =>
          refine ⟨0, Nat.zero_le _, rfl, rfl, HE.out, ?_⟩
          rw [stK_zero HXK.out, set_same HTa.out]
          exact HO.out
        case round =>
          clear HO HE
          obtain ⟨b, hb, rfl, rfl, hE, hown⟩ := hrel
          have HO := Lib.hid hown
          have HE := Lib.hid hE
          clear hown hE
          have HLs : Hid ((X.set j (stK b x)).length = l.length) := by show _ = _; rw [List.length_set]; exact HTl.out
          have HAt : Hid ((X.set j (stK b x))[j]? = some (stK b x)) := by show _ = _; rw [List.getElem?_set, if_pos rfl, if_pos (by rw [HTl.out]; exact hlt)]
          by_cases hbm : b < m
          · have hb0 : (0 : Int) ≤ (b : Int) := by omega
            have hbm' : (b : Int) < (m : Int) := by omega
            have hb32 : (b : Int) < 32 := by omega
            have HST := Lib.hid (stK_step HXK.out (b := b) (by omega))
            have HSS : Hid ((X.set j (stK b x)).set j (stK (b + 1) x) = X.set j (stK (b + 1) x)) := List.set_set ..
            have HX : Hid (∀ W, Ext wr W → W.cell? ⟨g0, j * 10 + 9, none⟩ = some (.int .u32 (stK b x).h)) := fun W hW => by
              have h1 := own_ext HO.out hW
              rw [h1.cellAt (j * 10 + 9) (by omega), flat_get Kn.cells 10 Kn.len _ j 9 _ HAt.out (by omega)]
              rfl
            obtain ⟨y, hy⟩ : ∃ y, stK b x = y := ⟨_, rfl⟩
            have hyd : y.d = x.d := by rw [← hy]; rfl
            rw [hy] at HST HSS HX HAt HLs HO
            clear hy
            have HYD := Lib.hid hyd
            clear hyd
            go_wp2_with fail
            refine wp_region_sched (by kernel_rfl) 10 [(0, true), (1, true), (2, true), (3, true), (4, true), (5, true), (6, true), (7, true), (8, true), (9, true), (10, false)] (fun W => W.cell? ⟨g0, j * 10 + 9, none⟩ = some (.int .u32 y.h)) (by kernel_rfl) (fun _ _ dd _ _ h => by cases dd <;> exact h) (HX.out _ (Below.drew (Ext.refl wr))) (fun hHeld => ?_)
            iterate 10 ((refine sched_read (v := ?_) rfl (Or.inl ⟨by rfl, ?_⟩) hHeld ?_; rotate_left 1; · (intro w' hSw; go_simp; (first | done | with_reducible rfl))); (try simp only [Act.put, List.setIfInBounds_toArray, List.set_cons_zero, List.set_cons_succ]))
            have h1 := own_setH (own_ext HO.out (Below.drew (Ext.refl wr))) (i := j) (by rw [HLs.out]; exact hlt) (stK (b + 1) x) (by have := HAt.out; rw [List.getElem?_eq_getElem (by rw [HLs.out]; exact hlt)] at this; injection this with this; rw [this, HYD.out]; rfl)
            rw [HSS.out, ← HST.out] at h1
            have HOa := Lib.hid h1
            have HEb : Hid (Ext w (wr.drew.setCell ⟨g0, j * 10 + 9, none⟩ (.int .u32 (bits .or .u32 y.h ((2 : Int) ^ b % 4294967296))))) := Below.setCell (Below.drew HE.out) ((HO.out.lt g0 rfl).1) _
            have hfz : wr.drew.frozen? ⟨g0, j * 10 + 9, none⟩ = false := (own_ext HO.out (Below.drew (Ext.refl wr))).frozenAt _
            clear h1
            refine sched_tail rfl (by decide) (fun K hK => ?_)
            go_simp
            refine hK.out _ _ ?_
            clear hK K
            refine sched_done ?_
            go_wp2_with fail
            go_roundg (m - (b + 1))
            case measure => omega
            case rel => exact ⟨b + 1, by omega, by go_num, rfl, HEb.out, HOa.out⟩
          · obtain rfl : b = m := by omega
            go_wp2_with fail
            go_roundg (l.length - (j + 1))
            case measure => omega
            case rel => exact ⟨j + 1, by omega, by go_num, rfl, HE.out, by rw [← HT.out]; exact HO.out⟩
      · obtain rfl : j = l.length := by omega
        go_wp2_with fail
        go_ret
        refine ⟨_, rfl, ?_, HE.out⟩
        have h1 := HO.out
        rw [mapTo_all] at h1
        rw [List.length_map]
        exact h1
end Go.Proofs.Ytfnnoncdocghjaa
namespace Go.Proofs.Ytfnnoncdocghjaa
open Go.RowKit
set_option linter.unusedVariables false

theorem Blk.set1 {w : World} {g o : Nat} {t : TypeId} {cs : Array Value} (h : Blk w g t cs) (v : Value) : Blk (w.setCell ⟨g, o, none⟩ v) g t (cs.setIfInBounds o v) := by
  unfold Blk at *
  rw [setCell_eq_setRow w g o cs t (0, 0) v h]
  exact setRow_heap w g cs _ t _ h
theorem Blk.sets {w : World} {g : Nat} {t : TypeId} : ∀ (vs : List Value) (o : Nat) (w : World) (cs : List Value), Blk w g t cs.toArray → Blk (w.setCells g o vs) g t (setAll cs o vs).toArray
  | [], _, _, _, h => h
  | v :: vs, o, w, cs, h => by
    rw [World.setCells, setAll]
    refine Blk.sets (w := w) vs (o + 1) _ (cs.set o v) ?_
    have := Blk.set1 h (o := o) v
    simpa using this
theorem Blk.setAt {α : Type} {f : α → List Value} {s : Nat} {w : World} {g : Nat} {t : TypeId} {l : List α} (h : Blk w g t (l.flatMap f).toArray) (hs : 0 < s) (hf : ∀ a, (f a).length = s) {j : Nat} (hj : j < l.length) (x : α) :
    Blk (w.setCells g (j * s) (f x)) g t ((l.set j x).flatMap f).toArray := by
  have := Blk.sets (w := w) (f x) (j * s) w (l.flatMap f) h
  rwa [setAll_flat f s hs hf l j x hj] at this
theorem Blk.setOther {w : World} {g g' : Nat} {t : TypeId} {cs : Array Value} (h : Blk w g t cs) (o : Nat) (vs : List Value) (hne : g ≠ g') : Blk (w.setCells g' o vs) g t cs := (World.heap_setCells_other w g' o vs h.lt hne).trans h
theorem Blk.thereAt {w : World} {g : Nat} {t : TypeId} {cs : Array Value} (h : Blk w g t cs) {o n : Nat} (hn : o + n ≤ cs.size) : w.there g o n := fun j hj => by
  rw [h.cell, h.frozen]
  exact ⟨by rw [Array.getElem?_eq_getElem (by omega)]; rfl, rfl⟩
theorem Blk.tabAt {α : Type} {f : α → List Value} {s : Nat} {w : World} {g : Nat} {t : TypeId} {l : List α} (h : Blk w g t (l.flatMap f).toArray) (hf : ∀ a, (f a).length = s) {i : Nat} {a : α} (hi : l[i]? = some a) {j : Nat} (hj : j < s) {u : Value} (hu : (f a)[j]? = some u) :
    w.cell? ⟨g, i * s + j, none⟩ = some u := by
  rw [h.cell, List.getElem?_toArray, flat_get f s hf l i j a hi hj, hu]
theorem made_flat {α : Type} (f : α → List Value) (s : Nat) (hs : 0 < s) (hf : ∀ a, (f a).length = s) (z : α) (zc : Array Value) (hz : zc = (f z).toArray) (n : Nat) : madeCells zc (n * s) = ((List.replicate n z).flatMap f).toArray := by
  subst hz
  apply Array.ext_getElem?
  intro q
  have e0 : ((List.replicate n z).flatMap f).toArray[q]? = ((List.replicate n z).flatMap f)[q]? := by simp
  rw [e0]
  by_cases hq : q < n * s
  · have hd : q / s < n := Nat.div_lt_of_lt_mul (by rw [Nat.mul_comm]; exact hq)
    have hm := Nat.mod_lt q hs
    have e : q / s * s + q % s = q := by rw [Nat.mul_comm]; exact Nat.div_add_mod q s
    have := flat_get f s hf (List.replicate n z) (q / s) (q % s) z (by simp [hd]) hm
    rw [e] at this
    rw [this]
    simp [madeCells, hq, hf, List.getElem?_eq_getElem (show q % s < (f z).length by rw [hf]; exact hm)]
  · rw [Array.getElem?_eq_none (by rw [size_madeCells]; omega), List.getElem?_eq_none (by rw [flat_len f s hf]; simp; omega)]
/-- a row of a list of lists -/
structure Gr (α : Type) where
  A : Option Addr
  c : Nat
  l : List α
def Gr.cells {α : Type} (r : Gr α) : List Value := [.slice r.A r.l.length r.c]
theorem Gr.len {α : Type} (r : Gr α) : r.cells.length = 1 := rfl
theorem Gr.one {α : Type} (r : Gr α) : ∀ u ∈ r.cells, u.oneCell' = true := by simp [Gr.cells, Value.oneCell']
def GSeg {α : Type} (f : α → List Value) (s : Nat) (W : World) (A : Option Addr) (R : List (Gr α)) : Prop := Seg W 1 A R.length (R.flatMap Gr.cells) ∧ ∀ r ∈ R, Seg W s r.A r.l.length (r.l.flatMap f) ∧ r.l.length ≤ r.c ∧ r.c ≤ maxLen
section
variable {α : Type} {f : α → List Value} {s : Nat} {W W' : World} {A : Option Addr} {R : List (Gr α)}
theorem GSeg.ext (h : GSeg f s W A R) (hE : Ext W W') : GSeg f s W' A R := ⟨h.1.ext hE, fun r hr => ⟨(h.2 r hr).1.ext hE, (h.2 r hr).2⟩⟩
theorem GSeg.at_ (h : GSeg f s W A R) {q : Nat} (hq : q < R.length) : ∃ b off, A = some ⟨b, off, none⟩ ∧ W.cell? ⟨b, off + q, none⟩ = some (.slice R[q].A R[q].l.length R[q].c) := by
  obtain ⟨b, off, hA, _, hc⟩ := Seg.at_ h.1 Gr.len hq
  have := hc 0 _ rfl
  exact ⟨b, off, hA, by simpa using this⟩
theorem GSeg.row (h : GSeg f s W A R) {q : Nat} (hq : q < R.length) : Seg W s R[q].A R[q].l.length (R[q].l.flatMap f) ∧ R[q].l.length ≤ R[q].c ∧ R[q].c ≤ maxLen := h.2 _ (List.getElem_mem hq)
theorem GSeg.nil : GSeg f s W none ([] : List (Gr α)) := ⟨Seg.nil, fun r hr => by cases hr⟩
end
theorem own_not {w : World} {base g : Nat} {e t : TypeId} {s n : Nat} {v : Value} {xs : List Value} {cs : Array Value} (h : w.ownsRow base e s v n xs) (hB : Blk w g t cs) (ht : t ≠ e) : v.ownBlock = none ∨ v.ownBlock ≠ some g := by
  rcases h.2 with ⟨rfl, _⟩ | ⟨g', cap, cur, rfl, _, hh, _⟩
  · exact .inl rfl
  · right
    intro e'
    simp only [Value.ownBlock, Option.some.injEq] at e'
    subst e'
    unfold Blk at hB
    rw [hh] at hB
    injection hB with hB
    injection hB with _ hB
    exact ht hB.symm
theorem own_nilv (w : World) (base : Nat) (e : TypeId) (s : Nat) : w.ownsRow base e s (.slice none 0 0) 0 [] := ⟨by simp, .inl ⟨rfl, rfl⟩⟩
abbrev Gr.val {α : Type} (r : Gr α) : Value := .slice r.A r.l.length r.c
structure GOwn {α : Type} (f : α → List Value) (sz : Nat) (t tR : TypeId) (W : World) (base gl : Nat) (R : List (Gr α)) : Prop where
  b : Blk W gl tR (R.flatMap Gr.cells).toArray
  r : ∀ (q : Nat) (s : Gr α), R[q]? = some s → W.ownsRow base t sz (Gr.val s) s.l.length (s.l.flatMap f)
  d : ∀ (p q : Nat) (s r0 : Gr α) (g : Nat), p ≠ q → R[p]? = some s → R[q]? = some r0 → (Gr.val s).ownBlock = some g → (Gr.val r0).ownBlock ≠ some g
theorem own_blk {w : World} {base g : Nat} {e : TypeId} {s n : Nat} {v : Value} {xs : List Value} (h : w.ownsRow base e s v n xs) (hv : v.ownBlock = some g) : ∃ cs, Blk w g e cs := by
  rcases h.2 with ⟨rfl, _⟩ | ⟨g', cap, cur, rfl, _, hh, _⟩
  · cases hv
  · simp only [Value.ownBlock, Option.some.injEq] at hv
    subst hv
    exact ⟨cur, hh⟩
theorem blk_type {w : World} {g : Nat} {t t' : TypeId} {cs cs' : Array Value} (h : Blk w g t cs) (h' : Blk w g t' cs') : t = t' := by
  unfold Blk at h h'
  rw [h] at h'
  injection h' with h'
  injection h' with _ h'
section
variable {α : Type} {f : α → List Value} {sz : Nat} {t tR : TypeId} {W W' : World} {base gl : Nat} {R : List (Gr α)}
theorem GOwn.ext (h : GOwn f sz t tR W base gl R) (hE : Ext W W') : GOwn f sz t tR W' base gl R := ⟨h.b.ext hE, fun q s hs => own_ext (h.r q s hs) hE, h.d⟩
/-- another block was written -/
theorem GOwn.far (h : GOwn f sz t tR W base gl R) {row : Option Nat} (hg : W.grownBy W' row) (hr : ∀ g, row = some g → gl ≠ g ∧ ∀ (q : Nat) (s : Gr α), R[q]? = some s → (Gr.val s).ownBlock ≠ some g) : GOwn f sz t tR W' base gl R :=
  ⟨(hg.block gl h.b.lt (fun e => (hr gl e.symm).1 rfl)).trans h.b, fun q s hs => (h.r q s hs).kept hg (by
    rcases row with _ | g
    · rcases e : (Gr.val s).ownBlock with _ | g'
      · exact .inl rfl
      · exact .inr (by simp)
    · exact .inr ((hr g rfl).2 q s hs)), h.d⟩
/-- a block of another type was written -/
theorem GOwn.typed (h : GOwn f sz t tR W base gl R) {row : Option Nat} (hg : W.grownBy W' row) (hr : ∀ g, row = some g → ∃ t' cs, Blk W g t' cs ∧ t' ≠ t ∧ t' ≠ tR) : GOwn f sz t tR W' base gl R :=
  h.far hg fun g e => by
    obtain ⟨t', cs, hB, h1, h2⟩ := hr g e
    refine ⟨fun e' => ?_, fun q s hs e' => ?_⟩
    · subst e'
      exact h2 (blk_type hB h.b)
    · obtain ⟨cs', hB'⟩ := own_blk (h.r q s hs) e'
      exact h1 (blk_type hB hB')
theorem GOwn.low (h : GOwn f sz t tR W base gl R) {g : Nat} (hg : W.grownBy W' (some g)) (hl : gl ≠ g) (hb : g < base) : GOwn f sz t tR W' base gl R :=
  h.far hg fun g' e => by
    injection e with e
    subst e
    exact ⟨hl, fun q s hs e' => by have := ((h.r q s hs).lt g e').1; omega⟩
theorem GOwn.cell (h : GOwn f sz t tR W base gl R) {q : Nat} {s : Gr α} (hs : R[q]? = some s) : W.cell? ⟨gl, q, none⟩ = some (Gr.val s) := by
  have := Blk.tabAt h.b Gr.len hs (j := 0) (by omega) (u := Gr.val s) rfl
  simpa using this
theorem GOwn.frz (h : GOwn f sz t tR W base gl R) (q : Nat) : W.frozen? ⟨gl, q, none⟩ = false := h.b.frozen q
theorem GOwn.seg (h : GOwn f sz t tR W base gl R) : GSeg f sz W (some ⟨gl, 0, none⟩) R := by
  refine ⟨Seg.ofBlkK h.b (by rw [flat_len Gr.cells 1 Gr.len]), fun s hs => ?_⟩
  obtain ⟨q, hq⟩ := List.mem_iff_getElem?.1 hs
  obtain ⟨A, c, e, h1, h2, h3⟩ := own_slice (h.r q s hq)
  injection e with e1 e2 e3
  subst e1 e3
  exact ⟨h1, h2, h3⟩
theorem GOwn.start {n : Nat} (h : Blk W gl tR ((List.replicate n (⟨none, 0, []⟩ : Gr α)).flatMap Gr.cells).toArray) : GOwn f sz t tR W base gl (List.replicate n ⟨none, 0, []⟩) := by
  have hg : ∀ (q : Nat) (s : Gr α), (List.replicate n (⟨none, 0, []⟩ : Gr α))[q]? = some s → s = ⟨none, 0, []⟩ := fun q s hs => by
    rw [List.getElem?_replicate] at hs
    split at hs
    · injection hs with hs; exact hs.symm
    · cases hs
  refine ⟨h, fun q s hs => ?_, fun p q s r0 g _ hs _ hgg => ?_⟩
  · rw [hg q s hs]; exact own_nilv _ _ _ _
  · rw [hg p s hs] at hgg; cases hgg
/-- a row grew, and its slice is stored -/
theorem GOwn.push (hty : tR ≠ t) {W9 : World} (h : GOwn f sz t tR W base gl R) {q : Nat} {s : Gr α} (hs : R[q]? = some s) {g9 c9 : Nat} {x : α} (hown : W9.ownsRow base t sz (.slice (some ⟨g9, 0, none⟩) (s.l.length + 1) c9) (s.l ++ [x]).length ((s.l ++ [x]).flatMap f))
    (hg : W.grownBy W9 (Gr.val s).ownBlock) (hd : (Gr.val s).ownBlock = some g9 ∨ g9 = W.heap.size) :
    GOwn f sz t tR (W9.setCell ⟨gl, q, none⟩ (.slice (some ⟨g9, 0, none⟩) (s.l.length + 1) c9)) base gl (R.set q ⟨some ⟨g9, 0, none⟩, c9, s.l ++ [x]⟩) := by
  have hq : q < R.length := (List.getElem?_eq_some_iff.1 hs).1
  have hlen : (s.l ++ [x]).length = s.l.length + 1 := by simp
  have hb9 : Blk W9 gl tR (R.flatMap Gr.cells).toArray := (hg.block gl h.b.lt (fun e => by
    rcases own_not (h.r q s hs) h.b hty with h | h
    · rw [h] at e; cases e
    · exact h e.symm)).trans h.b
  have hgl9 : g9 ≠ gl := fun e => by
    rcases own_not hown hb9 hty with h | h
    · cases h
    · exact h (by rw [e]; rfl)
  have hg1 := grown_set1 W9 gl q (.slice (some ⟨g9, 0, none⟩) (s.l.length + 1) c9)
  have hnew : ∀ (p : Nat) (r0 : Gr α), p ≠ q → R[p]? = some r0 → (Gr.val r0).ownBlock ≠ some g9 := fun p r0 hp ht e => by
    rcases hd with hd | hd
    · exact h.d p q r0 s g9 hp ht hs e hd
    · have := ((h.r p r0 ht).lt g9 e).2; omega
  have hold : ∀ (p : Nat) (r0 : Gr α), p ≠ q → R[p]? = some r0 → (Gr.val r0).ownBlock = none ∨ (Gr.val r0).ownBlock ≠ (Gr.val s).ownBlock := fun p r0 hp ht => by
    rcases e : (Gr.val r0).ownBlock with _ | g
    · exact .inl rfl
    · right
      intro e2
      exact h.d p q r0 s g hp ht hs e e2.symm
  have hget : ∀ (p : Nat) (r0 : Gr α), (R.set q ⟨some ⟨g9, 0, none⟩, c9, s.l ++ [x]⟩)[p]? = some r0 → (p = q ∧ r0 = ⟨some ⟨g9, 0, none⟩, c9, s.l ++ [x]⟩) ∨ (p ≠ q ∧ R[p]? = some r0) := fun p r0 ht => by
    rw [List.getElem?_set] at ht
    split at ht
    · rename_i e
      injection ht with ht
      exact .inl ⟨e.symm, ht.symm⟩
    · rename_i e
      exact .inr ⟨fun e' => e e'.symm, ht⟩
  have hval : Gr.val ⟨some ⟨g9, 0, none⟩, c9, s.l ++ [x]⟩ = .slice (some ⟨g9, 0, none⟩) (s.l.length + 1) c9 := by unfold Gr.val; rw [hlen]
  have hvb : (Gr.val ⟨some ⟨g9, 0, none⟩, c9, s.l ++ [x]⟩).ownBlock = some g9 := rfl
  refine ⟨?_, fun p r0 ht => ?_, fun p p' r0 r1 gg hpp ht ht' hgg => ?_⟩
  · have := Blk.setAt hb9 (f := Gr.cells) (s := 1) (by omega) Gr.len hq ⟨some ⟨g9, 0, none⟩, c9, s.l ++ [x]⟩
    simpa [World.setCells, Gr.cells] using this
  · rcases hget p r0 ht with ⟨rfl, rfl⟩ | ⟨hp, ht⟩
    · rw [hval]
      refine hown.kept hg1 (.inr fun e => hgl9 ?_)
      injection e
    · refine ((h.r p r0 ht).kept hg (hold p r0 hp ht)).kept hg1 ?_
      rcases own_not ((h.r p r0 ht).kept hg (hold p r0 hp ht)) hb9 hty with h | h
      · exact .inl h
      · exact .inr h
  · rcases hget p r0 ht with ⟨rfl, rfl⟩ | ⟨hp, ht2⟩
    · rcases hget p' r1 ht' with ⟨rfl, rfl⟩ | ⟨hp', ht2'⟩
      · exact absurd rfl hpp
      · rw [hvb] at hgg
        injection hgg with hgg
        subst hgg
        exact hnew p' r1 hp' ht2'
    · rcases hget p' r1 ht' with ⟨rfl, rfl⟩ | ⟨hp', ht2'⟩
      · rw [hvb]
        intro e
        injection e with e
        subst e
        exact hnew p r0 hp ht2 hgg
      · exact h.d p p' r0 r1 gg hpp ht2 ht2' hgg
end
end Go.Proofs.Ytfnnoncdocghjaa
namespace Go.Proofs.Ytfnnoncdocghjaa
open Go.RowKit
set_option linter.unusedVariables false

def Nv (x : Nat) : List Value := [.int .i64 x]
theorem Nv.len (x : Nat) : (Nv x).length = 1 := rfl
/-- a message in memory -/
structure MgR where
  m : Mg
  A : Option Addr
  c : Nat
def MgR.cells (x : MgR) : List Value := [.int .i64 x.m.frm, .int .i64 x.m.dst, .int .i64 0, .int .i64 x.m.idx, .int .i64 x.m.ord, .slice x.A x.m.kn.length x.c]
theorem MgR.len (x : MgR) : x.cells.length = 6 := rfl
theorem MgR.one (x : MgR) : ∀ u ∈ x.cells, u.oneCell' = true := by simp [MgR.cells, Value.oneCell']
/-- a message of the reference -/
def MgR.cells9 (x : MgR) : List Value := [.int .i64 x.m.frm, .int .i64 x.m.dst, .int .i64 0, .int .i64 x.m.idx, .int .i64 x.m.ord, .int .i64 0, .int .i64 0, .slice none 0 0, .slice x.A x.m.kn.length x.c]
theorem MgR.len9 (x : MgR) : x.cells9.length = 9 := rfl
theorem MgR.one9 (x : MgR) : ∀ u ∈ x.cells9, u.oneCell' = true := by simp [MgR.cells9, Value.oneCell']
abbrev KnOwn (W : World) (base : Nat) (A : Option Addr) (c : Nat) (l : List Kn) : Prop := W.ownsRow base 34 10 (.slice A l.length c) l.length (l.flatMap Kn.cells)
structure FlM (cs : MgR → List Value) (sz : Nat) (tF : TypeId) (W : World) (base : Nat) (A : Option Addr) (c : Nat) (F : List MgR) : Prop where
  r : W.ownsRow base tF sz (.slice A F.length c) F.length (F.flatMap cs)
  k : ∀ x ∈ F, KnOwn W base x.A x.c x.m.kn
structure Tb where
  ge : Nat
  gk : Nat
  go : Nat
  R : List (Gr Ev)
  K : List (Gr Kn)
  os : List Nat
structure TbM (W : World) (base n : Nat) (t : Tb) : Prop where
  e : GOwn Ev.cells 7 30 65 W base t.ge t.R
  kb : Blk W t.gk 26 (t.K.flatMap Gr.cells).toArray
  k : ∀ s ∈ t.K, KnOwn W base s.A s.c s.l
  o : Blk W t.go 3 (t.os.flatMap Nv).toArray
  ne : t.R.length = n
  nk : t.K.length = n
  no : t.os.length = n
  ze : base ≤ t.ge
  zk : base ≤ t.gk
  zo : base ≤ t.go
/-- the block that is written, if there is one, is of such a type -/
def TyRow (W : World) (row : Option Nat) (p : TypeId → Prop) : Prop := ∀ g, row = some g → ∃ t cs, Blk W g t cs ∧ p t
theorem TyRow.none (W : World) (p : TypeId → Prop) : TyRow W none p := fun g e => by cases e
theorem TyRow.blk {W : World} {g : Nat} {t : TypeId} {cs : Array Value} (h : Blk W g t cs) {p : TypeId → Prop} (hp : p t) : TyRow W (some g) p := fun g' e => by
  injection e with e
  subst e
  exact ⟨t, cs, h, hp⟩
theorem TyRow.own {W : World} {base s n : Nat} {e : TypeId} {v : Value} {xs : List Value} (h : W.ownsRow base e s v n xs) {p : TypeId → Prop} (hp : p e) : TyRow W v.ownBlock p := fun g hg => by
  obtain ⟨cs, hB⟩ := own_blk h hg
  exact ⟨e, cs, hB, hp⟩
theorem own_typed {W W' : World} {base s n : Nat} {e : TypeId} {v : Value} {xs : List Value} {row : Option Nat} (h : W.ownsRow base e s v n xs) (hg : W.grownBy W' row) (ht : TyRow W row (fun t => t ≠ e)) : W'.ownsRow base e s v n xs := by
  refine h.kept hg ?_
  rcases row with _ | g
  · rcases e' : v.ownBlock with _ | g
    · exact .inl rfl
    · exact .inr (by simp)
  · obtain ⟨t, cs, hB, hne⟩ := ht g rfl
    exact own_not h hB hne
theorem blk_typed {W W' : World} {b : Nat} {t1 : TypeId} {cs1 : Array Value} {row : Option Nat} (h : Blk W b t1 cs1) (hg : W.grownBy W' row) (ht : TyRow W row (fun t => t ≠ t1)) : Blk W' b t1 cs1 := by
  refine (hg.block b h.lt fun e => ?_).trans h
  obtain ⟨t, cs, hB, hne⟩ := ht b e.symm
  exact hne (blk_type hB h)
theorem TyRow.imp {W : World} {row : Option Nat} {p q : TypeId → Prop} (h : TyRow W row p) (hpq : ∀ t, p t → q t) : TyRow W row q := fun g e => by
  obtain ⟨t, cs, hB, hp⟩ := h g e
  exact ⟨t, cs, hB, hpq t hp⟩
section
variable {W W' : World} {base n : Nat} {t : Tb} {row : Option Nat}
theorem TbM.typed (h : TbM W base n t) (hg : W.grownBy W' row) (ht : TyRow W row (fun t => t ≠ 30 ∧ t ≠ 65 ∧ t ≠ 26 ∧ t ≠ 34 ∧ t ≠ 3)) : TbM W' base n t where
  e := h.e.typed hg fun g e => by
    obtain ⟨t, cs, hB, hp⟩ := ht g e
    exact ⟨t, cs, hB, hp.1, hp.2.1⟩
  kb := blk_typed h.kb hg (ht.imp fun t h => h.2.2.1)
  k := fun s hs => own_typed (h.k s hs) hg (ht.imp fun t h => h.2.2.2.1)
  o := blk_typed h.o hg (ht.imp fun t h => h.2.2.2.2)
  ne := h.ne
  nk := h.nk
  no := h.no
  ze := h.ze
  zk := h.zk
  zo := h.zo
theorem TbM.ext (h : TbM W base n t) (hE : Ext W W') : TbM W' base n t := h.typed (grownBy_ext (row := none) hE) (TyRow.none _ _)
theorem TbM.set_ord (h : TbM W base n t) {q : Nat} (hq : q < n) (x : Nat) : TbM (W.setCell ⟨t.go, q, none⟩ (.int .i64 x)) base n { t with os := t.os.set q x } := by
  have hg := grown_set1 W t.go q (.int .i64 x)
  refine ⟨h.e.typed hg fun g e => ?_, blk_typed h.kb hg (TyRow.blk h.o (by decide)), fun s hs => own_typed (h.k s hs) hg (TyRow.blk h.o (by decide)), ?_, h.ne, h.nk, by simp [h.no], h.ze, h.zk, h.zo⟩
  · injection e with e; subst e; exact ⟨_, _, h.o, by decide, by decide⟩
  · have := Blk.setAt h.o (f := Nv) (s := 1) (by omega) Nv.len (j := q) (by rw [h.no]; exact hq) x
    simpa [World.setCells, Nv] using this
theorem TbM.set_kn (h : TbM W base n t) {q : Nat} (hq : q < n) {A : Option Addr} {c : Nat} {l : List Kn} (hl : KnOwn W base A c l) : TbM (W.setCell ⟨t.gk, q, none⟩ (.slice A l.length c)) base n { t with K := t.K.set q ⟨A, c, l⟩ } := by
  have hg := grown_set1 W t.gk q (.slice A l.length c)
  refine ⟨h.e.typed hg fun g e => ?_, ?_, fun s hs => ?_, blk_typed h.o hg (TyRow.blk h.kb (by decide)), h.ne, by simp [h.nk], h.no, h.ze, h.zk, h.zo⟩
  · injection e with e; subst e; exact ⟨_, _, h.kb, by decide, by decide⟩
  · have := Blk.setAt h.kb (f := Gr.cells) (s := 1) (by omega) Gr.len (j := q) (by rw [h.nk]; exact hq) ⟨A, c, l⟩
    simpa [World.setCells, Gr.cells] using this
  · rcases mem_set hs with rfl | hs
    · exact own_typed hl hg (TyRow.blk h.kb (by decide))
    · exact own_typed (h.k s hs) hg (TyRow.blk h.kb (by decide))
theorem TbM.push_ev {W9 : World} (h : TbM W base n t) {q : Nat} {s : Gr Ev} (hs : t.R[q]? = some s) {g9 c9 : Nat} {x : Ev} (hown : W9.ownsRow base 30 7 (.slice (some ⟨g9, 0, none⟩) (s.l.length + 1) c9) (s.l ++ [x]).length ((s.l ++ [x]).flatMap Ev.cells))
    (hg : W.grownBy W9 (Gr.val s).ownBlock) (hd : (Gr.val s).ownBlock = some g9 ∨ g9 = W.heap.size) :
    TbM (W9.setCell ⟨t.ge, q, none⟩ (.slice (some ⟨g9, 0, none⟩) (s.l.length + 1) c9)) base n { t with R := t.R.set q ⟨some ⟨g9, 0, none⟩, c9, s.l ++ [x]⟩ } := by
  have hr := h.e.r q s hs
  have hg2 := grown_set1 W9 t.ge q (.slice (some ⟨g9, 0, none⟩) (s.l.length + 1) c9)
  have hbe : Blk W9 t.ge 65 (t.R.flatMap Gr.cells).toArray := blk_typed h.e.b hg (TyRow.own hr (by decide))
  refine ⟨h.e.push (by decide) hs hown hg hd, ?_, fun s hs => ?_, ?_, by simp [h.ne], h.nk, h.no, h.ze, h.zk, h.zo⟩
  · exact blk_typed (blk_typed h.kb hg (TyRow.own hr (by decide))) hg2 (TyRow.blk hbe (by decide))
  · exact own_typed (own_typed (h.k s hs) hg (TyRow.own hr (by decide))) hg2 (TyRow.blk hbe (by decide))
  · exact blk_typed (blk_typed h.o hg (TyRow.own hr (by decide))) hg2 (TyRow.blk hbe (by decide))
theorem TbM.cellE (h : TbM W base n t) {q : Nat} {s : Gr Ev} (hs : t.R[q]? = some s) : W.cell? ⟨t.ge, q, none⟩ = some (.slice s.A s.l.length s.c) := h.e.cell hs
theorem TbM.cellK (h : TbM W base n t) {q : Nat} {s : Gr Kn} (hs : t.K[q]? = some s) : W.cell? ⟨t.gk, q, none⟩ = some (.slice s.A s.l.length s.c) := by
  have := Blk.tabAt h.kb Gr.len hs (j := 0) (by omega) (u := Gr.val s) rfl
  simpa using this
theorem TbM.cellO (h : TbM W base n t) {q x : Nat} (hs : t.os[q]? = some x) : W.cell? ⟨t.go, q, none⟩ = some (.int .i64 x) := by
  have := Blk.tabAt h.o Nv.len hs (j := 0) (by omega) (u := .int .i64 x) rfl
  simpa using this
end
section
variable {W W' : World} {base sz : Nat} {tF : TypeId} {cs : MgR → List Value} {A : Option Addr} {c : Nat} {F : List MgR} {row : Option Nat}
theorem FlM.typed (h : FlM cs sz tF W base A c F) (hg : W.grownBy W' row) (ht : TyRow W row (fun t => t ≠ tF ∧ t ≠ 34)) : FlM cs sz tF W' base A c F :=
  ⟨own_typed h.r hg (ht.imp fun _ h => h.1), fun x hx => own_typed (h.k x hx) hg (ht.imp fun _ h => h.2)⟩
theorem FlM.ext (h : FlM cs sz tF W base A c F) (hE : Ext W W') : FlM cs sz tF W' base A c F := h.typed (grownBy_ext (row := none) hE) (TyRow.none _ _)
end
/-- a computation of the code -/
structure Cp where
  t : Tb
  A : Option Addr
  c : Nat
  F : List MgR
def Cp.st (p : Cp) : Cm := ⟨p.t.os, p.F.map MgR.m, p.t.R.map Gr.l, p.t.K.map Gr.l⟩
structure CpM (W : World) (base g n : Nat) (f : Int) (p : Cp) : Prop where
  b : Blk W g 85 #[.int .i64 f, .slice (some ⟨p.t.ge, 0, none⟩) n n, .slice (some ⟨p.t.gk, 0, none⟩) n n, .slice (some ⟨p.t.go, 0, none⟩) n n, .slice p.A p.F.length p.c]
  t : TbM W base n p.t
  f : FlM MgR.cells 6 104 W base p.A p.c p.F
  z : base ≤ g
section
variable {W W' : World} {base g n : Nat} {f : Int} {p : Cp}
theorem CpM.ext (h : CpM W base g n f p) (hE : Ext W W') : CpM W' base g n f p := ⟨h.b.ext hE, h.t.ext hE, h.f.ext hE, h.z⟩
theorem CpM.cells (h : CpM W base g n f p) : W.cell? ⟨g, 0, none⟩ = some (.int .i64 f) ∧ W.cell? ⟨g, 1, none⟩ = some (.slice (some ⟨p.t.ge, 0, none⟩) n n) ∧ W.cell? ⟨g, 2, none⟩ = some (.slice (some ⟨p.t.gk, 0, none⟩) n n) ∧ W.cell? ⟨g, 3, none⟩ = some (.slice (some ⟨p.t.go, 0, none⟩) n n) ∧ W.cell? ⟨g, 4, none⟩ = some (.slice p.A p.F.length p.c) :=
  ⟨(h.b.cell 0).trans rfl, (h.b.cell 1).trans rfl, (h.b.cell 2).trans rfl, (h.b.cell 3).trans rfl, (h.b.cell 4).trans rfl⟩
theorem CpM.set_ord (h : CpM W base g n f p) {q : Nat} (hq : q < n) (x : Nat) : CpM (W.setCell ⟨p.t.go, q, none⟩ (.int .i64 x)) base g n f { p with t := { p.t with os := p.t.os.set q x } } := by
  have hg := grown_set1 W p.t.go q (.int .i64 x)
  exact ⟨blk_typed h.b hg (TyRow.blk h.t.o (by decide)), h.t.set_ord hq x, h.f.typed hg (TyRow.blk h.t.o (by decide)), h.z⟩
theorem CpM.set_kn (h : CpM W base g n f p) {q : Nat} (hq : q < n) {A : Option Addr} {c : Nat} {l : List Kn} (hl : KnOwn W base A c l) : CpM (W.setCell ⟨p.t.gk, q, none⟩ (.slice A l.length c)) base g n f { p with t := { p.t with K := p.t.K.set q ⟨A, c, l⟩ } } := by
  have hg := grown_set1 W p.t.gk q (.slice A l.length c)
  exact ⟨blk_typed h.b hg (TyRow.blk h.t.kb (by decide)), h.t.set_kn hq hl, h.f.typed hg (TyRow.blk h.t.kb (by decide)), h.z⟩
theorem CpM.push_ev {W9 : World} (h : CpM W base g n f p) {q : Nat} {s : Gr Ev} (hs : p.t.R[q]? = some s) {g9 c9 : Nat} {x : Ev} (hown : W9.ownsRow base 30 7 (.slice (some ⟨g9, 0, none⟩) (s.l.length + 1) c9) (s.l ++ [x]).length ((s.l ++ [x]).flatMap Ev.cells))
    (hg : W.grownBy W9 (Gr.val s).ownBlock) (hd : (Gr.val s).ownBlock = some g9 ∨ g9 = W.heap.size) :
    CpM (W9.setCell ⟨p.t.ge, q, none⟩ (.slice (some ⟨g9, 0, none⟩) (s.l.length + 1) c9)) base g n f { p with t := { p.t with R := p.t.R.set q ⟨some ⟨g9, 0, none⟩, c9, s.l ++ [x]⟩ } } := by
  have hr := h.t.e.r q s hs
  have hg2 := grown_set1 W9 p.t.ge q (.slice (some ⟨g9, 0, none⟩) (s.l.length + 1) c9)
  have hbe : Blk W9 p.t.ge 65 (p.t.R.flatMap Gr.cells).toArray := blk_typed h.t.e.b hg (TyRow.own hr (by decide))
  exact ⟨blk_typed (blk_typed h.b hg (TyRow.own hr (by decide))) hg2 (TyRow.blk hbe (by decide)), h.t.push_ev hs hown hg hd, (h.f.typed hg (TyRow.own hr (by decide))).typed hg2 (TyRow.blk hbe (by decide)), h.z⟩
/-- the flight changed, and its slice is stored -/
theorem CpM.set_fl {W9 : World} {row : Option Nat} (h : CpM W base g n f p) (hg : W.grownBy W9 row) (ht : TyRow W row (fun t => t = 104)) {A : Option Addr} {c : Nat} {F : List MgR} (hf : FlM MgR.cells 6 104 W9 base A c F) :
    CpM (W9.setCell ⟨g, 4, none⟩ (.slice A F.length c)) base g n f { p with A := A, c := c, F := F } := by
  have hg2 := grown_set1 W9 g 4 (.slice A F.length c)
  have hb9 := blk_typed h.b hg (ht.imp fun t e => by subst e; decide)
  refine ⟨?_, (h.t.typed hg (ht.imp fun t e => by subst e; decide)).typed hg2 (TyRow.blk hb9 (by decide)), hf.typed hg2 (TyRow.blk hb9 (by decide)), h.z⟩
  have := Blk.set1 hb9 (o := 4) (.slice A F.length c)
  simpa using this
/-- as `set_fl`, the block's first world written out -/
theorem CpM.start {W : World} {base ge gk go g n : Nat} {f : Int} (hb : Blk W g 85 #[.int .i64 f, .slice (some ⟨ge, 0, none⟩) n n, .slice (some ⟨gk, 0, none⟩) n n, .slice (some ⟨go, 0, none⟩) n n, .slice none 0 0])
    (he : Blk W ge 65 ((List.replicate n (⟨none, 0, []⟩ : Gr Ev)).flatMap Gr.cells).toArray) (hk : Blk W gk 26 ((List.replicate n (⟨none, 0, []⟩ : Gr Kn)).flatMap Gr.cells).toArray) (ho : Blk W go 3 ((List.replicate n 0).flatMap Nv).toArray)
    (z1 : base ≤ g) (z2 : base ≤ ge) (z3 : base ≤ gk) (z4 : base ≤ go) : CpM W base g n f ⟨⟨ge, gk, go, List.replicate n ⟨none, 0, []⟩, List.replicate n ⟨none, 0, []⟩, List.replicate n 0⟩, none, 0, []⟩ :=
  ⟨hb, ⟨GOwn.start he, hk, fun s hs => by rw [(List.mem_replicate.1 hs).2]; exact own_nilv _ _ _ _, ho, by simp, by simp, by simp, z2, z3, z4⟩, ⟨own_nilv _ _ _ _, by simp⟩, z1⟩
end
end Go.Proofs.Ytfnnoncdocghjaa
namespace Go.Proofs.Ytfnnoncdocghjaa
set_option linter.unusedVariables false

inductive Sch where
  | done
  | read (i : Nat) (s : Sch)
  | one (i : Nat) (s : Sch)
  | two (i j : Nat) (s t : Sch)
def Sch.steps : Sch → Nat
  | .done => 0
  | .read _ s => s.steps + 1
  | .one _ s => s.steps + 1
  | .two _ _ s _ => s.steps + 1
/-- no reads -/
def Sch.calm : Sch → Bool
  | .done => true
  | .read _ _ => false
  | .one _ s => s.calm
  | .two _ _ s t => s.calm && t.calm
def schOk (md : Region.Mode) (ops : Array Oper) (n : Nat) : Sch → Array Bool → Bool
  | .done, listed => (Region.ready md ops listed).isEmpty
  | .read i s, listed => decide (i < n) && Region.free md ops listed i && (Region.ready md ops listed).contains i && schOk md ops n s (listed.setIfInBounds i true)
  | .one i s, listed => (Region.ready md ops listed == [i]) && (decide (i < n) || s.calm) && schOk md ops n s (listed.setIfInBounds i true)
  | .two i j s t, listed => (Region.ready md ops listed == [i, j]) && decide (i < n) && decide (j < n) && (s.steps == t.steps) && schOk md ops n s (listed.setIfInBounds i true) && schOk md ops n t (listed.setIfInBounds j true)

section
variable {P : Program} {ops : Array Oper} {Q : Exit → Act → World → Prop} {md : Region.Mode} {S : World → Prop}
def wpSch (P : Program) (ops : Array Oper) (Q : Exit → Act → World → Prop) (n : Nat) (S : World → Prop) : Sch → Act → World → Prop
  | .done, a, w => Q .normal a w
  | .read i s, a, w => S w ∧ ∃ o v, ops[i]? = some o ∧ YieldsIf P ops S o v a ∧ wpSch P ops Q n S s (a.put o.dst v) w
  | .one i s, a, w => wpOp P ops Q i (fun a' w' => (i < n → S w') ∧ wpSch P ops Q n S s a' w') a w
  | .two i j s t, a, w => wpOp P ops Q i (fun a' w' => S w' ∧ wpSch P ops Q n S s a' w') a w ∧ wpOp P ops Q j (fun a' w' => S w' ∧ wpSch P ops Q n S t a' w') a w

theorem wpAnyT_of_sch {n : Nat} (hsel : Region.noSelect ops = true) (hQ : ∀ c a (d : Option Tmp) v w, Q (.panic c) (Act.put a d v) w → Q (.panic c) a w) (hs : Region.sinkB md ops n = true) (hc : Region.chainB md ops n = true) (hn : n < ops.size) :
    ∀ (s : Sch) (listed : Array Bool) (a : Act) (w : World), schOk md ops n s listed = true → (HeadInv md ops n listed ∨ s.calm = true) →
      wpSch P ops Q n S s a w → wpAnyT P md ops Q n S s.steps listed a w
  | .done, listed, a, w, hk, _, h => ⟨by simpa [schOk] using hk, h⟩
  | .read i s, listed, a, w, hk, hinv, h => by
    simp only [schOk, Bool.and_eq_true, decide_eq_true_eq] at hk
    obtain ⟨⟨⟨hin, hf⟩, hr⟩, hrest⟩ := hk
    obtain ⟨hS, o, v, ho, hy, hw⟩ := h
    have inv : HeadInv md ops n listed := by
      rcases hinv with h | h
      · exact h
      · simp [Sch.calm] at h
    have hr' : i ∈ Region.ready md ops listed := by simpa using hr
    exact wpAnyT_first ho (Region.noSelect_spec hsel) hQ hs hc hn hin s.steps listed a w inv (Region.free_spec ho hf) hr' hy hS
      (wpAnyT_of_sch hsel hQ hs hc hn s _ _ _ hrest (.inl (inv.set hr' hin)) hw)
  | .one i s, listed, a, w, hk, hinv, h => by
    simp only [schOk, Bool.and_eq_true, beq_iff_eq] at hk
    obtain ⟨⟨hr, hd⟩, hrest⟩ := hk
    have hr' : i ∈ Region.ready md ops listed := by rw [hr]; simp
    have hnext : HeadInv md ops n (listed.setIfInBounds i true) ∨ s.calm = true := by
      rcases hinv with inv | h
      · rcases Nat.lt_or_ge i n with hin | hin
        · exact .inl (inv.set hr' hin)
        · right
          simp only [Bool.or_eq_true, decide_eq_true_eq] at hd
          rcases hd with hd | hd
          · omega
          · exact hd
      · exact .inr h
    refine ⟨fun h0 => (by rw [h0] at hr; cases hr), fun j hj => ?_⟩
    rw [hr, List.mem_singleton] at hj
    subst hj
    exact wpOp_mono (fun a' w' h' => ⟨h'.1, wpAnyT_of_sch hsel hQ hs hc hn s _ _ _ hrest hnext h'.2⟩) h
  | .two i j s t, listed, a, w, hk, hinv, h => by
    simp only [schOk, Bool.and_eq_true, beq_iff_eq, decide_eq_true_eq] at hk
    obtain ⟨⟨⟨⟨⟨hr, hin⟩, hjn⟩, hst⟩, h1⟩, h2⟩ := hk
    have hri : i ∈ Region.ready md ops listed := by rw [hr]; simp
    have hrj : j ∈ Region.ready md ops listed := by rw [hr]; simp
    have hni : HeadInv md ops n (listed.setIfInBounds i true) ∨ s.calm = true := by
      rcases hinv with inv | h
      · exact .inl (inv.set hri hin)
      · simp only [Sch.calm, Bool.and_eq_true] at h; exact .inr h.1
    have hnj : HeadInv md ops n (listed.setIfInBounds j true) ∨ t.calm = true := by
      rcases hinv with inv | h
      · exact .inl (inv.set hrj hjn)
      · simp only [Sch.calm, Bool.and_eq_true] at h; exact .inr h.2
    refine ⟨fun h0 => (by rw [h0] at hr; cases hr), fun m hm => ?_⟩
    rw [hr] at hm
    rcases List.mem_cons.1 hm with rfl | hm
    · exact wpOp_mono (fun a' w' h' => ⟨fun _ => h'.1, wpAnyT_of_sch hsel hQ hs hc hn s _ _ _ h1 hni h'.2⟩) h.1
    · rw [List.mem_singleton] at hm
      subst hm
      have : s.steps = t.steps := hst
      show wpOp P ops Q m (fun a' w' => (m < n → S w') ∧ wpAnyT P md ops Q n S s.steps (listed.setIfInBounds m true) a' w') a w
      rw [this]
      exact wpOp_mono (fun a' w' h' => ⟨fun _ => h'.1, wpAnyT_of_sch hsel hQ hs hc hn t _ _ _ h2 hnj h'.2⟩) h.2

def schB (ops : Array Oper) (n : Nat) (s : Sch) : Bool :=
  Region.noSelect ops && Region.sinkB .any ops n && Region.chainB .any ops n && decide (n < ops.size) && (s.steps == ops.size) && schOk .any ops n s (Array.replicate ops.size false)
theorem wp_region_sch {id : Nat} {a : Act} {w : World} (hm : P.follows .mixedOrders = true) (n : Nat) (s : Sch) (S : World → Prop) (hB : schB ops n s = true)
    (hQ : ∀ c a (d : Option Tmp) v w, Q (.panic c) (Act.put a d v) w → Q (.panic c) a w) (hS : S w.drew) (h : S w.drew → wpSch P ops Q n S s a w.drew) : (Code.region id ops true).wp P Q a w := by
  simp only [schB, Bool.and_eq_true, decide_eq_true_eq, beq_iff_eq] at hB
  obtain ⟨⟨⟨⟨⟨h1, h2⟩, h3⟩, h4⟩, h5⟩, h6⟩ := hB
  refine wp_region_any hm (wpAny_of_T (n := n) (S := S) _ _ _ _ ?_)
  have key := wpAnyT_of_sch (md := .any) (S := S) h1 hQ h2 h3 h4 s (Array.replicate ops.size false) a w.drew h6 (.inl ⟨by simp, fun j oj _ hl => (by rw [getD_replicate_false] at hl; cases hl), fun t _ ht => (by simp [ht])⟩) (h hS)
  rw [h5] at key
  exact key
variable {l : List Oper}
theorem sch_read {n i : Nat} {s : Sch} {o : Oper} {v : Value} {a : Act} {w : World} (ho : opAt l i = some o) (hy : YieldsIf P l.toArray S o v a) (hS : S w) (h : wpSch P l.toArray Q n S s (a.put o.dst v) w) : wpSch P l.toArray Q n S (.read i s) a w :=
  ⟨hS, o, v, opAt_spec l i o ho, hy, h⟩
theorem sch_one {n i : Nat} {s : Sch} {o : Oper} {a : Act} {w : World} (ho : opAt l i = some o)
    (h : ∀ K' : Act → World → Prop, Shut (∀ a w, S w → (S w → wpSch P l.toArray Q n S s a w) → K' a w) → if Region.wanted o (yielded l.toArray a.tmps) = true then Oper.wp P o a w K' Q else K' (a.put o.dst undef) w) : wpSch P l.toArray Q n S (.one i s) a w :=
  wpOp_step (opAt_spec l i o ho) fun K' hK => h K' fun a w hS hW => hK a w ⟨fun _ => hS, hW hS⟩
theorem sch_tail {n i : Nat} {s : Sch} {o : Oper} {a : Act} {w : World} (ho : opAt l i = some o) (hn : n ≤ i)
    (h : ∀ K' : Act → World → Prop, Shut (∀ a w, wpSch P l.toArray Q n S s a w → K' a w) → if Region.wanted o (yielded l.toArray a.tmps) = true then Oper.wp P o a w K' Q else K' (a.put o.dst undef) w) : wpSch P l.toArray Q n S (.one i s) a w :=
  wpOp_step (opAt_spec l i o ho) fun K' hK => h K' fun a w hW => hK a w ⟨fun h => absurd h (by omega), hW⟩
theorem sch_two {n i j : Nat} {s t : Sch} {o o' : Oper} {a : Act} {w : World} (ho : opAt l i = some o) (ho' : opAt l j = some o')
    (h : ∀ K' : Act → World → Prop, Shut (∀ a w, S w → (S w → wpSch P l.toArray Q n S s a w) → K' a w) → if Region.wanted o (yielded l.toArray a.tmps) = true then Oper.wp P o a w K' Q else K' (a.put o.dst undef) w)
    (h' : ∀ K' : Act → World → Prop, Shut (∀ a w, S w → (S w → wpSch P l.toArray Q n S t a w) → K' a w) → if Region.wanted o' (yielded l.toArray a.tmps) = true then Oper.wp P o' a w K' Q else K' (a.put o'.dst undef) w) : wpSch P l.toArray Q n S (.two i j s t) a w :=
  ⟨wpOp_step (opAt_spec l i o ho) fun K' hK => h K' fun a w hS hW => hK a w ⟨hS, hW hS⟩, wpOp_step (opAt_spec l j o' ho') fun K' hK => h' K' fun a w hS hW => hK a w ⟨hS, hW hS⟩⟩
theorem sch_done {n : Nat} {a : Act} {w : World} (h : Q .normal a w) : wpSch P ops Q n S .done a w := h
end
end Go.Proofs.Ytfnnoncdocghjaa
namespace Go.Proofs.Ytfnnoncdocghjaa
open Go.RowKit
set_option linter.unusedVariables false
set_option maxRecDepth 100000

set_option maxHeartbeats 800000 in
theorem process_any (W : World) (base g n : Nat) (f : Int) (p : Cp) (h : CpM W base g n f p) (q : Int) (hn : n ≤ 5) :
    Calls Try.prog 51 #[.pointer (some ⟨g, 0, none⟩), .int .i64 q] W (fun e w' => e = .returned (.bool (okProc n q)) ∧ w' = W) := by
  obtain ⟨-, -, -, c3, -⟩ := h.cells
  clear h
  by_cases h0 : 0 ≤ q
  · by_cases h1 : q < n
    · have HV : Hid (okProc n q = true) := okProc_iff.2 ⟨h0, h1⟩
      go_enter Try.func51, Try.ntmps51
      go_wp2_with fail
      go_ret
      exact ⟨by rw [HV.out]; rfl, rfl⟩
    · have HV : Hid (okProc n q = false) := by show _ = _; simp [okProc, h1]
      go_enter Try.func51, Try.ntmps51
      go_wp2_with fail
      go_ret
      exact ⟨by rw [HV.out]; rfl, rfl⟩
  · have HV : Hid (okProc n q = false) := by show _ = _; simp [okProc, h0]
    go_enter Try.func51, Try.ntmps51
    go_wp2_with fail
    go_ret
    exact ⟨by rw [HV.out]; rfl, rfl⟩
/-- what a step of the computation leaves -/
def CpPost (W : World) (base g n : Nat) (f : Int) (s : Cm) (e : Ending) (w' : World) : Prop := e = .returned (.tuple #[]) ∧ ∃ p, CpM w' base g n f p ∧ p.st = s ∧ Below base W w'
theorem CpPost.same {W : World} {base g n : Nat} {f : Int} {p : Cp} (h : CpM W base g n f p) : CpPost W base g n f p.st (.returned (.tuple #[])) W := ⟨rfl, p, h, rfl, Below.refl _ _⟩
theorem MgR.blk {W : World} {g : Nat} {x : MgR} (h : Blk W g 104 x.cells.toArray) : W.cell? ⟨g, 0, none⟩ = some (.int .i64 x.m.frm) ∧ W.cell? ⟨g, 1, none⟩ = some (.int .i64 x.m.dst) ∧ W.cell? ⟨g, 2, none⟩ = some (.int .i64 0) ∧ W.cell? ⟨g, 3, none⟩ = some (.int .i64 x.m.idx) ∧ W.cell? ⟨g, 4, none⟩ = some (.int .i64 x.m.ord) ∧ W.cell? ⟨g, 5, none⟩ = some (.slice x.A x.m.kn.length x.c) :=
  ⟨(h.cell 0).trans rfl, (h.cell 1).trans rfl, (h.cell 2).trans rfl, (h.cell 3).trans rfl, (h.cell 4).trans rfl, (h.cell 5).trans rfl⟩
theorem Blk.put6 {W : World} {g : Nat} {t : TypeId} {a0 a1 a2 a3 a4 a5 : Value} (h : Blk W g t #[a0, a1, a2, a3, a4, a5]) (b0 b1 b2 b3 b4 b5 : Value) :
    Blk ((((((W.setCell ⟨g, 0, none⟩ b0).setCell ⟨g, 1, none⟩ b1).setCell ⟨g, 2, none⟩ b2).setCell ⟨g, 3, none⟩ b3).setCell ⟨g, 4, none⟩ b4).setCell ⟨g, 5, none⟩ b5) g t #[b0, b1, b2, b3, b4, b5] ∧
    W.grownBy ((((((W.setCell ⟨g, 0, none⟩ b0).setCell ⟨g, 1, none⟩ b1).setCell ⟨g, 2, none⟩ b2).setCell ⟨g, 3, none⟩ b3).setCell ⟨g, 4, none⟩ b4).setCell ⟨g, 5, none⟩ b5) (some g) := by
  refine ⟨?_, grownBy_trans (grownBy_trans (grownBy_trans (grownBy_trans (grownBy_trans (grown_set1 _ _ _ _) (grown_set1 _ _ _ _)) (grown_set1 _ _ _ _)) (grown_set1 _ _ _ _)) (grown_set1 _ _ _ _)) (grown_set1 _ _ _ _)⟩
  have := Blk.sets (w := W) [b0, b1, b2, b3, b4, b5] 0 W [a0, a1, a2, a3, a4, a5] h
  exact this
theorem Blk.put2 {W : World} {g : Nat} {t : TypeId} {a0 a1 a2 a3 a4 a5 : Value} (h : Blk W g t #[a0, a1, a2, a3, a4, a5]) (b2 b3 : Value) :
    Blk ((W.setCell ⟨g, 2, none⟩ b2).setCell ⟨g, 3, none⟩ b3) g t #[a0, a1, b2, b3, a4, a5] ∧ W.grownBy ((W.setCell ⟨g, 2, none⟩ b2).setCell ⟨g, 3, none⟩ b3) (some g) := by
  refine ⟨?_, grownBy_trans (grown_set1 _ _ _ _) (grown_set1 _ _ _ _)⟩
  have := Blk.sets (w := W) [b2, b3] 2 W [a0, a1, a2, a3, a4, a5] h
  exact this
theorem Ext.put6 {W0 W : World} (h : Ext W0 W) {g : Nat} (hg : W0.heap.size ≤ g) (b0 b1 b2 b3 b4 b5 : Value) :
    Ext W0 ((((((W.setCell ⟨g, 0, none⟩ b0).setCell ⟨g, 1, none⟩ b1).setCell ⟨g, 2, none⟩ b2).setCell ⟨g, 3, none⟩ b3).setCell ⟨g, 4, none⟩ b4).setCell ⟨g, 5, none⟩ b5) :=
  (((((h.set hg _).set hg _).set hg _).set hg _).set hg _).set hg _
theorem blk6 {w : World} {g : Nat} {t : TypeId} {v0 v1 v2 v3 v4 v5 : Value} (h : Blk w g t #[v0, v1, v2, v3, v4, v5]) :
    (w.cell? ⟨g, 0, none⟩ = some v0 ∧ w.cell? ⟨g, 1, none⟩ = some v1 ∧ w.cell? ⟨g, 2, none⟩ = some v2 ∧ w.cell? ⟨g, 3, none⟩ = some v3 ∧ w.cell? ⟨g, 4, none⟩ = some v4 ∧ w.cell? ⟨g, 5, none⟩ = some v5) ∧
    w.frozen? ⟨g, 0, none⟩ = false ∧ w.frozen? ⟨g, 1, none⟩ = false ∧ w.frozen? ⟨g, 2, none⟩ = false ∧ w.frozen? ⟨g, 3, none⟩ = false ∧ w.frozen? ⟨g, 4, none⟩ = false ∧ w.frozen? ⟨g, 5, none⟩ = false :=
  ⟨⟨(h.cell 0).trans rfl, (h.cell 1).trans rfl, (h.cell 2).trans rfl, (h.cell 3).trans rfl, (h.cell 4).trans rfl, (h.cell 5).trans rfl⟩, h.frozen 0, h.frozen 1, h.frozen 2, h.frozen 3, h.frozen 4, h.frozen 5⟩
def SdCut (W : World) (base : Nat) (x : Mg) (s6 : Value) (wx : World) : Prop := ∃ (g6 : Nat) (A : Option Addr) (c : Nat), s6 = .pointer (some ⟨g6, 0, none⟩) ∧ Ext W wx ∧ W.heap.size ≤ g6 ∧ Blk wx g6 104 (MgR.cells ⟨x, A, c⟩).toArray ∧ KnOwn wx W.heap.size A c x.kn
set_option maxHeartbeats 1600000 in
theorem send_any (W : World) (base g n t : Nat) (f : Int) (p : Cp) (h : CpM W base g n f p) (hw : WF n t p.st) (ht : t ≤ 200) (hn : n ≤ 5) (hb : base ≤ W.heap.size) (a b : Int) :
    Calls Try.prog 49 #[.pointer (some ⟨g, 0, none⟩), .int .i64 a, .int .i64 b] W (CpPost W base g n f (if canSend n p.st a b then sendV f p.st a.toNat b.toNat else p.st)) := by
  have HP := Lib.hid (fun q => process_any W base g n f p h q hn)
  have H := Lib.hid h
  have hfl : p.F.length ≤ 256 := by have := hw.f256; simpa [Cp.st] using this
  have HW := Lib.hid hw
  obtain ⟨c0, c1, c2, c3, c4⟩ := h.cells
  clear h hw
  by_cases ha : okProc n a = true
  · by_cases hbp : okProc n b = true
    · by_cases hab : a = b
      · subst hab
        have HV : Hid (canSend n p.st a a = false) := by show _ = _; simp [canSend]
        rw [HV.out, if_neg (by simp)]
        go_enter Try.func49, Try.ntmps49
        go_wp2_with (first | (have tok : True := trivial; refine (HP.out _).mono ?_))
        rintro e w1 ⟨rfl, rfl⟩
        rw [ha]
        go_wp2_with (refine (HP.out _).mono ?_)
        rintro e w2 ⟨rfl, rfl⟩
        rw [ha]
        go_wp2_with fail
        (try simp only [Exit.inBlock, Exit.then]); refine bodyPost_ret (results_none rfl _ _ _) rfl ?_
        exact CpPost.same H.out
      · by_cases hfl2 : p.F.length < 256
        · obtain ⟨an, rfl⟩ : ∃ an : Nat, a = (an : Int) := ⟨a.toNat, by have := (okProc_iff.1 ha).1; omega⟩
          obtain ⟨bn, rfl⟩ : ∃ bn : Nat, b = (bn : Int) := ⟨b.toNat, by have := (okProc_iff.1 hbp).1; omega⟩
          have hal := (okProc_iff.1 ha).2
          have hbl := (okProc_iff.1 hbp).2
          have HV : Hid (canSend n p.st an bn = true) := canSend_iff.2 ⟨⟨by omega, hal⟩, ⟨by omega, hbl⟩, hab, by simpa [Cp.st] using hfl2⟩
          rw [HV.out, if_pos rfl, Int.toNat_natCast, Int.toNat_natCast]
          have han : an < n := by omega
          have hbn : bn < n := by omega
          clear HV
          have hab' : ((an : Int) == (bn : Int)) = false := by simpa using hab
          have hfl2' : decide ((256 : Int) ≤ (p.F.length : Int)) = false := decide_eq_false (by omega)
          obtain ⟨sk, hsk⟩ : ∃ sk, p.t.K[an]? = some sk := ⟨_, List.getElem?_eq_getElem (by rw [H.out.t.nk]; exact han)⟩
          obtain ⟨se, hse⟩ : ∃ se, p.t.R[an]? = some se := ⟨_, List.getElem?_eq_getElem (by rw [H.out.t.ne]; exact han)⟩
          obtain ⟨so, hso⟩ : ∃ so, p.t.os[an]? = some so := ⟨_, List.getElem?_eq_getElem (by rw [H.out.t.no]; exact han)⟩
          have hcK := H.out.t.cellK hsk
          have hcE := H.out.t.cellE hse
          have hcO := H.out.t.cellO hso
          have HKO : Hid (KnOwn W base sk.A sk.c sk.l) := H.out.t.k sk (List.mem_of_getElem? hsk)
          obtain ⟨G, hG1, hG2, -⟩ := HW.out.g
          have hkk := hG2 sk.l (List.mem_map.2 ⟨sk, List.mem_of_getElem? hsk, rfl⟩)
          have hkl : sk.l.length ≤ 200 := by have := hkk.len; omega
          have HKK : Hid (∀ k ∈ sk.l, okH k.h) := hkk.ok
          have hel : se.l.length ≤ 64 := HW.out.el se.l (List.mem_map.2 ⟨se, List.mem_of_getElem? hse, rfl⟩)
          have hol : so ≤ 200 := Nat.le_trans (HW.out.ol so (List.mem_of_getElem? hso)) ht
          clear hG1 hG2 hkk
          have HST : Hid (sendV f p.st an bn = ⟨p.t.os.set an (so + 1), p.F.map MgR.m ++ [⟨an, bn, se.l.length, so, sk.l.filter (keepF f)⟩], p.t.R.map Gr.l, p.t.K.map Gr.l⟩) := by
            show _ = _
            simp [sendV, Cp.st, hsk, hse, hso, List.getD_eq_getElem?_getD]
          rw [HST.out]
          clear HST
          have hal0 : (0 : Int) ≤ (an : Int) := by omega
          have hbl0 : (0 : Int) ≤ (bn : Int) := by omega
          go_enter Try.func49, Try.ntmps49
          go_wp2_with (refine (HP.out _).mono ?_)
          rintro e w1 ⟨rfl, rfl⟩
          rw [ha]
          go_wp2_with (refine (HP.out _).mono ?_)
          rintro e w2 ⟨rfl, rfl⟩
          rw [hbp]
          go_upto_region 1 with fail
          clear ha hbp hab hab' hfl2' HP
          have HKC : Hid (∀ W', Ext w2 W' → W'.cell? ⟨g, 3, none⟩ = some (.slice (some ⟨p.t.go, 0, none⟩) n n) ∧ W'.cell? ⟨p.t.go, an, none⟩ = some (.int .i64 so) ∧ W'.cell? ⟨g, 2, none⟩ = some (.slice (some ⟨p.t.gk, 0, none⟩) n n) ∧ W'.cell? ⟨p.t.gk, an, none⟩ = some (.slice sk.A sk.l.length sk.c) ∧ W'.cell? ⟨g, 0, none⟩ = some (.int .i64 f)) := fun W' hW => by
            have h9 := H.out.ext hW
            exact ⟨h9.cells.2.2.2.1, h9.t.cellO hso, h9.cells.2.2.1, h9.t.cellK hsk, h9.cells.1⟩
          go_cut [6] (fun s6 wx => SdCut w2 base ⟨an, bn, 0, so, sk.l.filter (keepF f)⟩ s6 wx)
          case first =>
            refine wp_region_sch (by kernel_rfl) 24 (.read 0 (.read 1 (.read 2 (.read 3 (.read 4 (.read 5 (.read 6 (.read 7 (.read 8 (.read 9 (.read 10 (.read 11 (.read 12 (.read 13 (.read 14 (.read 15 (.read 16 (.read 17 (.read 18 (.read 19 (.read 20 (.two 21 23 (.read 22 (.one 23 (.one 24 .done))) (.one 21 (.read 22 (.one 24 .done))))))))))))))))))))))))) (fun W => W.cell? ⟨g, 3, none⟩ = some (.slice (some ⟨p.t.go, 0, none⟩) n n) ∧ W.cell? ⟨p.t.go, an, none⟩ = some (.int .i64 so) ∧ W.cell? ⟨g, 2, none⟩ = some (.slice (some ⟨p.t.gk, 0, none⟩) n n) ∧ W.cell? ⟨p.t.gk, an, none⟩ = some (.slice sk.A sk.l.length sk.c) ∧ W.cell? ⟨g, 0, none⟩ = some (.int .i64 f)) (by kernel_rfl) (fun _ _ dd _ _ h => by cases dd <;> exact h) ⟨c3, hcO, c2, hcK, c0⟩ (fun hHeld => ?_)
            iterate 21 ((refine sch_read (v := ?_) rfl (Or.inl ⟨by rfl, ?_⟩) hHeld ?_; rotate_left 1; · (intro w' hSw; obtain ⟨t0, t1, t2, t3, t4⟩ := hSw; go_simp; (first | done | with_reducible rfl))); (try simp only [Act.put, List.setIfInBounds_toArray, List.set_cons_zero, List.set_cons_succ]))
            refine sch_two rfl rfl (fun K hK => ?_) (fun K hK => ?_)
            · go_simp
              refine (carry_any sk.A sk.c sk.l f _ (Seg.of_own (own_ext HKO.out (Below.drew (Ext.refl w2)))) (by omega) HKK.out).mono ?_
              rintro e w3 ⟨v, rfl, hown, hE⟩
              obtain ⟨A, c, rfl, -, -, -⟩ := own_slice hown
              have hE3 : Ext w2 w3 := Ext.trans (Below.drew (Ext.refl w2)) hE
              have HO3 : Hid (KnOwn w3 w2.heap.size A c (sk.l.filter (keepF f))) := hown
              have HE3 := Lib.hid hE3
              clear hown hE hE3
              refine hK.out _ _ (HKC.out _ HE3.out) (fun hHeld => ?_)
              clear hK K
              try simp only [Act.put, List.setIfInBounds_toArray, List.set_cons_zero, List.set_cons_succ]
              iterate 1 ((refine sch_read (v := ?_) rfl (Or.inl ⟨by rfl, ?_⟩) hHeld ?_; rotate_left 1; · (intro w' hSw; obtain ⟨t0, t1, t2, t3, t4⟩ := hSw; go_simp; (first | done | with_reducible rfl))); (try simp only [Act.put, List.setIfInBounds_toArray, List.set_cons_zero, List.set_cons_succ]))
              refine sch_one rfl (fun K hK => ?_)
              go_simp
              refine hK.out _ _ (HKC.out _ (HE3.out.allocs _)) (fun hHeld => ?_)
              clear hK K
              try simp only [Act.put, List.setIfInBounds_toArray, List.set_cons_zero, List.set_cons_succ]
              obtain ⟨g6, hg6⟩ : ∃ g6, w3.heap.size = g6 := ⟨_, rfl⟩
              have HB := Blk.new w3 104 #[.int .i64 0, .int .i64 0, .int .i64 0, .int .i64 0, .int .i64 0, .slice none 0 0]
              have hX : Ext w3 (w3.alloc (.cells #[.int .i64 0, .int .i64 0, .int .i64 0, .int .i64 0, .int .i64 0, .slice none 0 0] 104)) := (Ext.refl w3).allocs _
              have hg6' : w2.heap.size ≤ g6 := by rw [← hg6]; exact HE3.out.size
              rw [hg6] at HB ⊢
              generalize w3.alloc (.cells #[.int .i64 0, .int .i64 0, .int .i64 0, .int .i64 0, .int .i64 0, .slice none 0 0] 104) = wa at HB hX ⊢
              have HBF := Lib.hid (Blk.put6 HB (.int .i64 an) (.int .i64 bn) (.int .i64 0) (.int .i64 0) (.int .i64 so) (.slice A (sk.l.filter (keepF f)).length c))
              obtain ⟨⟨x0, x1, x2, x3, x4, x5⟩, y0, y1, y2, y3, y4, y5⟩ := blk6 HB
              have HXA := Lib.hid (Ext.trans HE3.out hX)
              have HOA : Hid (KnOwn wa w2.heap.size A c (sk.l.filter (keepF f))) := own_ext HO3.out hX
              have HBA := Lib.hid HB
              clear hX HB hg6 HO3 HE3
              refine sch_tail rfl (by decide) (fun K hK => ?_)
              go_simp
              refine hK.out _ _ ?_
              clear hK K
              try simp only [Act.put, List.setIfInBounds_toArray, List.set_cons_zero, List.set_cons_succ]
              refine sch_done ?_
              go_wp2_with fail
              go_meet
              exact ⟨g6, A, c, rfl, Ext.put6 HXA.out hg6' .., hg6', HBF.out.1, own_typed HOA.out HBF.out.2 (TyRow.blk HBA.out (by decide))⟩
            · obtain ⟨g6, hg6⟩ : ∃ g6, w2.heap.size = g6 := ⟨_, rfl⟩
              have HB : Blk (w2.alloc (.cells #[.int .i64 0, .int .i64 0, .int .i64 0, .int .i64 0, .int .i64 0, .slice none 0 0] 104)).drew w2.heap.size 104 #[.int .i64 0, .int .i64 0, .int .i64 0, .int .i64 0, .int .i64 0, .slice none 0 0] := Blk.ext (Blk.new w2 _ _) (Below.drew (Ext.refl _))
              have hX : Ext w2 (w2.alloc (.cells #[.int .i64 0, .int .i64 0, .int .i64 0, .int .i64 0, .int .i64 0, .slice none 0 0] 104)).drew := Below.drew ((Ext.refl w2).allocs _)
              have hg6' : w2.heap.size ≤ g6 := by rw [← hg6]; exact Nat.le_refl _
              go_simp
              rw [hg6] at HB
              generalize (w2.alloc (.cells #[.int .i64 0, .int .i64 0, .int .i64 0, .int .i64 0, .int .i64 0, .slice none 0 0] 104)).drew = wa at HB hX ⊢
              refine hK.out _ _ (HKC.out _ hX) (fun hHeld => ?_)
              clear hK K
              try simp only [Act.put, List.setIfInBounds_toArray, List.set_cons_zero, List.set_cons_succ]
              refine sch_one rfl (fun K hK => ?_)
              go_simp
              refine (carry_any sk.A sk.c sk.l f _ (Seg.of_own (own_ext HKO.out hX)) (by omega) HKK.out).mono ?_
              rintro e w3 ⟨v, rfl, hown, hE⟩
              obtain ⟨A, c, rfl, -, -, -⟩ := own_slice hown
              have HOA : Hid (KnOwn w3 w2.heap.size A c (sk.l.filter (keepF f))) := own_base hown hX.size
              have HXA := Lib.hid (Ext.trans hX hE)
              have HB3 := Blk.ext HB hE
              clear hown hE hX HB
              refine hK.out _ _ (HKC.out _ HXA.out) (fun hHeld => ?_)
              clear hK K
              try simp only [Act.put, List.setIfInBounds_toArray, List.set_cons_zero, List.set_cons_succ]
              iterate 1 ((refine sch_read (v := ?_) rfl (Or.inl ⟨by rfl, ?_⟩) hHeld ?_; rotate_left 1; · (intro w' hSw; obtain ⟨t0, t1, t2, t3, t4⟩ := hSw; go_simp; (first | done | with_reducible rfl))); (try simp only [Act.put, List.setIfInBounds_toArray, List.set_cons_zero, List.set_cons_succ]))
              have HBF := Lib.hid (Blk.put6 HB3 (.int .i64 an) (.int .i64 bn) (.int .i64 0) (.int .i64 0) (.int .i64 so) (.slice A (sk.l.filter (keepF f)).length c))
              obtain ⟨⟨x0, x1, x2, x3, x4, x5⟩, y0, y1, y2, y3, y4, y5⟩ := blk6 HB3
              have HBA := Lib.hid HB3
              clear HB3
              refine sch_tail rfl (by decide) (fun K hK => ?_)
              go_simp
              refine hK.out _ _ ?_
              clear hK K
              try simp only [Act.put, List.setIfInBounds_toArray, List.set_cons_zero, List.set_cons_succ]
              refine sch_done ?_
              go_wp2_with fail
              go_meet
              exact ⟨g6, A, c, rfl, Ext.put6 HXA.out hg6' .., hg6', HBF.out.1, own_typed HOA.out HBF.out.2 (TyRow.blk HBA.out (by decide))⟩
          case rest =>
            obtain ⟨g6, A, c, rfl, hE, hg6, hB, hO⟩ := hcut
            have HC := Lib.hid (H.out.ext hE)
            obtain ⟨d0, d1, d2, d3, d4⟩ := HC.out.cells
            have hcE2 := HC.out.t.cellE hse
            obtain ⟨⟨x0, x1, x2, x3, x4, x5⟩, y0, y1, y2, y3, y4, y5⟩ := blk6 hB
            have HB := Lib.hid hB
            have HO := Lib.hid hO
            have HE := Lib.hid hE
            clear hB hO hE c0 c1 c2 c3 c4 hcK hcE hcO HKC HKO HKK
            go_upto_if 64 with fail
            go_cut [6] (fun s6 wx => SdCut w2 base ⟨an, bn, se.l.length, so, sk.l.filter (keepF f)⟩ s6 wx)
            case first =>
              by_cases hz : se.l.length = 0
              · have hz' : ¬ (0 : Int) < (se.l.length : Int) := by omega
                have HZ := Lib.hid hz
                clear hz
                go_wp2_with fail
                go_meet
                exact ⟨g6, A, c, rfl, HE.out, hg6, by rw [HZ.out]; exact HB.out, HO.out⟩
              · have hz' : (0 : Int) < (se.l.length : Int) := by omega
                have HB2 := Lib.hid (Blk.put2 HB.out (.int .i64 0) (.int .i64 se.l.length))
                go_wp2_with fail
                go_meet
                exact ⟨g6, A, c, rfl, (HE.out.set hg6 _).set hg6 _, hg6, HB2.out.1, own_typed HO.out HB2.out.2 (TyRow.blk HB.out (by decide))⟩
            case rest =>
              clear d0 d1 d2 d3 d4 hcE2 x0 x1 x2 x3 x4 x5 y0 y1 y2 y3 y4 y5 HB HO HE HC
              obtain ⟨g6, A, c, rfl, hE, hg6, hB, hO⟩ := hcut
              have HC := Lib.hid (H.out.ext hE)
              have hcO2 := HC.out.t.cellO hso
              obtain ⟨d0, d1, d2, d3, d4⟩ := HC.out.cells
              have hfz := HC.out.t.o.frozen an
              have HC5 := Lib.hid (HC.out.set_ord han (so + 1))
              have hg5 := grown_set1 wc p.t.go an (.int .i64 ((so + 1 : Nat) : Int))
              have HB5 := Lib.hid (blk_typed hB hg5 (TyRow.blk HC.out.t.o (by decide)))
              have HO5 := Lib.hid (own_typed hO hg5 (TyRow.blk HC.out.t.o (by decide)))
              have HL5 : Hid (Below base w2 (wc.setCell ⟨p.t.go, an, none⟩ (.int .i64 ((so + 1 : Nat) : Int)))) := Below.setCell (hE.mono hb) H.out.t.zo _
              have hso1 : ((so + 1 : Nat) : Int) = (so : Int) + 1 := by omega
              rw [hso1] at HC5 HB5 HO5 HL5
              clear hB hO hE hg5
              have hne6 : (Value.slice p.A p.F.length p.c).ownBlock ≠ some g6 := fun e => by have := (H.out.f.r.lt g6 e).2; omega
              have hz5 : base ≤ (wc.setCell ⟨p.t.go, an, none⟩ (.int .i64 ((so : Int) + 1))).heap.size := Nat.le_trans hb HL5.out.size
              go_upto_region 6 with fail
              generalize (wc.setCell ⟨p.t.go, an, none⟩ (.int .i64 ((so : Int) + 1))) = w5 at HC5 HB5 HO5 HL5 hz5 ⊢
              clear d0 d1 d2 d3 d4 hcO2 hfz HC
              obtain ⟨x, hx⟩ : ∃ x : MgR, x = ⟨⟨an, bn, se.l.length, so, sk.l.filter (keepF f)⟩, A, c⟩ := ⟨_, rfl⟩
              have HX := Lib.hid hx
              rw [← hx] at HB5
              have HO5' : Hid (KnOwn w5 base x.A x.c x.m.kn) := by show KnOwn _ _ _ _ _; rw [hx]; exact own_base HO5.out hb
              clear hx HO5
              have HSS : Hid (∀ W' row, w5.grownBy W' row → (row = none ∨ row = (Value.slice p.A p.F.length p.c).ownBlock) → W'.cell? ⟨g, 4, none⟩ = some (.slice p.A p.F.length p.c) ∧ Blk W' g6 104 x.cells.toArray) := fun W' row hW hr => by
                refine ⟨?_, ?_⟩
                · have hty : TyRow w5 row (fun t => t ≠ 85) := by
                    rcases hr with rfl | rfl
                    · exact TyRow.none _ _
                    · exact TyRow.own HC5.out.f.r (by decide)
                  exact ((blk_typed HC5.out.b hW hty).cell 4).trans rfl
                · refine (hW.block g6 HB5.out.lt (fun e => ?_)).trans HB5.out
                  rcases hr with rfl | rfl
                  · cases e
                  · exact hne6 e.symm
              refine wp_region_sched (by kernel_rfl) 10 [(0, true), (1, true), (2, true), (3, true), (4, true), (5, true), (6, false), (7, false), (8, true), (9, true), (10, false)] (fun W' => W'.cell? ⟨g, 4, none⟩ = some (.slice p.A p.F.length p.c) ∧ Blk W' g6 104 x.cells.toArray) (by kernel_rfl) (fun _ _ dd _ _ h => by cases dd <;> exact h) (HSS.out _ _ (grownBy_ext (row := none) (Below.drew (Ext.refl w5))) (.inl rfl)) (fun hHeld => ?_)
              iterate 6 ((refine sched_read (v := ?_) rfl (Or.inl ⟨by rfl, ?_⟩) hHeld ?_; rotate_left 1; · (intro w' hSw; obtain ⟨t0, t1⟩ := hSw; obtain ⟨⟨x0, x1, x2, x3, x4, x5⟩, y0, y1, y2, y3, y4, y5⟩ := blk6 t1; go_simp; (first | done | with_reducible rfl))); (try simp only [Act.put, List.setIfInBounds_toArray, List.set_cons_zero, List.set_cons_succ]))
              have hEa : Ext w5.drew (w5.drew.alloc (.cells x.cells.toArray 104)) := (Ext.refl w5.drew).allocs _
              have hE5 : Ext w5 (w5.drew.alloc (.cells x.cells.toArray 104)) := Ext.trans (Below.drew (Ext.refl w5)) hEa
              have HBa : Hid (Blk (w5.drew.alloc (.cells x.cells.toArray 104)) w5.drew.heap.size 104 x.cells.toArray) := Blk.new w5.drew _ _
              have HCa := Lib.hid (HC5.out.ext hE5)
              refine sched_eff rfl (fun K hK => ?_)
              go_simp
              refine hK.out _ _ (HSS.out _ _ (grownBy_ext (row := none) hE5) (.inl rfl)) (fun hHeld => ?_)
              clear hK K
              try simp only [Act.put, List.setIfInBounds_toArray, List.set_cons_zero, List.set_cons_succ]
              refine sched_eff rfl (fun K hK => ?_)
              refine step_push_lies MgR.cells 6 64 MgR.len MgR.one (by omega) (by rfl) _ _ _ (by rfl) base 104 Try.underlying83 (by kernel_rfl) (.slice p.A p.F.length p.c) p.F x w5.drew.heap.size (by rfl) HCa.out.f.r (by rfl) (Seg.ofBlkK HBa.out rfl) (by unfold maxLen; omega) (by omega) (Nat.le_trans hz5 hE5.size) ?_
              intro g9 c9 w9 hown9 hg9 hd9
              have hgr := grownBy_trans (grownBy_ext (row := (Value.slice p.A p.F.length p.c).ownBlock) hE5) hg9
              refine hK.out _ _ (HSS.out _ _ hgr (.inr rfl)) (fun hHeld => ?_)
              clear hK K
              try simp only [Act.put, List.setIfInBounds_toArray, List.set_cons_zero, List.set_cons_succ]
              iterate 2 ((refine sched_read (v := ?_) rfl (Or.inl ⟨by rfl, ?_⟩) hHeld ?_; rotate_left 1; · (intro w' hSw; obtain ⟨t0, t1⟩ := hSw; go_simp; (first | done | with_reducible rfl))); (try simp only [Act.put, List.setIfInBounds_toArray, List.set_cons_zero, List.set_cons_succ]))
              have hty : TyRow w5 (Value.slice p.A p.F.length p.c).ownBlock (fun t => t = 104) := TyRow.own HC5.out.f.r rfl
              have hf9 : FlM MgR.cells 6 104 w9 base (some ⟨g9, 0, none⟩) c9 (p.F ++ [x]) := ⟨by have := hown9; simpa using this, fun y hy => by
                rcases List.mem_append.1 hy with hy | hy
                · exact own_typed (HC5.out.f.k y hy) hgr (hty.imp fun t e => by subst e; decide)
                · rw [List.mem_singleton] at hy
                  subst hy
                  exact own_typed HO5'.out hgr (hty.imp fun t e => by subst e; decide)⟩
              have HC9 := Lib.hid (HC5.out.set_fl hgr hty hf9)
              have hfz9 : w9.frozen? ⟨g, 4, none⟩ = false := (blk_typed HC5.out.b hgr (hty.imp fun t e => by subst e; decide)).frozen 4
              have HL9 : Hid (Below base w2 (w9.setCell ⟨g, 4, none⟩ (.slice (some ⟨g9, 0, none⟩) (p.F ++ [x]).length c9))) := Below.setCell (Below.trans HL5.out (Below.grown (Below.refl base w5) hgr hz5 (fun k hk => (HC5.out.f.r.lt k hk).1))) H.out.z _
              have hl1 : (p.F ++ [x]).length = p.F.length + 1 := by simp
              rw [hl1] at HC9 HL9
              clear hown9 hg9 hd9 hgr hty hf9 hE5 hEa hl1
              refine sched_tail rfl (by decide) (fun K hK => ?_)
              go_simp
              refine hK.out _ _ ?_
              clear hK K
              refine sched_done ?_
              go_wp2_with fail
              (try simp only [Exit.inBlock, Exit.then]); refine bodyPost_ret (results_none rfl _ _ _) rfl ?_
              refine ⟨rfl, _, HC9.out, ?_, HL9.out⟩
              simp [Cp.st, HX.out]
        · have HV : Hid (canSend n p.st a b = false) := by
            show _ = _
            have hf3 : decide (p.st.fl.length < 256) = false := decide_eq_false (by simpa [Cp.st] using hfl2)
            unfold canSend
            rw [hf3, Bool.and_false]
          rw [HV.out, if_neg (by simp)]
          have hfe : p.F.length = 256 := by omega
          have hab' : (a == b) = false := by simpa using hab
          have hfe' : decide ((256 : Int) ≤ (p.F.length : Int)) = true := decide_eq_true (by omega)
          clear hfl hfl2 hfe
          go_enter Try.func49, Try.ntmps49
          go_wp2_with (refine (HP.out _).mono ?_)
          rintro e w1 ⟨rfl, rfl⟩
          rw [ha]
          go_wp2_with (refine (HP.out _).mono ?_)
          rintro e w2 ⟨rfl, rfl⟩
          rw [hbp]
          go_wp2_with fail
          (try simp only [Exit.inBlock, Exit.then]); refine bodyPost_ret (results_none rfl _ _ _) rfl ?_
          exact CpPost.same H.out
    · have hbf : okProc n b = false := by simpa using hbp
      have HV : Hid (canSend n p.st a b = false) := by show _ = _; simp [canSend, hbf]
      rw [HV.out, if_neg (by simp)]
      go_enter Try.func49, Try.ntmps49
      go_wp2_with (refine (HP.out _).mono ?_)
      rintro e w1 ⟨rfl, rfl⟩
      rw [ha]
      go_wp2_with (refine (HP.out _).mono ?_)
      rintro e w2 ⟨rfl, rfl⟩
      rw [hbf]
      go_wp2_with fail
      (try simp only [Exit.inBlock, Exit.then]); refine bodyPost_ret (results_none rfl _ _ _) rfl ?_
      exact CpPost.same H.out
  · have haf : okProc n a = false := by simpa using ha
    have HV : Hid (canSend n p.st a b = false) := by show _ = _; simp [canSend, haf]
    rw [HV.out, if_neg (by simp)]
    go_enter Try.func49, Try.ntmps49
    go_wp2_with (refine (HP.out _).mono ?_)
    rintro e w1 ⟨rfl, rfl⟩
    rw [haf]
    go_wp2_with fail
    (try simp only [Exit.inBlock, Exit.then]); refine bodyPost_ret (results_none rfl _ _ _) rfl ?_
    exact CpPost.same H.out
end Go.Proofs.Ytfnnoncdocghjaa
