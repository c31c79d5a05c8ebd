/- Stable of the reference. No statement of the seat is proved here. -/
import Derived.Test.YtfnnoncdocghjaaSelK
import Derived.Test.YtfnnoncdocghjaaBitK
import Derived.Test.YtfnnoncdocghjaaSched
import Derived.Deep.AppendLies
namespace Go.Proofs.Ytfnnoncdocghjaa
open Go.RowKit
set_option linter.unusedVariables false
set_option maxRecDepth 100000

theorem step_push_lies {P : Program} {α : Type} (f : α → List Value) (s bytes : Nat) (hf : ∀ a, (f a).length = s) (h1 : ∀ a, ∀ u ∈ f a, u.oneCell' = true) (hs0 : 0 < s)
    {w : World} {ops : Array Oper} {o : Oper} {a : Act} {K : Act → World → Prop} {Q : Exit → Act → World → Prop} {E : Prop} (hgd : o.guard = none) (so xo : Operand) (t : TypeId)
    (ho : o.op = .call { callee := .builtin .append, args := #[so, xo], argTypes := #[t, t] })
    (base : Nat) (e : TypeId) (ht : P.underlying t = some (.slice e)) (hinfo : elemOf P e = some (s, s, bytes))
    (v : Value) (l : List α) (x : α) (gx : Nat) (hso : a.eval so = v) (hown : w.ownsRow base e s v l.length (l.flatMap f)) (hxo : a.eval xo = .slice (some ⟨gx, 0, none⟩) 1 1) (hseg : Seg w s (some ⟨gx, 0, none⟩) 1 (f x))
    (h63 : l.length + 1 ≤ maxLen) (hbytes : (l.length + 1) * bytes ≤ 140737488355328) (hbase : base ≤ w.heap.size)
    (h : ∀ g cap w', w'.ownsRow base e s (.slice (some ⟨g, 0, none⟩) (l.length + 1) cap) (l ++ [x]).length ((l ++ [x]).flatMap f) → w.grownBy w' v.ownBlock → (v.ownBlock = some g ∨ g = w.heap.size) → K (a.put o.dst (.slice (some ⟨g, 0, none⟩) (l.length + 1) cap)) w') :
    if Region.wanted o (yielded ops a.tmps) = true then Oper.wp P o a w K Q else E := by
  obtain ⟨i, z, hi, hz, hsz, hby, hzs⟩ := elemOf_some hinfo
  refine step_append_lies w hgd so xo t ho base e i z s bytes ht hi hz hsz hby hzs hs0 v l.length (l.flatMap f) hso hown ⟨gx, 0, none⟩ 1 1 (f x) hxo (by rw [hf]; omega) ?_ (h1 x) (by omega) h63 hbytes hbase w.heap.size rfl ?_
  · intro j u hu
    obtain ⟨b, off, hA, _, hc⟩ := hseg.2 (by omega)
    injection hA with hA
    injection hA with hA1 hA2
    subst hA1 hA2
    have ha : (⟨gx, 0, none⟩ : Addr).add j = ⟨gx, 0 + j, none⟩ := by unfold Addr.add; split <;> simp_all
    rw [ha]
    exact hc j u hu
  · intro g cap w' h2 h3 h4 _
    refine h g cap w' ?_ h3 h4
    rw [List.flatMap_append, List.length_append]
    simpa using h2
theorem Seg.ofBlkK {W : World} {g : Nat} {t : TypeId} {cs : List Value} {s n : Nat} (h : Blk W g t cs.toArray) (hl : cs.length = n * s) : Seg W s (some ⟨g, 0, none⟩) n cs :=
  ⟨hl, fun _ => ⟨g, 0, rfl, h.lt, fun j u hu => by rw [Nat.zero_add, h.cell, List.getElem?_toArray, hu]⟩⟩
def stK (m : Nat) (k : Kn) : Kn := ⟨k.d, bits .or .u32 k.h ((2 : Int) ^ m - 1)⟩
def KnAt (W : World) (b o : Nat) (x : Kn) : Prop := W.cell? ⟨b, o, none⟩ = some (.int .i64 x.d.proc) ∧ W.cell? ⟨b, o + 1, none⟩ = some (.int .i64 x.d.index) ∧ W.cell? ⟨b, o + 2, none⟩ = some (.int .i64 x.d.ev.kind) ∧ W.cell? ⟨b, o + 3, none⟩ = some (.int .i64 x.d.ev.inc) ∧ W.cell? ⟨b, o + 4, none⟩ = some (.int .i64 x.d.ev.frm) ∧ W.cell? ⟨b, o + 5, none⟩ = some (.int .i64 x.d.ev.sinc) ∧ W.cell? ⟨b, o + 6, none⟩ = some (.int .i64 x.d.ev.sidx) ∧ W.cell? ⟨b, o + 7, none⟩ = some (.int .i64 x.d.ev.ord) ∧ W.cell? ⟨b, o + 8, none⟩ = some (.int .i64 x.d.ev.val) ∧ W.cell? ⟨b, o + 9, none⟩ = some (.int .u32 x.h)
def SbRel (w : World) (l : List Kn) (m : Nat) (g : Nat) (v i : Value) (wr : World) : Prop := ∃ j : Nat, j ≤ l.length ∧ i = .int .i64 j ∧ g = l.length - j ∧ Ext w wr ∧ wr.ownsRow w.heap.size 34 10 v ((l.take j).map (stK m)).length (((l.take j).map (stK m)).flatMap Kn.cells)
theorem map_take_stK (m : Nat) (l : List Kn) (j : Nat) (hj : j < l.length) : (l.take (j + 1)).map (stK m) = (l.take j).map (stK m) ++ [stK m l[j]] := by
  rw [List.take_succ_eq_append_getElem hj, List.map_append]
  rfl
set_option maxHeartbeats 1600000 in
theorem stable_ref (A : Option Addr) (c : Nat) (l : List Kn) (n : Int) (m : Nat) (hm : min (max n 0) 32 = (m : Int)) (w : World) (hs : KnSeg w A l) (hn : l.length ≤ 1000) :
    Calls Try.prog 37 #[.slice A l.length c, .int .i64 n] w (OwnPostK (l.map (stK m)) w) := by
  have HS := Lib.hid hs
  clear hs
  go_enter Try.func37, Try.ntmps37
  go_wp2_with fail
  go_loopg [5, 6] l.length (fun g v i wr => SbRel w l m g v i wr)
  case atStart => exact ⟨0, Nat.zero_le _, rfl, rfl, Ext.refl w, own_nil _ _ _ _ _⟩
  case round =>
    obtain ⟨j, hj, rfl, rfl, hE, hown⟩ := hrel
    by_cases hlt : j < l.length
    · obtain ⟨b, off, rfl, -⟩ := Kn.at_ (HS.out.ext hE) hlt
      have HX : Hid (∀ W, Ext w W → KnAt W b (off + j * 10) l[j]) := fun W hW => by
        obtain ⟨b', off', e, h⟩ := Kn.at_ (HS.out.ext hW) hlt
        injection e with e
        injection e with e1 e2
        subst e1 e2
        exact h
      have HT := Lib.hid (map_take_stK m l j hlt)
      have HL : ((l.take j).map (stK m)).length ≤ l.length := by rw [List.length_map, List.length_take]; omega
      obtain ⟨x, hx⟩ : ∃ x, l[j] = x := ⟨_, rfl⟩
      rw [hx] at HX HT
      clear hx
      obtain ⟨L, hL⟩ : ∃ L, (l.take j).map (stK m) = L := ⟨_, rfl⟩
      rw [hL] at HT HL hown
      clear hL
      obtain ⟨Av, cv, rfl, -, -, -⟩ := own_slice hown
      have HO := Lib.hid hown
      have HE := Lib.hid hE
      clear hown hE
      have hj0 : (0 : Int) ≤ (j : Int) := by omega
      have hj1 : (j : Int) < (l.length : Int) := by omega
      have HA := Lib.hid (fun w => all_any n m hm w)
      clear hm
      go_upto_region 5 with fail
      refine wp_region_sched (by kernel_rfl) 16 [(0, true), (1, true), (2, true), (3, true), (4, true), (5, true), (6, true), (7, true), (8, true), (9, true), (10, true), (11, true), (12, false), (13, true), (14, true), (15, false), (16, false), (17, false)] (fun w' => KnAt w' b (off + j * 10) x) (by kernel_rfl) (fun _ _ dd _ _ h => by cases dd <;> exact h) (HX.out _ (Below.drew HE.out)) (fun hHeld => ?_)
      iterate 12 ((refine sched_read (v := ?_) rfl (Or.inl ⟨by rfl, ?_⟩) hHeld ?_; rotate_left 1; · (intro w' hSw; obtain ⟨t0, t1, t2, t3, t4, t5, t6, t7, t8, t9⟩ := hSw; go_simp; (first | done | with_reducible rfl))); (try simp only [Act.put, List.setIfInBounds_toArray, List.set_cons_zero, List.set_cons_succ]))
      refine sched_eff rfl (fun K hK => ?_)
      go_simp
      refine (HA.out _).mono ?_
      rintro e w2 ⟨rfl, rfl⟩
      go_wp2_with fail
      refine hK.out _ _ (HX.out _ (Below.drew HE.out)) (fun hHeld => ?_)
      clear hK K
      try simp only [Act.put, List.setIfInBounds_toArray, List.set_cons_zero, List.set_cons_succ]
      iterate 2 ((refine sched_read (v := ?_) rfl (Or.inl ⟨by rfl, ?_⟩) hHeld ?_; rotate_left 1; · (intro w' hSw; obtain ⟨t0, t1, t2, t3, t4, t5, t6, t7, t8, t9⟩ := hSw; go_simp; (first | done | with_reducible rfl))); (try simp only [Act.put, List.setIfInBounds_toArray, List.set_cons_zero, List.set_cons_succ]))
      have hEa : Ext wr.drew (wr.drew.alloc (.cells (Kn.cells (stK m x)).toArray 34)) := (Ext.refl wr.drew).allocs _
      have HBa : Hid (Blk (wr.drew.alloc (.cells (Kn.cells (stK m x)).toArray 34)) wr.drew.heap.size 34 (Kn.cells (stK m x)).toArray) := Blk.new wr.drew _ _
      refine sched_eff rfl (fun K hK => ?_)
      go_simp
      refine hK.out _ _ (HX.out _ (Ext.allocs (Below.drew HE.out) _)) (fun hHeld => ?_)
      clear hK K
      try simp only [Act.put, List.setIfInBounds_toArray, List.set_cons_zero, List.set_cons_succ]
      refine sched_tail rfl (by decide) (fun K hK => ?_)
      refine step_push_lies Kn.cells 10 80 Kn.len Kn.one (by omega) (by rfl) _ _ _ (by rfl) w.heap.size 34 Try.underlying26 (by kernel_rfl) (.slice Av L.length cv) L (stK m x) wr.drew.heap.size (by rfl) (own_ext (own_ext HO.out (Below.drew (Ext.refl wr))) hEa) (by rfl) (Seg.ofBlkK HBa.out rfl) (by unfold maxLen; omega) (by omega) (Nat.le_trans HE.out.size hEa.size) ?_
      intro g9 c9 w9 hown9 hg9 hd9
      have hE9 : Ext w w9 := Ext.own (Ext.allocs (Below.drew HE.out) _) (own_ext (own_ext HO.out (Below.drew (Ext.refl wr))) hEa) (Nat.le_refl _) hg9
      refine hK.out _ _ ?_
      clear hK K
      try simp only [Act.put, List.setIfInBounds_toArray, List.set_cons_zero, List.set_cons_succ]
      refine sched_tail rfl (by decide) (fun K hK => ?_)
      go_simp
      refine hK.out _ _ ?_
      clear hK K
      refine sched_done ?_
      have HO9 := Lib.hid hown9
      have HE9 := Lib.hid hE9
      clear hown9 hg9 hd9 hE9
      go_wp2_with fail
      go_roundg (l.length - (j + 1))
      case measure => omega
      case rel => exact ⟨j + 1, by omega, by go_num, rfl, HE9.out, by rw [HT.out]; have := HO9.out; simpa using this⟩
    · obtain rfl : j = l.length := by omega
      rw [List.take_of_length_le (Nat.le_refl _)] at hown
      go_wp2_with fail
      go_ret
      exact ⟨_, rfl, hown, hE⟩
end Go.Proofs.Ytfnnoncdocghjaa
