/- knowledge.memory: the memory of two lists. No statement of the seat is proved here. -/
import Derived.Test.YtfnnoncdocghjaaCloneK
import Derived.Test.YtfnnoncdocghjaaRowK
import Derived.Test.YtfnnoncdocghjaaMemPlain2
import Derived.Test.YtfnnoncdocghjaaSched
import Derived.Test.YtfnnoncdocghjaaHasK
import Derived.Test.YtfnnoncdocghjaaStableK
namespace Go.Proofs.Ytfnnoncdocghjaa
open Go.RowKit Go.Shelf Go.Lib Go.Sort
set_option linter.unusedVariables false
set_option maxRecDepth 100000

theorem own_two {w : World} {base s n : Nat} {e : TypeId} {v : Value} {xs : List Value} (h : w.ownsRow base e s v n xs) : (v = .slice none 0 0 ∧ n = 0) ∨ ∃ g c, v = .slice (some ⟨g, 0, none⟩) n c := by
  rcases h.2 with ⟨h1, h2⟩ | ⟨g, cap, cur, hv, _⟩
  · exact .inl ⟨h1, h2⟩
  · exact .inr ⟨g, cap, hv⟩
theorem grown_set1 (w : World) (g o : Nat) (v : Value) : w.grownBy (w.setCell ⟨g, o, none⟩ v) (some g) :=
  ⟨rfl, rfl, rfl, by simp [World.setCell], fun k hk hne => Below.heap_setCell _ _ _ _ (fun e => hne (by rw [e]))⟩
theorem sort_ownK (w0 : World) (v : Value) (l : List Kn) (w : World) (hE : Ext w0 w) (hown : w.ownsRow w0.heap.size 34 10 v l.length (l.flatMap Kn.cells)) (hsz : l.length ≤ 1000) :
    Calls Try.prog 61 #[v, .func (.func 62) #[] #[]] w fun e w' => e = .returned (.tuple #[]) ∧ Ext w0 w' ∧ ∃ l' : List Kn, l'.Perm l ∧ l'.Pairwise (fun a b => cmpD a.d b.d ≤ 0) ∧ w'.ownsRow w0.heap.size 34 10 v l'.length (l'.flatMap Kn.cells) := by
  rcases own_two hown with ⟨rfl, hn⟩ | ⟨g, c, rfl⟩
  · have hl : l = [] := List.eq_nil_of_length_eq_zero hn
    subst hl
    refine (AnyF.slices_SortFunc_none Try.sortKn none 0 _ w).mono ?_
    rintro e w' ⟨rfl, rfl⟩
    exact ⟨rfl, hE, [], List.Perm.refl _, List.Pairwise.nil, hown⟩
  · obtain ⟨hrow, hgb⟩ := row_of_own hown
    have hsh := shp_of_own hown
    obtain ⟨A, c', e, _, hc, hcm⟩ := own_slice hown
    injection e with e1 _ e2
    subst e2
    refine (sort_rowK g c l w hrow hsz).mono ?_
    rintro e w' ⟨rfl, hG, l', hp, hs, hR⟩
    have hll : l'.length = l.length := hp.length_eq
    refine ⟨rfl, Ext.grownRow hE hgb hG.1, l', hp, hs, ?_⟩
    have := own_of_row hR (hG.2 _ hsh) (by omega) hcm hgb
    rw [hll] at this ⊢
    exact this

theorem mem_last {l : List Kn} {L : List Kn} {x k : Kn} {j : Nat} (hj : j < l.length) (hs : l.Pairwise (fun a b => cmpD a.d b.d ≤ 0)) (hk : l[j] = k) (h : MemOf (l.take j) (L ++ [x])) (hne : x.d ≠ k.d) : ∀ y ∈ L ++ [x], cmpD y.d k.d < 0 := by
  have hle : ∀ y ∈ L ++ [x], cmpD y.d k.d ≤ 0 := fun y hy => by
    obtain ⟨z, hz, ez⟩ := (h.dets y.d).1 ⟨y, hy, rfl⟩
    obtain ⟨i, hi, rfl⟩ := List.mem_iff_getElem.1 hz
    have hi2 : i < j := by rw [List.length_take] at hi; omega
    rw [← ez, ← hk, List.getElem_take]
    exact List.pairwise_iff_getElem.1 hs i j (by omega) hj hi2
  have hx : cmpD x.d k.d < 0 := by
    have h1 := hle x (by simp)
    have h2 : cmpD x.d k.d ≠ 0 := fun e => hne ((cmpD_zero _ _).1 e)
    omega
  intro y hy
  rcases List.mem_append.1 hy with hy | hy
  · have hasc := h.asc
    rw [List.map_append] at hasc
    have := (List.pairwise_append.1 hasc).2.2 y.d (List.mem_map.2 ⟨y, hy, rfl⟩) x.d (by simp)
    exact cmpD_lt_trans this hx
  · rw [List.mem_singleton] at hy; subst hy; exact hx
/-- one cell of an element -/
theorem flat_set1 {α : Type} (f : α → List Value) (s : Nat) (hs : 0 < s) (hf : ∀ a, (f a).length = s) (l : List α) (j : Nat) (x : α) (hj : j < l.length) (o : Nat) (ho : o < s) (v : Value) (hx : f x = (f l[j]).set o v) :
    (l.flatMap f).set (j * s + o) v = (l.set j x).flatMap f := by
  rw [← setAll_flat f s hs hf l j x hj]
  refine List.ext_getElem? fun q => ?_
  rw [setAll_get, hf, flat_len f s hf, List.getElem?_set, flat_len f s hf]
  have hjl : (j + 1) * s ≤ l.length * s := Nat.mul_le_mul_right _ hj
  rw [Nat.add_mul] at hjl
  have hbase : ∀ i, i < s → (l.flatMap f)[j * s + i]? = (f l[j])[i]? := fun i hi => flat_get f s hf l j i l[j] (List.getElem?_eq_getElem hj) hi
  by_cases hq : j * s ≤ q ∧ q < j * s + s
  · rw [if_pos (show j * s ≤ q ∧ q < j * s + s ∧ q < l.length * s by omega)]
    obtain ⟨i, rfl⟩ : ∃ i, q = j * s + i := ⟨q - j * s, by omega⟩
    rw [show j * s + i - j * s = i by omega, hx, List.getElem?_set, hf]
    by_cases hio : o = i
    · subst hio
      rw [if_pos rfl, if_pos rfl, if_pos (by omega), if_pos ho]
    · rw [if_neg (by omega), if_neg hio, hbase i (by omega)]
  · rw [if_neg (show ¬ j * s + o = q by omega), if_neg (by omega)]

theorem own_setH {w : World} {base g c n : Nat} {l : List Kn} (h : w.ownsRow base 34 10 (.slice (some ⟨g, 0, none⟩) n c) n (l.flatMap Kn.cells)) {i : Nat} (hi : i < l.length) (y : Kn) (hy : y.d = l[i].d) :
    (w.setCell ⟨g, i * 10 + 9, none⟩ (.int .u32 y.h)).ownsRow base 34 10 (.slice (some ⟨g, 0, none⟩) n c) n ((l.set i y).flatMap Kn.cells) := by
  have h2 := (h.stored (i * 10 + 9) (.int .u32 y.h)).1
  rwa [flat_set1 Kn.cells 10 (by omega) Kn.len l i y hi 9 (by omega) _ (by unfold Kn.cells; rw [hy]; rfl)] at h2
theorem set_last (O : List Kn) (x y : Kn) {n : Nat} (hn : O.length = n) : (O ++ [x]).set n y = O ++ [y] := by
  subst hn; simp

def MmRel (w1 : World) (l : List Kn) (g : Nat) (v i : Value) (wr : World) : Prop := ∃ (j : Nat) (o : List Kn), j ≤ l.length ∧ i = .int .i64 j ∧ g = l.length - j ∧ Ext w1 wr ∧ wr.ownsRow w1.heap.size 34 10 v o.length (o.flatMap Kn.cells) ∧ MemOf (l.take j) o ∧ o.length ≤ j
theorem blk10 {w : World} {g : Nat} {t : TypeId} {k : Kn} (h : Blk w g t k.cells.toArray) : w.cell? ⟨g, 0, none⟩ = some (.int .i64 k.d.proc) ∧ w.cell? ⟨g, 1, none⟩ = some (.int .i64 k.d.index) ∧ w.cell? ⟨g, 2, none⟩ = some (.int .i64 k.d.ev.kind) ∧ w.cell? ⟨g, 3, none⟩ = some (.int .i64 k.d.ev.inc) ∧ w.cell? ⟨g, 4, none⟩ = some (.int .i64 k.d.ev.frm) ∧ w.cell? ⟨g, 5, none⟩ = some (.int .i64 k.d.ev.sinc) ∧ w.cell? ⟨g, 6, none⟩ = some (.int .i64 k.d.ev.sidx) ∧ w.cell? ⟨g, 7, none⟩ = some (.int .i64 k.d.ev.ord) ∧ w.cell? ⟨g, 8, none⟩ = some (.int .i64 k.d.ev.val) ∧ w.cell? ⟨g, 9, none⟩ = some (.int .u32 k.h) :=
  ⟨(h.cell 0).trans rfl, (h.cell 1).trans rfl, (h.cell 2).trans rfl, (h.cell 3).trans rfl, (h.cell 4).trans rfl, (h.cell 5).trans rfl, (h.cell 6).trans rfl, (h.cell 7).trans rfl, (h.cell 8).trans rfl, (h.cell 9).trans rfl⟩
set_option maxHeartbeats 1600000 in
theorem memory_any (gS : Nat) (A B : Option Addr) (ca cb : Nat) (a b : List Kn) (w : World) (hS : Blk w gS 26 #[.slice A a.length ca, .slice B b.length cb]) (ha : KnSeg w A a) (hb : KnSeg w B b) (hla : a.length ≤ 700) (hlb : b.length ≤ 300) (hok : ∀ k ∈ a ++ b, okH k.h) :
    Calls Try.prog 45 #[.slice (some ⟨gS, 0, none⟩) 2 2] w (OwnPostK (memV (a ++ b)) w) := by
  have HC := Lib.hid (concat_two gS A B ca cb a b w hS ha hb hla hlb)
  have HOK := Lib.hid hok
  have hLl : (a ++ b).length ≤ 1000 := by rw [List.length_append]; omega
  clear hS ha hb hok
  generalize a ++ b = L at HC hLl HOK ⊢
  clear hla hlb
  go_enter Try.func45, Try.ntmps45
  go_wp2_with fail
  refine HC.out.mono ?_
  rintro e w1 ⟨v, rfl, hown, hE1⟩
  clear HC
  go_wp2_with fail
  refine (sort_ownK w v L w1 hE1 hown hLl).mono ?_
  rintro e w2 ⟨rfl, hE2, l, hp, hs, hown2⟩
  clear hown hE1
  obtain ⟨A2, c2, rfl, hs2, -, -⟩ := own_slice hown2
  clear hown2
  have hln : l.length ≤ 1000 := by rw [hp.length_eq]; exact hLl
  have hln' : (l.length : Int) ≤ 1000 := by omega
  have HP := Lib.hid hp
  have HS := Lib.hid hs
  have HS2 := Lib.hid hs2
  have HE2 := Lib.hid hE2
  clear hp hs hs2 hE2 hLl
  have HKO : Hid (∀ k ∈ l, okH k.h) := fun k hk => HOK.out k (HP.out.mem_iff.1 hk)
  go_wp2_with fail
  go_loopg [4, 14] l.length (fun g v i wr => MmRel w2 l g v i wr)
  case atStart => exact ⟨0, [], Nat.zero_le _, rfl, rfl, Ext.refl w2, own_nil _ _ _ _ _, MemOf.nil, Nat.le_refl _⟩
  case round =>
    obtain ⟨j, o, hj, rfl, rfl, hE, hown, hM, hoj⟩ := hrel
    by_cases hlt : j < l.length
    · obtain ⟨b, off, rfl, p0, p1, p2, p3, p4, p5, p6, p7, p8, p9⟩ := Kn.at_ (HS2.out.ext hE) hlt
      have HT : Hid (l.take (j + 1) = l.take j ++ [l[j]]) := List.take_succ_eq_append_getElem hlt
      have hk := HKO.out _ (List.getElem_mem hlt)
      obtain ⟨k, ek⟩ : ∃ k, l[j] = k := ⟨_, rfl⟩
      have HK := Lib.hid ek
      rw [ek] at p0 p1 p2 p3 p4 p5 p6 p7 p8 p9 HT hk
      clear ek
      have HM := Lib.hid hM
      have HE := Lib.hid hE
      have HOKk := Lib.hid hk
      clear hM hk
      have hz := hE.size
      have HBK : Hid (Blk (wr.alloc (.cells k.cells.toArray 34)) wr.heap.size 34 k.cells.toArray) := Blk.new wr _ _
      obtain ⟨f0, f1, f2, f3, f4, f5, f6, f7, f8, f9⟩ := blk10 HBK.out
      rcases List.eq_nil_or_concat o with rfl | ⟨O, x, rfl⟩
      · obtain ⟨Av, cv, rfl, -, -, -⟩ := own_slice hown
        have HO := Lib.hid hown
        clear hown
        have HMk : Hid (MemOf (l.take (j + 1)) ([] ++ [k])) := by show MemOf _ _; rw [HT.out]; exact HM.out.push HOKk.out (by simp)
        go_wp2_with fail
        go_quiet (fail)
        go_wp2_with (at_builtin; refine wpList_push_at Kn.cells 10 80 Kn.len Kn.one (by omega) rfl _ _ _ rfl w2.heap.size 34 Try.underlying26 (by kernel_rfl) (.slice Av ([] : List Kn).length cv) ([] : List Kn) k (wr.heap.size + 1) rfl (own_ext HO.out (((Ext.refl wr).allocs _).drewN nq)) rfl (by first | rfl | simp) (by unfold maxLen; simp) (by simp) (by simp; omega) ?_; intro v' w6 hown6 hg6)
        have hE6 : Ext w2 w6 := Ext.own ((HE.out.allocs _).drewN nq) (own_ext HO.out (((Ext.refl wr).allocs _).drewN nq)) (Nat.le_refl _) hg6
        go_roundg (l.length - (j + 1))
        case measure => omega
        case rel => exact ⟨j + 1, _, by omega, by go_num, rfl, hE6, hown6, HMk.out, by simp⟩
      · rw [List.concat_eq_append] at *
        obtain ⟨n, hn⟩ : ∃ n, O.length = n := ⟨_, rfl⟩
        have hol : (O ++ [x]).length = n + 1 := by simp [hn]
        rw [hol] at hown
        obtain ⟨gO, cv, rfl⟩ : ∃ gO cv, u4 = .slice (some ⟨gO, 0, none⟩) (n + 1) cv := by
          rcases own_two hown with ⟨_, h⟩ | h
          · omega
          · exact h
        have HO := Lib.hid hown
        have hxc : ∀ i (u : Value), i < 10 → x.cells[i]? = some u → wr.cell? ⟨gO, n * 10 + i, none⟩ = some u := fun i u hi hu => by
          rw [hown.cellAt (n * 10 + i) (by omega), flat_get Kn.cells 10 Kn.len (O ++ [x]) n i x (by simp [← hn]) hi, hu]
        have hgs : gO < wr.heap.size := by
          have := (hown.lt gO rfl).2
          exact this
        have HX : Hid (∀ W, Ext wr W → KnAt W gO (n * 10) x) := fun W hW => by
          have hc : ∀ i (u : Value), i < 10 → x.cells[i]? = some u → W.cell? ⟨gO, n * 10 + i, none⟩ = some u := fun i u hi hu => (hW.cell (p := ⟨gO, n * 10 + i, none⟩) hgs).trans (hxc i u hi hu)
          exact ⟨hc 0 _ (by omega) rfl, hc 1 _ (by omega) rfl, hc 2 _ (by omega) rfl, hc 3 _ (by omega) rfl, hc 4 _ (by omega) rfl, hc 5 _ (by omega) rfl, hc 6 _ (by omega) rfl, hc 7 _ (by omega) rfl, hc 8 _ (by omega) rfl, hc 9 _ (by omega) rfl⟩
        have heq := fun w => eql_det w x.d k.d
        obtain ⟨x0, x1, x2, x3, x4, x5, x6, x7, x8, x9⟩ := HX.out wr (Ext.refl wr)
        clear hxc hown hol
        have hn1000 : n + 1 ≤ j := by simpa [hn] using hoj
        by_cases hsm : x.d = k.d
        · rw [(Dt.same_iff _ _).2 hsm] at heq
          have HSM := Lib.hid hsm
          have HMk : Hid (MemOf (l.take (j + 1)) (O ++ [orK x k])) := by show MemOf _ _; rw [HT.out]; exact HM.out.join HOKk.out hsm
          go_wp2_with fail
          go_quiet (fail)
          go_wp2_with fail
          clear x0 x1 x2 x3 x4 x5 x6 x7 x8 x9 heq p0 p1 p2 p3 p4 p5 p6 p7 p8 p9 f0 f1 f2 f3 f4 f5 f6 f7 f8 f9
          obtain ⟨wa, hwa⟩ : ∃ wa, (wr.alloc (.cells k.cells.toArray 34)).drewN nq = wa := ⟨_, rfl⟩
          have hEa : Ext wr wa := by rw [← hwa]; exact ((Ext.refl wr).allocs _).drewN nq
          have HBa : Hid (∀ W, Ext wa W → W.cell? ⟨wr.heap.size, 9, none⟩ = some (.int .u32 k.h)) := fun W hW => by
            have h1 := (HBK.out.ext (Ext.trans (by rw [← hwa]; exact (Ext.refl _).drewN nq) hW) : Blk W _ _ _)
            exact (blk10 h1).2.2.2.2.2.2.2.2.2
          have hwa' := hwa
          unfold Kn.cells at hwa'
          rw [hwa']
          clear hwa hwa'
          have HEa := Lib.hid hEa
          clear hEa
          have hwn : IntKind.i64.wrap ((n : Int)) = (n : Int) := by rw [IntKind.wrap_i64]; omega
          have hn0 : (0 : Int) ≤ (n : Int) := by omega
          have hn1 : (n : Int) < (n : Int) + 1 := by omega
          refine wp_region_sched (by kernel_rfl) 11 [(0, true), (1, true), (2, true), (3, true), (4, true), (5, true), (6, true), (7, true), (8, true), (9, true), (10, true), (11, false)] (fun W => W.cell? ⟨gO, n * 10 + 9, none⟩ = some (.int .u32 x.h) ∧ W.cell? ⟨wr.heap.size, 9, none⟩ = some (.int .u32 k.h)) (by kernel_rfl) (fun _ _ dd _ _ h => by cases dd <;> exact h) ⟨(HX.out _ (Below.drew HEa.out)).2.2.2.2.2.2.2.2.2, HBa.out _ (Below.drew (Ext.refl wa))⟩ (fun hHeld => ?_)
          iterate 11 ((refine sched_read (v := ?_) rfl (Or.inl ⟨by rfl, ?_⟩) hHeld ?_; rotate_left 1; · (intro w' hSw; obtain ⟨t0, t1⟩ := hSw; go_simp; (first | done | with_reducible rfl))); (try simp only [Act.put, List.setIfInBounds_toArray, List.set_cons_zero, List.set_cons_succ]))
          have HOa : Hid ((wa.drew.setCell ⟨gO, n * 10 + 9, none⟩ (.int .u32 (orK x k).h)).ownsRow w2.heap.size 34 10 (.slice (some ⟨gO, 0, none⟩) (n + 1) cv) (n + 1) ((O ++ [orK x k]).flatMap Kn.cells)) := by
            have h1 := own_setH (own_ext HO.out (Below.drew HEa.out)) (i := n) (by simp [← hn]) (orK x k) (by simp [← hn]; rfl)
            rwa [set_last O x (orK x k) hn] at h1
          have HEb : Hid (Ext w2 (wa.drew.setCell ⟨gO, n * 10 + 9, none⟩ (.int .u32 (orK x k).h))) := Below.setCell (Below.drew (Ext.trans HE.out HEa.out)) ((HO.out.lt gO rfl).1) _
          have hfz : wa.drew.frozen? ⟨gO, n * 10 + 9, none⟩ = false := (own_ext HO.out (Below.drew HEa.out)).frozenAt _
          refine sched_tail rfl (by decide) (fun K hK => ?_)
          go_simp
          refine hK.out _ _ ?_
          clear hK K
          refine sched_done ?_
          go_wp2_with fail
          go_roundg (l.length - (j + 1))
          case measure => omega
          case rel => exact ⟨j + 1, _, by omega, by go_num, rfl, HEb.out, by rw [show (O ++ [orK x k]).length = n + 1 by simp [hn]]; exact HOa.out, HMk.out, by simp [hn]; omega⟩
        · rw [Dt.same_ne hsm] at heq
          have HMk : Hid (MemOf (l.take (j + 1)) (O ++ [x] ++ [k])) := by show MemOf _ _; rw [HT.out]; exact HM.out.push HOKk.out (mem_last hlt HS.out HK.out HM.out hsm)
          have HOl : Hid (wr.ownsRow w2.heap.size 34 10 (.slice (some ⟨gO, 0, none⟩) (n + 1) cv) (O ++ [x]).length ((O ++ [x]).flatMap Kn.cells)) := by show World.ownsRow _ _ _ _ _ _ _; rw [show (O ++ [x]).length = n + 1 by simp [hn]]; exact HO.out
          have hol : (O ++ [x]).length = n + 1 := by simp [hn]
          have HOL := Lib.hid hol
          clear hol
          go_wp2_with fail
          go_quiet (fail)
          clear x0 x1 x2 x3 x4 x5 x6 x7 x8 x9 heq p0 p1 p2 p3 p4 p5 p6 p7 p8 p9
          go_wp2_with (at_builtin; refine wpList_push_at Kn.cells 10 80 Kn.len Kn.one (by omega) rfl _ _ _ rfl w2.heap.size 34 Try.underlying26 (by kernel_rfl) (.slice (some ⟨gO, 0, none⟩) (n + 1) cv) (O ++ [x]) k (wr.heap.size + 1) rfl (own_ext HOl.out (((Ext.refl wr).allocs _).drewN nq)) rfl (by first | rfl | simp) (by rw [HOL.out]; unfold maxLen; omega) (by rw [HOL.out]; omega) (by simp; omega) ?_; intro v' w6 hown6 hg6)
          have hE6 : Ext w2 w6 := Ext.own ((HE.out.allocs _).drewN nq) (own_ext HOl.out (((Ext.refl wr).allocs _).drewN nq)) (Nat.le_refl _) hg6
          go_roundg (l.length - (j + 1))
          case measure => omega
          case rel => exact ⟨j + 1, _, by omega, by go_num, rfl, hE6, hown6, HMk.out, by simp [hn]; omega⟩
    · obtain rfl : j = l.length := by omega
      rw [List.take_of_length_le (Nat.le_refl _)] at hM
      have HV : Hid (o = memV L) := (hM.congr fun x => HP.out.mem_iff).eqV HOK.out
      have HE := Lib.hid hE
      have HO := Lib.hid hown
      clear hM hE hown
      go_wp2_with fail
      go_ret
      refine ⟨_, rfl, ?_, Ext.trans HE2.out HE.out⟩
      rw [← HV.out]
      exact own_base HO.out HE2.out.size
end Go.Proofs.Ytfnnoncdocghjaa
