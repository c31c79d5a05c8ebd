/- Add, Merge and Stable of package knowledge. No statement of the seat is proved here. -/
import Derived.Test.YtfnnoncdocghjaaMemory
import Derived.Test.YtfnnoncdocghjaaPlayPlain
import Derived.Test.YtfnnoncdocghjaaBitK
namespace Go.Proofs.Ytfnnoncdocghjaa
open Go.RowKit Go.Shelf Go.Lib
set_option linter.unusedVariables false
set_option maxRecDepth 100000

abbrev Kn.val (k : Kn) : Value := .agg #[.int .i64 k.d.proc, .int .i64 k.d.index, .int .i64 k.d.ev.kind, .int .i64 k.d.ev.inc, .int .i64 k.d.ev.frm, .int .i64 k.d.ev.sinc, .int .i64 k.d.ev.sidx, .int .i64 k.d.ev.ord, .int .i64 k.d.ev.val, .int .u32 k.h]
set_option maxHeartbeats 1600000 in
theorem add_any (A : Option Addr) (c : Nat) (l : List Kn) (k : Kn) (w : World) (hs : KnSeg w A l) (hn : l.length ≤ 700) (hok : ∀ x ∈ l ++ [k], okH x.h) :
    Calls Try.prog 19 #[.slice A l.length c, .agg #[.int .i64 k.d.proc, .int .i64 k.d.index, .int .i64 k.d.ev.kind, .int .i64 k.d.ev.inc, .int .i64 k.d.ev.frm, .int .i64 k.d.ev.sinc, .int .i64 k.d.ev.sidx, .int .i64 k.d.ev.ord, .int .i64 k.d.ev.val, .int .u32 k.h]] w (OwnPostK (memV (l ++ [k])) w) := by
  have h0 : Hid (KnSeg ((w.alloc (.cells k.cells.toArray 34)).alloc (.cells k.cells.toArray 34)) (some ⟨w.heap.size + 1, 0, none⟩) [k]) := by
    have hb : Blk ((w.alloc (.cells k.cells.toArray 34)).alloc (.cells k.cells.toArray 34)) (w.heap.size + 1) 34 ([k].flatMap Kn.cells).toArray := by
      have := Blk.new (w.alloc (.cells k.cells.toArray 34)) 34 k.cells.toArray
      simpa using this
    exact Seg.ofBlkK hb rfl
  have HS := Lib.hid hs
  have HOK := Lib.hid hok
  clear hs hok
  have hE : Ext w ((w.alloc (.cells k.cells.toArray 34)).alloc (.cells k.cells.toArray 34)) := ((Ext.refl w).allocs _).allocs _
  have HE := Lib.hid hE
  clear hE
  have HM : Hid (∀ gS, gS = ((w.alloc (.cells k.cells.toArray 34)).alloc (.cells k.cells.toArray 34)).heap.size → Calls Try.prog 45 #[.slice (some ⟨gS, 0, none⟩) 2 2] (((w.alloc (.cells k.cells.toArray 34)).alloc (.cells k.cells.toArray 34)).alloc (.cells #[.slice A l.length c, .slice (some ⟨w.heap.size + 1, 0, none⟩) 1 1] 26)) (OwnPostK (memV (l ++ [k])) (((w.alloc (.cells k.cells.toArray 34)).alloc (.cells k.cells.toArray 34)).alloc (.cells #[.slice A l.length c, .slice (some ⟨w.heap.size + 1, 0, none⟩) 1 1] 26)))) := by
    intro gS e
    subst e
    exact memory_any _ A (some ⟨w.heap.size + 1, 0, none⟩) c 1 l [k] _ (Blk.new _ _ _) ((HS.out.ext HE.out).alloc _) (h0.out.alloc _) hn (by simp) HOK.out
  clear h0
  go_enter Try.func19, Try.ntmps19
  go_wp2_with (refine (HM.out _ ?_).mono ?_; · (first | rfl | simp))
  rintro e w1 ⟨v, rfl, hown, hE1⟩
  clear HM
  have HO := Lib.hid hown
  have HE1 := Lib.hid hE1
  clear hown hE1
  go_wp2_with fail
  go_ret
  have hX := Ext.trans (Ext.allocs HE.out _) HE1.out
  exact ⟨v, rfl, own_base HO.out ((HE.out.allocs _).size), hX⟩

/-- the first j elements are changed -/
def mapTo (f : Kn → Kn) (l : List Kn) (j : Nat) : List Kn := (l.take j).map f ++ l.drop j
theorem mapTo_zero (f : Kn → Kn) (l : List Kn) : mapTo f l 0 = l := by simp [mapTo]
theorem mapTo_all (f : Kn → Kn) (l : List Kn) : mapTo f l l.length = l.map f := by simp [mapTo]
theorem mapTo_len (f : Kn → Kn) (l : List Kn) (j : Nat) : (mapTo f l j).length = l.length := by simp [mapTo]; omega
theorem mapTo_at (f : Kn → Kn) (l : List Kn) (j : Nat) (hj : j < l.length) : (mapTo f l j)[j]? = some l[j] := by
  unfold mapTo
  rw [List.getElem?_append_right (by simp; omega)]
  simp only [List.length_map, List.length_take, List.getElem?_drop]
  rw [show j + (j - min j l.length) = j by omega]
  exact List.getElem?_eq_getElem hj
theorem mapTo_succ (f : Kn → Kn) (l : List Kn) (j : Nat) (hj : j < l.length) : (mapTo f l j).set j (f l[j]) = mapTo f l (j + 1) := by
  apply List.ext_getElem?
  intro i
  rw [List.getElem?_set, mapTo_len]
  unfold mapTo
  by_cases h : j = i
  · subst h
    rw [if_pos rfl, if_pos hj, List.getElem?_append_left (by simp; omega), List.getElem?_map, List.getElem?_take_of_lt (by omega), List.getElem?_eq_getElem hj]
    rfl
  · rw [if_neg h]
    by_cases hi : i < j
    · rw [List.getElem?_append_left (by simp; omega), List.getElem?_append_left (by simp; omega), List.getElem?_map, List.getElem?_map, List.getElem?_take_of_lt hi, List.getElem?_take_of_lt (by omega)]
    · rw [List.getElem?_append_right (by simp; omega), List.getElem?_append_right (by simp; omega)]
      simp only [List.length_map, List.length_take, List.getElem?_drop]
      congr 1
      omega
def MjRel (w0 : World) (g0 c0 : Nat) (L : List Kn) (f : Kn → Kn) (g : Nat) (i : Value) (wr : World) : Prop := ∃ j : Nat, j ≤ L.length ∧ i = .int .i64 j ∧ g = L.length - j ∧ Ext w0 wr ∧ wr.ownsRow w0.heap.size 34 10 (.slice (some ⟨g0, 0, none⟩) L.length c0) L.length ((mapTo f L j).flatMap Kn.cells)
theorem orB_all {b : Int} (l : List Kn) (hl : ∀ k ∈ l, okH k.h) (hb : b = 0) : l.map (orB b) = l := by
  subst hb
  have : ∀ k ∈ l, orB 0 k = k := fun k hk => orB_zero (hl k hk)
  rw [List.map_congr_left this, List.map_id']
set_option maxHeartbeats 1600000 in
theorem merge_code (A B : Option Addr) (ca cb : Nat) (a b : List Kn) (self : Int) (w : World) (ha : KnSeg w A a) (hb : KnSeg w B b) (hla : a.length ≤ 700) (hlb : b.length ≤ 300) (hok : ∀ k ∈ a ++ b, okH k.h) :
    Calls Try.prog 21 #[.slice A a.length ca, .slice B b.length cb, .int .i64 self] w (OwnPostK (mergeV (bitV self) a b) w) := by
  have HC := Lib.hid (memory_any w.heap.size A B ca cb a b (w.alloc (.cells #[.slice A a.length ca, .slice B b.length cb] 26)) (Blk.new w _ _) (ha.alloc _) (hb.alloc _) hla hlb hok)
  have HOK : Hid (∀ k ∈ memV (a ++ b), okH k.h) := (memV_of _ hok).ok
  have hLl : (memV (a ++ b)).length ≤ 1000 := by have := memV_len (a ++ b); rw [List.length_append] at this; omega
  unfold mergeV
  clear ha hb hok
  generalize memV (a ++ b) = L at HC hLl HOK ⊢
  clear hla hlb
  by_cases hin : 0 ≤ self ∧ self < 32
  · obtain ⟨q, rfl⟩ : ∃ q : Nat, self = (q : Int) := ⟨self.toNat, by omega⟩
    have hq32 : (q : Int) < 32 := hin.2
    have hq0 : (0 : Int) ≤ (q : Int) := by omega
    clear hin
    have HV : Hid (bitV (q : Int) = (2 : Int) ^ q % 4294967296) := by
      show bitV (q : Int) = _
      unfold bitV
      rw [if_neg (by omega), Int.toNat_natCast]
      have h : ∀ i : Fin 32, (2 : Int) ^ i.val = (2 : Int) ^ i.val % 4294967296 := by decide
      exact h ⟨q, by omega⟩
    go_enter Try.func21, Try.ntmps21
    go_wp2_with fail
    refine HC.out.mono ?_
    rintro e w1 ⟨v, rfl, hown, hE1⟩
    clear HC
    have HO1 : Hid (w1.ownsRow w.heap.size 34 10 v L.length (L.flatMap Kn.cells)) := own_base hown (by simp)
    have HE1 : Hid (Ext w w1) := Ext.trans ((Ext.refl w).allocs _) hE1
    clear hown hE1
    rcases own_two HO1.out with ⟨rfl, hn⟩ | ⟨g0, c0, rfl⟩
    · have hl : L = [] := List.eq_nil_of_length_eq_zero hn
      subst hl
      go_wp2_with fail
      go_loopg [21] 0 (fun g i wr => i = .int .i64 0 ∧ g = 0 ∧ wr = w1)
      case atStart => exact ⟨rfl, rfl, rfl⟩
      case round =>
        obtain ⟨rfl, rfl, rfl⟩ := hrel
        go_wp2_with fail
        go_ret
        exact ⟨_, rfl, HO1.out, HE1.out⟩
    · go_wp2_with fail
      go_loopg [21] L.length (fun g i wr => MjRel w g0 c0 L (orB (bitV q)) g i wr)
      case atStart => exact ⟨0, Nat.zero_le _, rfl, rfl, HE1.out, by rw [mapTo_zero]; exact HO1.out⟩
      case round =>
        obtain ⟨j, hj, rfl, rfl, hE, hown⟩ := hrel
        have HO := Lib.hid hown
        have HE := Lib.hid hE
        clear hown hE
        by_cases hlt : j < L.length
        · have HX : Hid (∀ W, Ext wr W → W.cell? ⟨g0, j * 10 + 9, none⟩ = some (.int .u32 (L[j]).h)) := fun W hW => by
            have h1 := own_ext HO.out hW
            rw [h1.cellAt (j * 10 + 9) (by omega), flat_get Kn.cells 10 Kn.len _ j 9 L[j] (mapTo_at _ L j hlt) (by omega)]
            rfl
          have HT := Lib.hid (mapTo_succ (orB (bitV q)) L j hlt)
          have HTl := Lib.hid (mapTo_len (orB (bitV q)) L j)
          have HTa := Lib.hid (mapTo_at (orB (bitV q)) L j hlt)
          obtain ⟨x, hx⟩ : ∃ x, L[j] = x := ⟨_, rfl⟩
          rw [hx] at HX HT HTa
          clear hx
          have hj0 : (0 : Int) ≤ (j : Int) := by omega
          have hj1 : (j : Int) < (L.length : Int) := by omega
          have HEN : Hid ((orB (bitV q) x).h = bits .or .u32 x.h ((2 : Int) ^ q % 4294967296)) := by show bits .or .u32 x.h (bitV q) = _; rw [HV.out]
          go_wp2_with fail
          refine wp_region_sched (by kernel_rfl) 10 [(0, true), (1, true), (2, true), (3, true), (4, true), (5, true), (6, true), (7, true), (8, true), (9, true), (10, false)] (fun W => W.cell? ⟨g0, j * 10 + 9, none⟩ = some (.int .u32 x.h)) (by kernel_rfl) (fun _ _ dd _ _ h => by cases dd <;> exact h) (HX.out _ (Below.drew (Ext.refl wr))) (fun hHeld => ?_)
          iterate 10 ((refine sched_read (v := ?_) rfl (Or.inl ⟨by rfl, ?_⟩) hHeld ?_; rotate_left 1; · (intro w' hSw; go_simp; (first | done | with_reducible rfl))); (try simp only [Act.put, List.setIfInBounds_toArray, List.set_cons_zero, List.set_cons_succ]))
          have hb : (mapTo (orB (bitV q)) L j).length = L.length := HTl.out
          have h1 := own_setH (own_ext HO.out (Below.drew (Ext.refl wr))) (i := j) (by rw [hb]; exact hlt) (orB (bitV q) x) (by have := HTa.out; rw [List.getElem?_eq_getElem (by rw [hb]; exact hlt)] at this; injection this with this; rw [this]; rfl)
          rw [HT.out, HEN.out] at h1
          have HOa := Lib.hid h1
          have HEb : Hid (Ext w (wr.drew.setCell ⟨g0, j * 10 + 9, none⟩ (.int .u32 (bits .or .u32 x.h ((2 : Int) ^ q % 4294967296))))) := Below.setCell (Below.drew HE.out) ((HO.out.lt g0 rfl).1) _
          have hfz : wr.drew.frozen? ⟨g0, j * 10 + 9, none⟩ = false := (own_ext HO.out (Below.drew (Ext.refl wr))).frozenAt _
          clear h1 hb
          refine sched_tail rfl (by decide) (fun K hK => ?_)
          go_simp
          refine hK.out _ _ ?_
          clear hK K
          refine sched_done ?_
          go_wp2_with fail
          go_roundg (L.length - (j + 1))
          case measure => omega
          case rel => exact ⟨j + 1, by omega, by go_num, rfl, HEb.out, HOa.out⟩
        · obtain rfl : j = L.length := by omega
          go_wp2_with fail
          go_ret
          refine ⟨_, rfl, ?_, HE.out⟩
          have h1 := HO.out
          rw [mapTo_all] at h1
          rw [List.length_map]
          exact h1
  · have HV : Hid (L.map (orB (bitV self)) = L) := orB_all L HOK.out (by unfold bitV; rw [if_pos (by omega)])
    rw [HV.out]
    clear HV
    by_cases h0 : self < 0
    · go_enter Try.func21, Try.ntmps21
      go_wp2_with fail
      refine HC.out.mono ?_
      rintro e w1 ⟨v, rfl, hown, hE1⟩
      have HO1 : Hid (w1.ownsRow w.heap.size 34 10 v L.length (L.flatMap Kn.cells)) := own_base hown (by simp)
      have HE1 : Hid (Ext w w1) := Ext.trans ((Ext.refl w).allocs _) hE1
      clear hown hE1 HC
      go_wp2_with fail
      go_ret
      exact ⟨_, rfl, HO1.out, HE1.out⟩
    · have h1 : 32 ≤ self := by omega
      go_enter Try.func21, Try.ntmps21
      go_wp2_with fail
      refine HC.out.mono ?_
      rintro e w1 ⟨v, rfl, hown, hE1⟩
      have HO1 : Hid (w1.ownsRow w.heap.size 34 10 v L.length (L.flatMap Kn.cells)) := own_base hown (by simp)
      have HE1 : Hid (Ext w w1) := Ext.trans ((Ext.refl w).allocs _) hE1
      clear hown hE1 HC
      go_wp2_with fail
      go_ret
      exact ⟨_, rfl, HO1.out, HE1.out⟩
end Go.Proofs.Ytfnnoncdocghjaa
