/- The reference's Merge of chapter 28. No statement of the seat is proved here. -/
import Derived.Test.YtfnnoncdocghjaaRAdd2
import Derived.Test.YtfnnoncdocghjaaBitK
namespace Go.Proofs.Ytfnnoncdocghjaa
open Go.RowKit
set_option linter.unusedVariables false
set_option maxRecDepth 100000

def RmRel (w : World) (p l : List Kn) (g : Nat) (v iv : Value) (wr : World) : Prop := ∃ i : Nat, i ≤ l.length ∧ iv = .int .i64 i ∧ g = l.length - i ∧ Ext w wr ∧ wr.ownsRow w.heap.size 34 10 v (memV (p ++ l.take i)).length ((memV (p ++ l.take i)).flatMap Kn.cells)
theorem memV_next {p l : List Kn} {i : Nat} (hi : i < l.length) (hok : ∀ k ∈ p ++ l, okH k.h) {x : Kn} (hx : l[i] = x) : memV (memV (p ++ l.take i) ++ [x]) = memV (p ++ l.take (i + 1)) ∧ (∀ y ∈ memV (p ++ l.take i) ++ [x], okH y.h) := by
  have h1 : ∀ k ∈ p ++ l.take i, okH k.h := fun k hk => hok k (by rcases List.mem_append.1 hk with h | h; exact List.mem_append_left _ h; exact List.mem_append_right _ (List.mem_of_mem_take h))
  refine ⟨?_, fun y hy => ?_⟩
  · rw [memV_idem h1, List.append_assoc, List.take_succ_eq_append_getElem hi, hx]
  · rcases List.mem_append.1 hy with h | h
    · exact (memV_of _ h1).ok y h
    · rw [List.mem_singleton] at h; subst h; rw [← hx]; exact hok _ (List.mem_append_right _ (List.getElem_mem hi))
theorem bitV_ok (p : Int) : okH (bitV p) := by
  unfold bitV
  split
  · exact ⟨Int.le_refl _, by decide⟩
  · rename_i h
    have : ∀ i : Fin 32, okH ((2 : Int) ^ i.val) := by unfold okH; decide
    exact this ⟨p.toNat, by omega⟩
set_option maxHeartbeats 3200000 in
theorem rmergeK_any (A B : Option Addr) (ca cb : Nat) (a b : List Kn) (self : Int) (w : World) (ha : KnSeg w A a) (hb : KnSeg w B b) (hla : a.length ≤ 700) (hlb : b.length ≤ 300) (hok : ∀ k ∈ a ++ b, okH k.h) :
    Calls Try.prog 22 #[.slice A a.length ca, .slice B b.length cb, .int .i64 self] w (OwnPostK (mergeV (bitV self) a b) w) := by
  have HA := Lib.hid ha
  have HB := Lib.hid hb
  have HOK : Hid (∀ k ∈ memV (a ++ b), okH k.h) := (memV_of _ hok).ok
  have HOKA : Hid (∀ k ∈ [] ++ a, okH k.h) := fun k hk => hok k (List.mem_append_left _ (by simpa using hk))
  have HOKB := Lib.hid hok
  have HLL0 : (memV (a ++ b)).length ≤ 1000 := by have := memV_len (a ++ b); rw [List.length_append] at this; omega
  unfold mergeV
  obtain ⟨L, hL⟩ : ∃ L, memV (a ++ b) = L := ⟨_, rfl⟩
  have HLL := Lib.hid hL
  rw [hL] at HOK HLL0 ⊢
  clear ha hb hok hL
  have hla' : (a.length : Int) ≤ 700 := by omega
  have hlb' : (b.length : Int) ≤ 300 := by omega
  go_enter Try.func22, Try.ntmps22
  go_wp2_with fail
  go_loopg [7, 8] a.length (fun g v iv wr => RmRel w [] a g v iv wr)
  case atStart => exact ⟨0, Nat.zero_le _, rfl, rfl, Ext.refl _, World.ownsRow_nil _ _ _ _⟩
  case round =>
    obtain ⟨i, hi, rfl, rfl, hE, hown⟩ := hrel
    obtain ⟨Ao, co, rfl, hso, -, -⟩ := own_slice hown
    have HE := Lib.hid hE
    have HO := Lib.hid hown
    have HS := Lib.hid hso
    clear hE hown hso
    by_cases hlt : i < a.length
    · obtain ⟨tb, toff, htA, p0, p1, p2, p3, p4, p5, p6, p7, p8, p9⟩ := Kn.at_ (HA.out.ext HE.out) hlt
      obtain ⟨x, hx⟩ : ∃ x, a[i] = x := ⟨_, rfl⟩
      have HN := Lib.hid (memV_next hlt HOKA.out hx)
      rw [hx] at p0 p1 p2 p3 p4 p5 p6 p7 p8 p9
      clear hx
      subst htA
      have hml : (memV ([] ++ a.take i)).length ≤ 1000 := Nat.le_trans (memV_len _) (by simp; omega)
      have HR := Lib.hid (radd_any Ao co (memV ([] ++ a.take i)) x wr HS.out hml HN.out.2)
      have hi0 : (0 : Int) ≤ (i : Int) := by omega
      have hi1 : (i : Int) < (a.length : Int) := by omega
      go_wp2_with fail
      refine HR.out.mono ?_
      rintro e w2 ⟨v2, rfl, hown2, hE2⟩
      rw [HN.out.1] at hown2
      have HO2 := Lib.hid hown2
      have HE2 := Lib.hid hE2
      clear hown2 hE2 HR
      go_wp2_with fail
      go_roundg (a.length - (i + 1))
      case measure => omega
      case rel => exact ⟨i + 1, by omega, by go_num, rfl, Ext.trans HE.out HE2.out, own_base HO2.out HE.out.size⟩
    · obtain rfl : i = a.length := by omega
      have hO0 := HO.out
      have hS0 := HS.out
      rw [List.take_length, List.nil_append] at hO0 hS0 ⊢
      have HO0 := Lib.hid hO0
      clear hO0 hS0 HO HS
      go_wp2_with fail
      go_loopg [7, 9] b.length (fun g v iv wr => RmRel w a b g v iv wr)
      case atStart => exact ⟨0, Nat.zero_le _, rfl, rfl, HE.out, by rw [List.take_zero, List.append_nil]; exact HO0.out⟩
      case round =>
        obtain ⟨i, hi, rfl, rfl, hE, hown⟩ := hrel
        obtain ⟨Ao, co, rfl, hso, -, -⟩ := own_slice hown
        have HE := Lib.hid hE
        have HO := Lib.hid hown
        have HS := Lib.hid hso
        clear hE hown hso HO0
        by_cases hlt : i < b.length
        · obtain ⟨tb, toff, htA, p0, p1, p2, p3, p4, p5, p6, p7, p8, p9⟩ := Kn.at_ (HB.out.ext HE.out) hlt
          obtain ⟨x, hx⟩ : ∃ x, b[i] = x := ⟨_, rfl⟩
          have HN := Lib.hid (memV_next hlt HOKB.out hx)
          rw [hx] at p0 p1 p2 p3 p4 p5 p6 p7 p8 p9
          clear hx
          subst htA
          have hml : (memV (a ++ b.take i)).length ≤ 1000 := Nat.le_trans (memV_len _) (by simp; omega)
          have HR := Lib.hid (radd_any Ao co (memV (a ++ b.take i)) x wr HS.out hml HN.out.2)
          have hi0 : (0 : Int) ≤ (i : Int) := by omega
          have hi1 : (i : Int) < (b.length : Int) := by omega
          go_wp2_with fail
          refine HR.out.mono ?_
          rintro e w2 ⟨v2, rfl, hown2, hE2⟩
          rw [HN.out.1] at hown2
          have HO2 := Lib.hid hown2
          have HE2 := Lib.hid hE2
          clear hown2 hE2 HR
          go_wp2_with fail
          go_roundg (b.length - (i + 1))
          case measure => omega
          case rel => exact ⟨i + 1, by omega, by go_num, rfl, Ext.trans HE.out HE2.out, own_base HO2.out HE.out.size⟩
        · obtain rfl : i = b.length := by omega
          have hO0 := HO.out
          rw [List.take_length] at hO0 ⊢
          have hLl := HLL0
          have hbo := Lib.hid (bitV_ok self)
          rw [HLL.out] at hO0 ⊢
          have HO1 := Lib.hid hO0
          have HE1 := Lib.hid HE.out
          clear hO0 HO HS HE HA HB HOKA HOKB
          rcases own_two HO1.out with ⟨hv, hn⟩ | ⟨g0, c0, hv⟩
          · have hl : L = [] := List.eq_nil_of_length_eq_zero hn
            subst hl
            injection hv with hv1 hv2 hv3
            subst hv1
            subst hv3
            go_wp2_with fail
            go_loopg [10] 0 (fun g i w' => i = .int .i64 0 ∧ g = 0 ∧ w' = wr)
            case atStart => exact ⟨rfl, rfl, rfl⟩
            case round =>
              obtain ⟨rfl, rfl, rfl⟩ := hrel
              go_wp2_with fail
              go_ret
              exact ⟨_, rfl, HO1.out, HE1.out⟩
          · injection hv with hv1 hv2 hv3
            subst hv1
            subst hv3
            go_wp2_with fail
            go_loopg [10] L.length (fun g i wr => MjRel w g0 co L (orB (bitV self)) g i wr)
            case atStart => exact ⟨0, Nat.zero_le _, rfl, rfl, HE1.out, by rw [mapTo_zero]; exact HO1.out⟩
            case round =>
              obtain ⟨j, hj, rfl, rfl, hE, hown⟩ := hrel
              rename World => wz
              have HO := Lib.hid hown
              have HE := Lib.hid hE
              clear hown hE
              by_cases hlt : j < L.length
              · have HX : Hid (∀ W, Ext wz W → W.cell? ⟨g0, j * 10 + 9, none⟩ = some (.int .u32 (L[j]).h)) := fun W hW => by
                  have h1 := own_ext HO.out hW
                  rw [h1.cellAt (j * 10 + 9) (by omega), flat_get Kn.cells 10 Kn.len _ j 9 L[j] (mapTo_at _ L j hlt) (by omega)]
                  rfl
                have HT := Lib.hid (mapTo_succ (orB (bitV self)) L j hlt)
                have HTl := Lib.hid (mapTo_len (orB (bitV self)) L j)
                have HTa := Lib.hid (mapTo_at (orB (bitV self)) L j hlt)
                obtain ⟨x, hx⟩ : ∃ x, L[j] = x := ⟨_, rfl⟩
                rw [hx] at HX HT HTa
                clear hx
                have hj0 : (0 : Int) ≤ (j : Int) := by omega
                have hj1 : (j : Int) < (L.length : Int) := by omega
                go_wp2_with fail
                refine wp_region_sched (by kernel_rfl) 10 [(0, true), (1, true), (2, true), (3, true), (4, true), (5, true), (6, false), (7, true), (8, true), (9, true), (10, false)] (fun W => W.cell? ⟨g0, j * 10 + 9, none⟩ = some (.int .u32 x.h)) (by kernel_rfl) (fun _ _ dd _ _ h => by cases dd <;> exact h) (HX.out _ (Below.drew (Ext.refl wz))) (fun hHeld => ?_)
                iterate 6 ((refine sched_read (v := ?_) rfl (Or.inl ⟨by rfl, ?_⟩) hHeld ?_; rotate_left 1; · (intro w' hSw; go_simp; (first | done | with_reducible rfl))); (try simp only [Act.put, List.setIfInBounds_toArray, List.set_cons_zero, List.set_cons_succ]))
                refine sched_eff rfl (fun K hK => ?_)
                go_simp
                refine (bit_any self _).mono ?_
                rintro e5 w5 ⟨rfl, rfl⟩
                refine hK.out _ _ (HX.out _ (Below.drew (Ext.refl wz))) (fun hHeld => ?_)
                clear hK K
                try simp only [Act.put, List.setIfInBounds_toArray, List.set_cons_zero, List.set_cons_succ]
                iterate 3 ((refine sched_read (v := ?_) rfl (Or.inl ⟨by rfl, ?_⟩) hHeld ?_; rotate_left 1; · (intro w' hSw; go_simp; (first | done | with_reducible rfl))); (try simp only [Act.put, List.setIfInBounds_toArray, List.set_cons_zero, List.set_cons_succ]))
                have hb : (mapTo (orB (bitV self)) L j).length = L.length := HTl.out
                have h1 := own_setH (own_ext HO.out (Below.drew (Ext.refl wz))) (i := j) (by rw [hb]; exact hlt) (orB (bitV self) x) (by have := HTa.out; rw [List.getElem?_eq_getElem (by rw [hb]; exact hlt)] at this; injection this with this; rw [this]; rfl)
                rw [HT.out] at h1
                have HOa := Lib.hid h1
                have HEb : Hid (Ext w (wz.drew.setCell ⟨g0, j * 10 + 9, none⟩ (.int .u32 (orB (bitV self) x).h))) := Below.setCell (Below.drew HE.out) ((HO.out.lt g0 rfl).1) _
                have hfz : wz.drew.frozen? ⟨g0, j * 10 + 9, none⟩ = false := (own_ext HO.out (Below.drew (Ext.refl wz))).frozenAt _
                clear h1 hb
                refine sched_tail rfl (by decide) (fun K hK => ?_)
                go_simp
                refine hK.out _ _ ?_
                clear hK K
                refine sched_done ?_
                go_wp2_with fail
                go_roundg (L.length - (j + 1))
                case measure => omega
                case rel => exact ⟨j + 1, by omega, by go_num, rfl, HEb.out, HOa.out⟩
              · obtain rfl : j = L.length := by omega
                go_wp2_with fail
                go_ret
                refine ⟨_, rfl, ?_, HE.out⟩
                have h1 := HO.out
                rw [mapTo_all] at h1
                rw [List.length_map]
                exact h1
end Go.Proofs.Ytfnnoncdocghjaa
