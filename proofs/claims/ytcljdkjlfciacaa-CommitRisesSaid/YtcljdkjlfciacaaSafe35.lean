/- safe of the reference. No statement of the seat is proved here. -/
import Derived.Test.YtcljdkjlfciacaaKnown35
namespace Go.Proofs.Ytcljdkjlfciacaa
open Go.RowKit Go.Shelf
set_option linter.unusedVariables false

def safeB (G : List (Gr Dt)) (K : List (Gr Kn)) (faults : Int) (d : Dt) : Bool := G.any (fun r => hasB r.l d) || decide (faults < (cntK K d : Int))
theorem any_take {α : Type} (p : α → Bool) (l : List α) (j : Nat) (hj : j < l.length) : (l.take (j + 1)).any p = ((l.take j).any p || p l[j]) := by
  rw [List.take_succ_eq_append_getElem hj, List.any_append]
  simp
set_option maxRecDepth 100000 in
set_option maxHeartbeats 3200000 in
theorem safe_any (AG : Option Addr) (cG : Nat) (G : List (Gr Dt)) (AK : Option Addr) (cK : Nat) (Kw : List (Gr Kn)) (d : Dt) (faults : Int) (w : World) (hG : GSeg Dt.cells 9 w AG G) (hK : GSeg Kn.cells 10 w AK Kw) (hnG : G.length ≤ 1000) (hnK : Kw.length ≤ 1000) (hr : ∀ r ∈ G, r.l.length ≤ 1000) :
    Calls Try.prog 44 #[.agg #[.int .i64 d.proc, .int .i64 d.index, .int .i64 d.ev.kind, .int .i64 d.ev.inc, .int .i64 d.ev.frm, .int .i64 d.ev.sinc, .int .i64 d.ev.sidx, .int .i64 d.ev.ord, .int .i64 d.ev.val], .slice AG G.length cG, .slice AK Kw.length cK, .int .i64 faults] w (ExtPost w (.bool (safeB G Kw faults d))) := by
  have hX := (Ext.refl w).allocs (.cells #[.int .i64 d.proc, .int .i64 d.index, .int .i64 d.ev.kind, .int .i64 d.ev.inc, .int .i64 d.ev.frm, .int .i64 d.ev.sinc, .int .i64 d.ev.sidx, .int .i64 d.ev.ord, .int .i64 d.ev.val] 72)
  have hB : Blk (w.alloc (.cells #[.int .i64 d.proc, .int .i64 d.index, .int .i64 d.ev.kind, .int .i64 d.ev.inc, .int .i64 d.ev.frm, .int .i64 d.ev.sinc, .int .i64 d.ev.sidx, .int .i64 d.ev.ord, .int .i64 d.ev.val] 72)) w.heap.size 72 d.cells.toArray := Blk.new w _ _
  have HG := Lib.hid (hG.ext hX)
  have HK := Lib.hid (hK.ext hX)
  obtain ⟨gb, hgb⟩ : ∃ gb, w.heap.size = gb := ⟨_, rfl⟩
  obtain ⟨w1, hw1⟩ : ∃ w1, w.alloc (.cells #[.int .i64 d.proc, .int .i64 d.index, .int .i64 d.ev.kind, .int .i64 d.ev.inc, .int .i64 d.ev.frm, .int .i64 d.ev.sinc, .int .i64 d.ev.sidx, .int .i64 d.ev.ord, .int .i64 d.ev.val] 72) = w1 := ⟨_, rfl⟩
  rw [hw1] at hX hB HG HK
  rw [hgb] at hB
  have HB := Lib.hid hB
  have HR := Lib.hid hr
  clear hG hK hB hr
  obtain ⟨res, hres⟩ : ∃ res, safeB G Kw faults d = res := ⟨_, rfl⟩
  have HRES : Hid ((G.any (fun r => hasB r.l d) || decide (faults < (cntK Kw d : Int))) = res) := hres
  rw [hres]
  clear hres
  go_enter Try.func44, Try.ntmps44
  go_upto_region 2 with fail
  try rw [hw1]
  try rw [hgb]
  have HX := Lib.hid hX
  clear hw1 hgb hX
  go_loopg [9] G.length (fun g iv wr => ∃ j : Nat, j ≤ G.length ∧ iv = .int .i64 j ∧ g = G.length - j ∧ Ext w1 wr ∧ Hid ((G.take j).any (fun r => hasB r.l d) = false))
  case atStart => exact ⟨0, Nat.zero_le _, rfl, rfl, Ext.refl w1, (rfl : ([] : List (Gr Dt)).any _ = false)⟩
  case round =>
    rename World => wl
    obtain ⟨j, hj, rfl, rfl, hE, HJ⟩ := hrel
    by_cases hlt : j < G.length
    · have HT := Lib.hid (any_take (fun r => hasB r.l d) G j hlt)
      have HIN := Lib.hid (List.getElem_mem hlt)
      obtain ⟨b, o, rfl, p0⟩ := (HG.out.ext hE).at_ hlt
      obtain ⟨hr, hrc, hrm⟩ := (HG.out.ext hE).row hlt
      have HHR := Lib.hid (fun (W : World) (h : DtSeg W G[j].A G[j].l) => has_ref G[j].A G[j].c G[j].l d W h (HR.out _ HIN.out))
      have HSG := Lib.hid hr
      obtain ⟨b0, b1, b2, b3, b4, b5, b6, b7, b8⟩ := blk9 (HB.out.ext hE)
      have HMM : Hid (hasB G[j].l d = true → res = true) := fun h => by
        rw [← HRES.out, show G.any (fun r => hasB r.l d) = true from List.any_eq_true.2 ⟨_, HIN.out, h⟩]; rfl
      clear hr HIN hrc hrm
      generalize hasB G[j].l d = z at *
      generalize G[j] = r at *
      have hj0 : (0 : Int) ≤ (j : Int) := by omega
      have hj1 : (j : Int) < (G.length : Int) := by omega
      go_upto_region 4 with fail
      refine wp_region_sched (by kernel_rfl) 5 [(0, true), (1, true), (2, true), (3, true), (4, true), (5, false)] (fun w' => w'.cell? ⟨b, o + j, none⟩ = some (.slice r.A r.l.length r.c) ∧ w'.cell? ⟨gb, 0, none⟩ = some (.int .i64 d.proc) ∧ w'.cell? ⟨gb, 1, none⟩ = some (.int .i64 d.index) ∧ w'.cell? ⟨gb, 2, none⟩ = some (.int .i64 d.ev.kind) ∧ w'.cell? ⟨gb, 3, none⟩ = some (.int .i64 d.ev.inc) ∧ w'.cell? ⟨gb, 4, none⟩ = some (.int .i64 d.ev.frm) ∧ w'.cell? ⟨gb, 5, none⟩ = some (.int .i64 d.ev.sinc) ∧ w'.cell? ⟨gb, 6, none⟩ = some (.int .i64 d.ev.sidx) ∧ w'.cell? ⟨gb, 7, none⟩ = some (.int .i64 d.ev.ord) ∧ w'.cell? ⟨gb, 8, none⟩ = some (.int .i64 d.ev.val)) (by kernel_rfl) (fun _ _ dd _ _ h => by cases dd <;> exact h) ⟨p0, b0, b1, b2, b3, b4, b5, b6, b7, b8⟩ (fun hHeld => ?_)
      clear p0 b0 b1 b2 b3 b4 b5 b6 b7 b8
      iterate 5 ((refine sched_read (v := ?_) rfl (Or.inl ⟨by rfl, ?_⟩) hHeld ?_; rotate_left 1; · (intro w' hSw; obtain ⟨t0, t1, t2, t3, t4, t5, t6, t7, t8, t9⟩ := hSw; go_simp; (first | done | with_reducible rfl))); (try simp only [Act.put, List.setIfInBounds_toArray, List.set_cons_zero, List.set_cons_succ]))
      refine sched_tail rfl (by decide) (fun K hK => ?_)
      go_simp
      refine (HHR.out _ (HSG.out.ext (Below.drew (Ext.refl wl)))).mono ?_
      rintro e w2 ⟨rfl, hE2⟩
      have hE3 := hE.trans ((Below.drew (Ext.refl wl) : Ext wl wl.drew).trans hE2)
      clear hE hE2
      go_wp2_with fail
      refine hK.out _ _ ?_
      clear hK K
      refine sched_done ?_
      cases z with
      | true =>
        have hz := HMM.out rfl
        clear HMM HRES
        subst hz
        go_wp2_with fail
        go_ret
        exact ⟨rfl, HX.out.trans hE3⟩
      | false =>
        rw [HJ.out] at HT
        go_wp2_with fail
        go_roundg (G.length - (j + 1))
        case measure => omega
        case rel => exact ⟨j + 1, by omega, by go_num, rfl, hE3, HT.out⟩
    · obtain rfl : j = G.length := by omega
      have HJ2 : Hid (G.any (fun r => hasB r.l d) = false) := by have := HJ.out; rw [List.take_of_length_le (Nat.le_refl _)] at this; exact this
      go_wp2_with fail
      go_loopg [10, 11] Kw.length (fun g nv iv wr => ∃ j : Nat, j ≤ Kw.length ∧ nv = .int .i64 (cntK (Kw.take j) d : Nat) ∧ iv = .int .i64 j ∧ g = Kw.length - j ∧ Ext w1 wr)
      case atStart => exact ⟨0, Nat.zero_le _, rfl, rfl, rfl, hE⟩
      case round =>
        clear hE
        rename World => w2
        obtain ⟨j, hj, rfl, rfl, rfl, hE⟩ := hrel
        have hcl := cntK_le (Kw.take j) d
        rw [List.length_take] at hcl
        by_cases hlt : j < Kw.length
        · have HT := Lib.hid (cntK_take Kw d j hlt)
          generalize cntK (Kw.take j) d = n at *
          go_upto_region 11 with fail
          go_loopg [10, 12] Kw[j].l.length (fun g nv iv wr => ∃ k : Nat, k ≤ Kw[j].l.length ∧ nv = .int .i64 (n : Nat) ∧ iv = .int .i64 k ∧ g = Kw[j].l.length - k ∧ Ext w1 wr ∧ Hid (∀ i x, i < k → Kw[j].l[i]? = some x → x.d.same d = false))
          case atStart => exact ⟨0, Nat.zero_le _, rfl, rfl, rfl, hE, fun i x h => absurd h (Nat.not_lt_zero _)⟩
          case round =>
            clear hE
            rename World => w3
            obtain ⟨k, hk, rfl, rfl, rfl, hE, HI⟩ := hrel
            obtain ⟨b, o, rfl, p0⟩ := (HK.out.ext hE).at_ hlt
            obtain ⟨hr, hrc, hrm⟩ := (HK.out.ext hE).row hlt
            unfold maxLen at hrm
            have HT2 := HT
            generalize Kw[j] = r at *
            have hj0 : (0 : Int) ≤ (j : Int) := by omega
            have hj1 : (j : Int) < (Kw.length : Int) := by omega
            by_cases hkl : k < r.l.length
            · obtain ⟨b3, o3, hA3, p30, p31, p32, p33, p34, p35, p36, p37, p38, _⟩ := Kn.at_ hr hkl
              have HEK : Hid (r.l[k]? = some r.l[k]) := List.getElem?_eq_getElem hkl
              have HMEM := Lib.hid (List.getElem_mem hkl)
              obtain ⟨b0, b1, b2, b3', b4, b5, b6, b7, b8⟩ := blk9 (HB.out.ext hE)
              have heq := fun w => eql_det w r.l[k].d d
              unfold Dt.val at heq
              have hk0 : (0 : Int) ≤ (k : Int) := by omega
              have hk1 : (k : Int) < (r.l.length : Int) := by omega
              generalize r.l[k] = x at *
              rcases hz : x.d.same d with _ | _
              · rw [hz] at heq
                have HI2 : Hid (∀ i y, i < k + 1 → r.l[i]? = some y → y.d.same d = false) := fun i y hi hy => by
                  by_cases h : i = k
                  · subst h
                    rw [HEK.out] at hy
                    injection hy with hy
                    rw [← hy]; exact hz
                  · exact HI.out i y (by omega) hy
                clear hz HI
                rw [hA3] at p0
                go_wp2_with fail
                go_quiet (fail)
                go_wp2_with fail
                go_roundg (r.l.length - (k + 1))
                case measure => omega
                case rel => exact ⟨k + 1, by omega, rfl, by go_num, rfl, hE.drewN _, HI2⟩
              · rw [hz] at heq
                have hh : hasK r.l d = true := List.any_eq_true.2 ⟨x, HMEM.out, hz⟩
                rw [hh, if_pos rfl] at HT2
                clear hz hh
                rw [hA3] at p0
                go_wp2_with fail
                go_quiet (fail)
                go_wp2_with fail
                go_roundg (Kw.length - (j + 1))
                case measure => omega
                case rel => exact ⟨j + 1, by omega, by rw [HT2.out]; go_num, by go_num, rfl, hE.drewN _⟩
            · have hh : hasK r.l d = false := by
                unfold hasK
                rw [List.any_eq_false]
                intro y hy
                obtain ⟨i, hi⟩ := List.mem_iff_getElem?.1 hy
                rw [HI.out i y (by have := (List.getElem?_eq_some_iff.1 hi).1; omega) hi]
                simp
              rw [hh, if_neg (by simp)] at HT2
              obtain rfl : k = r.l.length := by omega
              clear hh
              go_wp2_with fail
              go_roundg (Kw.length - (j + 1))
              case measure => omega
              case rel => exact ⟨j + 1, by omega, by rw [HT2.out], by go_num, rfl, hE⟩
        · obtain rfl : j = Kw.length := by omega
          rw [List.take_of_length_le (Nat.le_refl _)]
          have HF : Hid (res = decide (faults < (cntK Kw d : Int))) := by show _ = _; rw [← HRES.out, HJ2.out]; rfl
          go_wp2_with fail
          go_ret
          exact ⟨by rw [HF.out]; rfl, HX.out.trans hE⟩
end Go.Proofs.Ytcljdkjlfciacaa
