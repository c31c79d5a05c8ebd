/- orphan.Consistent of a consistent cut. No statement of the seat is proved here. -/
import Derived.Test.YtcljdkjlfciacaaFits
import Derived.Test.YtcljdkjlfciacaaPast2
namespace Go.Proofs.Ytcljdkjlfciacaa
open Go.RowKit
set_option linter.unusedVariables false

theorem run_upto (w : World) (A : Option Addr) (n cap l : Nat) (li : Int) (hli : li = l) (hl : l ≤ cap) : (Instr.slice 55 (.slice A n cap) none (some (.int .i64 li)) none).run Try.prog w = .ok (.slice (if cap = 0 then A else A.map (·.add (0 * 7))) l cap) w := by
  subst hli
  obtain ⟨i0, hi, hz0, hz1, hz2⟩ := info_parts info_ev
  have h1 : (0 : Int) ≤ (l : Int) := by omega
  have h2 : (l : Int) ≤ (cap : Int) := by omega
  by_cases hc : cap = 0
  · subst hc
    obtain rfl : l = 0 := by omega
    simp [Instr.slice, Instr.sliceBounds, run_underlying Try.underlying55, go_sem, sizeOf, typeInfo, hi]
  · simp [Instr.slice, Instr.sliceBounds, run_underlying Try.underlying55, go_sem, sizeOf, typeInfo, hi, h1, h2, hc]
theorem ev_upto {w : World} {A : Option Addr} {es : List Ev} (h : EvSeg w A es) (cap l : Nat) (hl : l ≤ es.length) : EvSeg w (if cap = 0 then A else A.map (·.add (0 * 7))) (es.take l) := by
  have e : es.flatMap Ev.cells = (es.take l).flatMap Ev.cells ++ (es.drop l).flatMap Ev.cells := by rw [← List.flatMap_append, List.take_append_drop]
  refine ⟨flat_len Ev.cells 7 Ev.len _, fun hn => ?_⟩
  rw [List.length_take] at hn
  obtain ⟨b, off, rfl, hb, hc⟩ := h.2 (by omega)
  have hadd : (⟨b, off, none⟩ : Addr).add (0 * 7) = ⟨b, off, none⟩ := by unfold Addr.add; split <;> simp_all
  refine ⟨b, off, ?_, hb, fun j u hu => hc j u ?_⟩
  · split
    · rfl
    · rw [Option.map_some, hadd]
  · rw [e, List.getElem?_append_left (List.getElem?_eq_some_iff.1 hu).1]; exact hu


/-- the cut is consistent -/
structure Cons (L : Lin) (X : List Int) : Prop where
  len : X.length = L.length
  lo : ∀ q, q < L.length → 0 ≤ elX X q
  hi : ∀ q, q < L.length → elX X q ≤ ((rowL L q).length : Int)
  fit : ∀ (q k : Nat) (e : Ev), q < L.length → (k : Int) < elX X q → (rowL L q)[k]? = some e → fitsB L X (q : Int) e = true
set_option maxRecDepth 100000 in
set_option maxHeartbeats 3200000 in
theorem consistent_yes (A : Option Addr) (cA : Nat) (R : List Rw) (B : Option Addr) (cB : Nat) (X : List Int) (w : World) (hs : LinSeg w A R) (hn : R.length ≤ 1000) (hX : IntSeg w B X) (hC : Cons (evsL R) X) :
    Calls Try.prog 25 #[.slice A R.length cA, .slice B R.length cB] w (ExtPost w (.bool true)) := by
  have hXl : X.length = R.length := by rw [hC.len, evsL_len]
  have HXl := Lib.hid hXl
  have HC := Lib.hid hC
  have HS := Lib.hid hs
  have HX := Lib.hid hX
  have hne : ((R.length : Int) != (R.length : Int)) = false := by simp
  clear hXl hC hs hX
  go_enter Try.func25, Try.ntmps25
  go_wp2_with fail
  go_loopg [18] R.length (fun g i wr => ∃ q : Nat, q ≤ R.length ∧ i = .int .i64 q ∧ g = R.length - q ∧ Ext w wr)
  case atStart => exact ⟨0, Nat.zero_le _, rfl, rfl, Ext.refl w⟩
  case round =>
    obtain ⟨q, hq, rfl, rfl, hE⟩ := hrel
    by_cases hlt : q < R.length
    · obtain ⟨b, off, rfl, pr⟩ := (HS.out.ext hE).at_ hlt
      obtain ⟨bX, oX, rfl, pX⟩ := Iv.at_ (HX.out.ext hE) (show q < X.length by rw [HXl.out]; exact hlt)
      rw [← elX_at (show q < X.length by rw [HXl.out]; exact hlt)] at pX
      have h0 := HC.out.lo q (by rw [evsL_len]; exact hlt)
      have h1 := HC.out.hi q (by rw [evsL_len]; exact hlt)
      rw [evsL_row hlt] at h1
      have hq0 : (0 : Int) ≤ (q : Int) := by omega
      have hq1 : (q : Int) < (R.length : Int) := by omega
      generalize R[q] = r at *
      have d0 : decide (elX X q < 0) = false := decide_eq_false (by omega)
      have d1 : decide ((r.es.length : Int) < elX X q) = false := decide_eq_false (by omega)
      go_wp2_with fail
      go_roundg (R.length - (q + 1))
      case measure => omega
      case rel => exact ⟨q + 1, by omega, by go_num, rfl, hE⟩
    · go_wp2_with fail
      go_loopg [40] R.length (fun g i wr => ∃ q : Nat, q ≤ R.length ∧ i = .int .i64 q ∧ g = R.length - q ∧ Ext w wr)
      case atStart => exact ⟨0, Nat.zero_le _, rfl, rfl, hE⟩
      case round =>
        clear hE hlt hq
        obtain ⟨q, hq, rfl, rfl, hE⟩ := hrel
        by_cases hlt : q < R.length
        · obtain ⟨b, off, rfl, pr⟩ := (HS.out.ext hE).at_ hlt
          obtain ⟨bX, oX, rfl, pX⟩ := Iv.at_ (HX.out.ext hE) (show q < X.length by rw [HXl.out]; exact hlt)
          rw [← elX_at (show q < X.length by rw [HXl.out]; exact hlt)] at pX
          have h0 := HC.out.lo q (by rw [evsL_len]; exact hlt)
          have h1 := HC.out.hi q (by rw [evsL_len]; exact hlt)
          have HFT := Lib.hid (fun k e h1 h2 => HC.out.fit q k e (by rw [evsL_len]; exact hlt) h1 h2)
          rw [evsL_row hlt] at h1 HFT
          obtain ⟨hr, hrc, hrm⟩ := HS.out.row hlt
          unfold maxLen at hrm
          have hq0 : (0 : Int) ≤ (q : Int) := by omega
          have hq1 : (q : Int) < (R.length : Int) := by omega
          generalize R[q] = r at *
          obtain ⟨m, hm⟩ : ∃ m : Nat, elX X q = m := ⟨(elX X q).toNat, by omega⟩
          rw [hm] at pX h1 HFT
          clear hm h0
          have hml : m ≤ r.es.length := by omega
          have hcut := fun w => run_upto w r.A r.es.length r.c m (m : Int) rfl (by omega)
          have HSEG := Lib.hid (ev_upto hr r.c m hml)
          have HTK : Hid (∀ k (h : k < (r.es.take m).length), fitsB (evsL R) X (q : Int) (r.es.take m)[k] = true) := fun k h => by
            have h' : k < m := by rw [List.length_take] at h; omega
            refine HFT.out k _ (by omega) ?_
            rw [List.getElem_take, List.getElem?_eq_getElem]
          have htl : (r.es.take m).length = m := by rw [List.length_take]; omega
          generalize (if r.c = 0 then r.A else r.A.map (·.add (0 * 7))) = A3 at *
          generalize r.es.take m = es3 at *
          have HTL := Lib.hid htl
          clear htl hr HFT
          go_wp2_with fail
          clear pr pX hcut
          go_loopg [52] m (fun g i wr => ∃ k : Nat, k ≤ m ∧ i = .int .i64 k ∧ g = m - k ∧ Ext w wr)
          case atStart => exact ⟨0, Nat.zero_le _, rfl, rfl, hE⟩
          case round =>
            clear hE
            rename World => wk
            obtain ⟨k, hk, rfl, rfl, hE⟩ := hrel
            by_cases hkl : k < m
            · have hk3 : k < es3.length := by rw [HTL.out]; exact hkl
              obtain ⟨b3, o3, rfl, p0, p1, p2, p3, p4, p5, p6⟩ := Ev.at_ (HSEG.out.ext hE) hk3
              have hF := HTK.out k hk3
              generalize es3[k] = e at *
              have hkI : (k : Int) < (m : Int) := by omega
              have hk0 : (0 : Int) ≤ (k : Int) := by omega
              have hX5 := hE.trans ((Ext.refl wk).allocs (.cells e.cells.toArray 61))
              have hB5 := Blk.new wk 61 e.cells.toArray
              have HFA := fits_any _ cA R _ cB X (q : Int) e (wk.alloc (.cells e.cells.toArray 61)) (HS.out.ext hX5) hn (HX.out.ext hX5) HXl
              rw [hF] at HFA
              have HFA := Lib.hid HFA
              clear hF
              obtain ⟨c0, c1, c2, c3, c4, c5, c6⟩ := ev7 hB5
              have HB5 := Lib.hid hB5
              unfold Ev.cells at c0 c1 c2 c3 c4 c5 c6 HFA hX5
              clear hB5
              go_wp2_with fail
              refine HFA.out.mono ?_
              rintro e' w6 ⟨rfl, hE6⟩
              clear c0 c1 c2 c3 c4 c5 c6 p0 p1 p2 p3 p4 p5 p6
              go_wp2_with fail
              go_roundg (m - (k + 1))
              case measure => omega
              case rel => exact ⟨k + 1, by omega, by go_num, rfl, hX5.trans hE6⟩
            · go_wp2_with fail
              go_roundg (R.length - (q + 1))
              case measure => omega
              case rel => exact ⟨q + 1, by omega, by go_num, rfl, hE⟩
        · go_wp2_with fail
          go_ret
          exact ⟨rfl, hE⟩
end Go.Proofs.Ytcljdkjlfciacaa
