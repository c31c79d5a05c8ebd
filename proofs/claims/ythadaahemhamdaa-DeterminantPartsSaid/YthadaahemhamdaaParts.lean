/- The walk of the law DeterminantParts. -/
import Derived.Test.YthadaahemhamdaaAwake27t
import Derived.Test.YthadaahemhamdaaDets
import Derived.Test.YthadaahemhamdaaArgs27
import Derived.Test.YthadaahemhamdaaCuts27
namespace Go.Proofs.Ythadaahemhamdaa
open Go.RowKit
set_option linter.unusedVariables false

theorem stock_lenP (l : List Dt) : (stockV l).length ≤ l.length := by
  have := cpt_len (sortD l)
  rw [sortD_len] at this
  exact this
def isO (p : Int) (d : Dt) : Bool := d.proc != p
theorem parts_sum (p k : Int) : ∀ l : List Dt, (l.filter (keepC p k)).length + (l.filter (keepD p k)).length = l.length + (l.filter (isO p)).length
  | [] => rfl
  | d :: l => by
    have ih := parts_sum p k l
    simp only [List.filter_cons]
    by_cases hp : d.proc = p
    · have ho : isO p d = false := by simp [isO, hp]
      by_cases hi : d.index ≤ k
      · have hc : keepC p k d = true := by simp [keepC, hi]
        have hd : keepD p k d = false := by simp [keepD, hp]; omega
        rw [ho, hc, hd]
        simp only [if_true, Bool.false_eq_true, if_false, List.length_cons]
        omega
      · have hc : keepC p k d = false := by simp [keepC, hp]; omega
        have hd : keepD p k d = true := by simp [keepD]; omega
        rw [ho, hc, hd]
        simp only [if_true, Bool.false_eq_true, if_false, List.length_cons]
        omega
    · have ho : isO p d = true := by simp [isO, hp]
      have hc : keepC p k d = true := by simp [keepC, hp]
      have hd : keepD p k d = true := by simp [keepD, hp]
      rw [ho, hc, hd]
      simp only [if_true, List.length_cons]
      omega
theorem parts_low (p k : Int) (l : List Dt) : ((l.filter (keepC p k)).filter (keepD p k)).length = (l.filter (isO p)).length := by
  rw [List.filter_filter]
  congr 1
  apply List.filter_congr
  intro d _
  by_cases hp : d.proc = p
  · have ho : isO p d = false := by simp [isO, hp]
    rw [ho]
    by_cases hi : d.index ≤ k
    · have hd : keepD p k d = false := by simp [keepD, hp]; omega
      rw [hd]; rfl
    · have hc : keepC p k d = false := by simp [keepC, hp]; omega
      rw [hc]; simp
  · have ho : isO p d = true := by simp [isO, hp]
    have hc : keepC p k d = true := by simp [keepC, hp]
    have hd : keepD p k d = true := by simp [keepD, hp]
    rw [ho, hc, hd]; rfl
theorem parts_stock (p k : Int) (l : List Dt) : stockV (l.filter (keepC p k) ++ l.filter (keepD p k)) = stockV (l ++ []) := by
  refine asc_unique _ _ (stock_asc _) (stock_asc _) fun d => ?_
  rw [stock_mem, stock_mem, List.append_nil, List.mem_append, List.mem_filter, List.mem_filter]
  constructor
  · rintro (h | h) <;> exact h.1
  · intro h
    by_cases hi : d.index ≤ k
    · exact .inl ⟨h, by simp [keepC, hi]⟩
    · exact .inr ⟨h, by simp [keepD]; omega⟩
def OtRel (w : World) (l : List Dt) (p : Int) (g : Nat) (ov iv : Value) (wr : World) : Prop := ∃ j : Nat, j ≤ l.length ∧ iv = .int .i64 j ∧ g = l.length - j ∧ wr = w ∧ ov = .int .i64 (((l.take j).filter (isO p)).length : Int)
set_option maxRecDepth 100000 in
set_option maxHeartbeats 1600000 in
theorem parts_walk (a0 : Option Addr) (cap0 : Nat) (bs : List Int) (x1 x2 : Int) (w : World)
    (h0 : Seg w 1 a0 bs.length (bs.map (Value.int .u8)) ∧ bs.length ≤ cap0 ∧ cap0 ≤ maxLen ∧ ∀ b ∈ bs, 0 ≤ b ∧ b < 256) (hx1 : (Lit.int .i64 x1).wf = true) (hx2 : (Lit.int .i64 x2).wf = true) :
    Calls Try.prog 9 #[.slice a0 bs.length cap0, .int .i64 x1, .int .i64 x2] w fun e w' => e = .returned (.bool true) ∧ Below w.heap.size w w' := by
  obtain ⟨hs0, hc0, hm0, hok0⟩ := h0
  have O0 := Lib.hid hok0
  clear hok0 hx1 hx2
  go_enter Try.func9, Try.ntmps9
  go_wp2_with fail
  refine (awake_any w).mono ?_
  rintro e w1 ⟨rfl, hE1⟩
  go_wp2_with fail
  refine (new_any a0 cap0 bs 200 w1 (hs0.ext hE1) hc0 hm0 (by omega) O0.out).mono ?_
  rintro e w2 ⟨rfl, hC, hE2⟩
  generalize bs.take 200 = cs at *
  have hcl := hC.lt
  have hX2 := Ext.trans hE1 hE2
  obtain ⟨c, hc⟩ : ∃ c, w1.heap.size = c := ⟨_, rfl⟩
  have hwc : w.heap.size ≤ c := by rw [← hc]; exact hE1.size
  rw [hc] at hC hcl ⊢
  clear hc hE1 hE2 hs0 O0
  go_wp2_with fail
  refine (dets_any c cs 0 w2 hC 14 (by omega)).mono ?_
  rintro e w3 ⟨v3, l, rfl, hown3, hl3, _, hg3, k3, hC3, _, _⟩
  have hX3 := Ext.grownRow hX2 hwc hg3
  obtain ⟨A3, c3, rfl, hs3, _, _⟩ := own_slice hown3
  clear hown3 hg3 hC hC3 hX2
  go_wp2_with fail
  refine (mod_any x1 4 w3 (by omega) (by omega)).mono ?_
  rintro e w' ⟨rfl, rfl⟩
  go_wp2_with fail
  refine (mod_any x2 9 w3 (by omega) (by omega)).mono ?_
  rintro e w' ⟨rfl, rfl⟩
  have hm1 := modv_bd x1 4 (by omega)
  have hm2 := modv_bd x2 9 (by omega)
  generalize modv x1 4 = p at *
  generalize modv x2 9 = k1 at *
  obtain ⟨k, hk⟩ : ∃ k, k1 - 1 = k := ⟨_, rfl⟩
  have HKK := Lib.hid hk
  have HSUM := Lib.hid (parts_sum p k l)
  have HLOW := Lib.hid (parts_low p k l)
  have HST := Lib.hid (parts_stock p k l)
  have hfc := List.length_filter_le (keepC p k) l
  have hfd := List.length_filter_le (keepD p k) l
  have hfo := List.length_filter_le (isO p) l
  have hfcd := List.length_filter_le (keepD p k) (l.filter (keepC p k))
  have hsl := stock_lenP (l ++ [])
  rw [List.append_nil] at hsl
  rw [List.append_nil] at HST
  have HCU := Lib.hid (fun W h => cut_any A3 c3 l p k W h (by omega))
  have HDI := Lib.hid (fun W h => discard_any A3 c3 l p k W h (by omega))
  have HD2 := Lib.hid (fun A c W h => discard_any A c (l.filter (keepC p k)) p k W h (by omega))
  have HM1 := Lib.hid (fun A B ca cb W h h' => merge_any A B ca cb (l.filter (keepC p k)) (l.filter (keepD p k)) W h h' (by omega) (by omega))
  have HM2 := Lib.hid (fun W h => merge_any A3 none c3 0 l [] W h Seg.nil (by omega) (by simp))
  rw [List.append_nil] at HM2
  rw [HST.out] at HM1
  clear HST
  have HO0 : Hid ((l.take l.length).filter (isO p) = l.filter (isO p)) := by show (l.take l.length).filter (isO p) = _; rw [List.take_length]
  have HOT := Lib.hid (fun j hj => filter_take l (isO p) j hj)
  have HPO : Hid (∀ d : Dt, isO p d = (d.proc != p)) := fun d => rfl
  have hoB : ∀ j, ((l.take j).filter (isO p)).length ≤ 14 := fun j => Nat.le_trans (List.length_filter_le _ _) (by rw [List.length_take]; omega)
  have HOB := Lib.hid hoB
  clear hoB hk
  generalize hlo : l.filter (keepC p k) = lo at *
  generalize hhi : l.filter (keepD p k) = hi at *
  clear hlo hhi
  generalize lo.filter (keepD p k) = lod at *
  generalize stockV l = ST at *
  go_wp2_with fail
  rw [HKK.out]
  refine (HCU.out w3 hs3).mono ?_
  rintro e w4 ⟨v4, rfl, hown4, hE4⟩
  obtain ⟨A4, c4, rfl, hs4, _, _⟩ := own_slice hown4
  go_wp2_with fail
  refine (HDI.out w4 (hs3.ext hE4)).mono ?_
  rintro e w5 ⟨v5, rfl, hown5, hE5⟩
  obtain ⟨A5, c5, rfl, hs5, _, _⟩ := own_slice hown5
  have hs35 := (hs3.ext hE4).ext hE5
  have hs45 := hs4.ext hE5
  have hX5 := Ext.trans hX3 (Ext.trans hE4 hE5)
  clear hown4 hown5 hs4 hs3 hE4 hE5 hX3 HCU HDI
  go_wp2_with fail
  go_loopg [12, 13] l.length (fun g ov iv wr => OtRel w5 l p g ov iv wr)
  case atStart => exact ⟨0, Nat.zero_le _, rfl, rfl, rfl, rfl⟩
  case round =>
    obtain ⟨j, hj, rfl, rfl, hwr5, rfl⟩ := hrel
    subst hwr5
    by_cases hlt : j < l.length
    · obtain ⟨b, off, rfl, p0, p1, p2, p3, p4, p5, p6, p7, p8⟩ := Dt.at_ hs35 hlt
      have HT := Lib.hid (HOT.out j hlt)
      have HQ := Lib.hid (HPO.out l[j])
      have hob := HOB.out j
      generalize ((l.take j).filter (isO p)) = F at *
      generalize l[j] = x at *
      by_cases hp : x.proc = p
      · have hp' : (x.proc != p) = false := by simp [hp]
        go_wp2_with fail
        go_roundg (l.length - (j + 1))
        case measure => omega
        case rel => exact ⟨j + 1, by omega, by go_num, rfl, rfl, by rw [HT.out, HQ.out, hp']; rfl⟩
      · have hp' : (x.proc != p) = true := by simp [hp]
        go_wp2_with fail
        go_roundg (l.length - (j + 1))
        case measure => omega
        case rel => exact ⟨j + 1, by omega, by go_num, rfl, rfl, by rw [HT.out, HQ.out, hp', if_pos rfl, List.length_append]; go_num⟩
    · obtain rfl : j = l.length := by omega
      rw [HO0.out]
      have hsum := HSUM.out
      have hlow := HLOW.out
      generalize (l.filter (isO p)).length = O at *
      have e1 : ((lo.length : Int) + (hi.length : Int) == (l.length : Int) + (O : Int)) = true := by simp; omega
      have e2 : ((lod.length : Int) == (O : Int)) = true := by simp; omega
      go_wp2_with fail
      refine (HD2.out A4 c4 _ hs45).mono ?_
      rintro e w6 ⟨v6, rfl, hown6, hE6⟩
      obtain ⟨A6, c6, rfl, hs6, _, _⟩ := own_slice hown6
      clear hown6
      go_wp2_with fail
      refine (HM1.out A4 A5 c4 c5 w6 (hs45.ext hE6) (hs5.ext hE6)).mono ?_
      rintro e w7 ⟨A7, c7, rfl, hs7, _, _, hE7⟩
      go_wp2_with fail
      refine (HM2.out w7 ((hs35.ext hE6).ext hE7)).mono ?_
      rintro e w8 ⟨A8, c8, rfl, hs8, _, _, hE8⟩
      go_wp2_with fail
      refine (sameDets A7 A8 c7 c8 ST w8 (hs7.ext hE8) hs8 (by omega)).mono ?_
      rintro e w9 ⟨rfl, q9, rfl⟩
      go_wp2_with fail
      go_ret
      exact ⟨rfl, Ext.trans hX5 (Ext.trans hE6 (Ext.trans hE7 (Ext.trans hE8 (Ext.drewn w8 q9))))⟩
end Go.Proofs.Ythadaahemhamdaa
