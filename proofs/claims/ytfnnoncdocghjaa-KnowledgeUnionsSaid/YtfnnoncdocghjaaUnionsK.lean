/- The law KnowledgeUnions walked. No statement of the seat is proved here. -/
import Derived.Test.YtfnnoncdocghjaaArgsK
import Derived.Test.YtfnnoncdocghjaaMergeDd
import Derived.Test.YtfnnoncdocghjaaRMergeK
import Derived.Test.YtfnnoncdocghjaaSameK
namespace Go.Proofs.Ytfnnoncdocghjaa
open Go.RowKit
set_option linter.unusedVariables false
set_option maxRecDepth 100000

theorem memV_map_orB {b : Int} (hb : okH b) {l : List Kn} (hok : ∀ k ∈ l, okH k.h) : (memV l).map (orB b) = memV (l.map (orB b)) := by
  have h := memV_of l hok
  refine MemOf.eqV ⟨?_, fun d => ?_, fun k hk => ?_, fun k hk i => ?_⟩ ?_
  · rw [List.map_map, show Kn.d ∘ orB b = Kn.d from rfl]; exact h.asc
  · constructor
    · rintro ⟨x, hx, e⟩
      obtain ⟨y, hy, rfl⟩ := List.mem_map.1 hx
      obtain ⟨z, hz, ez⟩ := (h.dets d).1 ⟨y, hy, e⟩
      exact ⟨orB b z, List.mem_map.2 ⟨z, hz, rfl⟩, ez⟩
    · rintro ⟨x, hx, e⟩
      obtain ⟨y, hy, rfl⟩ := List.mem_map.1 hx
      obtain ⟨z, hz, ez⟩ := (h.dets d).2 ⟨y, hy, e⟩
      exact ⟨orB b z, List.mem_map.2 ⟨z, hz, rfl⟩, ez⟩
  · obtain ⟨y, hy, rfl⟩ := List.mem_map.1 hk
    exact orB_ok hb (h.ok y hy)
  · obtain ⟨y, hy, rfl⟩ := List.mem_map.1 hk
    rw [orB_bit hb (h.ok y hy)]
    constructor
    · intro hh
      rcases Bool.or_eq_true _ _ ▸ hh with hh | hh
      · obtain ⟨z, hz, ez, hbz⟩ := (h.bits y hy i).1 hh
        exact ⟨orB b z, List.mem_map.2 ⟨z, hz, rfl⟩, ez, by rw [orB_bit hb (hok z hz), hbz]; rfl⟩
      · obtain ⟨z, hz, ez⟩ := (h.dets y.d).1 ⟨y, hy, rfl⟩
        exact ⟨orB b z, List.mem_map.2 ⟨z, hz, rfl⟩, ez, by rw [orB_bit hb (hok z hz), hh]; simp⟩
    · rintro ⟨x, hx, e, hbx⟩
      obtain ⟨z, hz, rfl⟩ := List.mem_map.1 hx
      rw [orB_bit hb (hok z hz)] at hbx
      rcases Bool.or_eq_true _ _ ▸ hbx with hh | hh
      · rw [(h.bits y hy i).2 ⟨z, hz, e, hh⟩]; rfl
      · rw [hh]; simp
  · intro k hk
    obtain ⟨y, hy, rfl⟩ := List.mem_map.1 hk
    exact orB_ok hb (hok y hy)
theorem memV_congr {l m : List Kn} (hok : ∀ k ∈ l, okH k.h) (h : ∀ x, x ∈ l ↔ x ∈ m) : memV l = memV m :=
  ((memV_of l hok).congr h).eqV fun k hk => hok k ((h k).2 hk)
theorem orB_idem {b : Int} (hb : okH b) {l : List Kn} (hok : ∀ k ∈ l, okH k.h) : (l.map (orB b)).map (orB b) = l.map (orB b) := by
  rw [List.map_map]
  refine List.map_congr_left fun k hk => kn_ext rfl ?_
  show bits .or .u32 (bits .or .u32 k.h b) b = bits .or .u32 k.h b
  have h1 := bits_u32 (hok k hk).1 (hok k hk).2 hb.1 hb.2
  have h2 := orB_ok hb (hok k hk)
  refine okH_eq (orB_ok (k := orB b k) hb h2) h2 fun i => ?_
  have e1 := orB_bit hb h2 i
  have e2 := orB_bit hb (hok k hk) i
  show bitH (orB b (orB b k)) i = bitH (orB b k) i
  rw [e1, e2]
  cases bitH k i <;> cases b.toNat.testBit i <;> rfl
theorem ok_map {b : Int} (hb : okH b) {l : List Kn} (hok : ∀ k ∈ l, okH k.h) : ∀ k ∈ l.map (orB b), okH k.h := fun k hk => by
  obtain ⟨y, hy, rfl⟩ := List.mem_map.1 hk
  exact orB_ok hb (hok y hy)
theorem hok2 {l m : List Kn} (hl : ∀ k ∈ l, okH k.h) (hm : ∀ k ∈ m, okH k.h) : ∀ k ∈ l ++ m, okH k.h := fun k hk => by
  rcases List.mem_append.1 hk with h | h
  · exact hl k h
  · exact hm k h
theorem mergeV_as {b : Int} (hb : okH b) {x y : List Kn} (hx : ∀ k ∈ x, okH k.h) (hy : ∀ k ∈ y, okH k.h) : mergeV b x y = memV (x.map (orB b) ++ y.map (orB b)) := by
  unfold mergeV
  rw [memV_map_orB hb (hok2 hx hy), List.map_append]
theorem mergeV_ok {b : Int} (hb : okH b) {x y : List Kn} (hx : ∀ k ∈ x, okH k.h) (hy : ∀ k ∈ y, okH k.h) : ∀ k ∈ mergeV b x y, okH k.h := by
  rw [mergeV_as hb hx hy]
  exact (memV_of _ (hok2 (ok_map hb hx) (ok_map hb hy))).ok
theorem mergeV_len (b : Int) (x y : List Kn) : (mergeV b x y).length ≤ x.length + y.length := by
  have := memV_len (x ++ y)
  unfold mergeV
  simp only [List.length_append, List.length_map] at this ⊢
  omega
theorem mergeV_comm {b : Int} (hb : okH b) {x y : List Kn} (hx : ∀ k ∈ x, okH k.h) (hy : ∀ k ∈ y, okH k.h) : mergeV b y x = mergeV b x y := by
  rw [mergeV_as hb hy hx, mergeV_as hb hx hy]
  refine memV_congr (hok2 (ok_map hb hy) (ok_map hb hx)) fun k => ?_
  simp only [List.mem_append]
  exact Or.comm
theorem mergeV_orB {b : Int} (hb : okH b) {x y : List Kn} (hx : ∀ k ∈ x, okH k.h) (hy : ∀ k ∈ y, okH k.h) : (mergeV b x y).map (orB b) = mergeV b x y := by
  unfold mergeV
  exact orB_idem hb (memV_of _ (hok2 hx hy)).ok
theorem mergeV_left {b : Int} (hb : okH b) {x y z : List Kn} (hx : ∀ k ∈ x, okH k.h) (hy : ∀ k ∈ y, okH k.h) (hz : ∀ k ∈ z, okH k.h) : mergeV b (mergeV b x y) z = memV (x.map (orB b) ++ y.map (orB b) ++ z.map (orB b)) := by
  rw [mergeV_as hb (mergeV_ok hb hx hy) hz, mergeV_orB hb hx hy, mergeV_as hb hx hy, memV_idem (hok2 (ok_map hb hx) (ok_map hb hy))]
theorem mergeV_assoc {b : Int} (hb : okH b) {x y z : List Kn} (hx : ∀ k ∈ x, okH k.h) (hy : ∀ k ∈ y, okH k.h) (hz : ∀ k ∈ z, okH k.h) : mergeV b x (mergeV b y z) = mergeV b (mergeV b x y) z := by
  rw [mergeV_left hb hx hy hz, mergeV_comm hb (mergeV_ok hb hy hz) hx, mergeV_left hb hy hz hx]
  refine memV_congr (hok2 (hok2 (ok_map hb hy) (ok_map hb hz)) (ok_map hb hx)) fun k => ?_
  simp only [List.mem_append]
  constructor
  · rintro ((h | h) | h) <;> simp [h]
  · rintro ((h | h) | h) <;> simp [h]
theorem mergeV_again {b : Int} (hb : okH b) {x y : List Kn} (hx : ∀ k ∈ x, okH k.h) (hy : ∀ k ∈ y, okH k.h) : mergeV b (mergeV b x y) x = mergeV b x y := by
  rw [mergeV_left hb hx hy hx, mergeV_as hb hx hy]
  refine memV_congr (hok2 (hok2 (ok_map hb hx) (ok_map hb hy)) (ok_map hb hx)) fun k => ?_
  simp only [List.mem_append]
  constructor
  · rintro ((h | h) | h) <;> simp [h]
  · rintro (h | h) <;> simp [h]
theorem mergeV_dets {b : Int} {x y : List Kn} (hx : ∀ k ∈ x, okH k.h) (hy : ∀ k ∈ y, okH k.h) : stockV (x.map Kn.d ++ y.map Kn.d) = (mergeV b x y).map Kn.d := by
  have h := memV_of (x ++ y) (hok2 hx hy)
  unfold mergeV
  rw [List.map_map, show Kn.d ∘ orB b = Kn.d from rfl]
  refine asc_unique _ _ (stock_asc _) h.asc fun d => ?_
  rw [stock_mem, ← List.map_append, List.mem_map, List.mem_map]
  exact ⟨fun ⟨k, hk, e⟩ => (h.dets d).2 ⟨k, hk, e⟩, fun ⟨k, hk, e⟩ => (h.dets d).1 ⟨k, hk, e⟩⟩
theorem own_segK {w : World} {base n c : Nat} {e : TypeId} {A : Option Addr} {xs : List Value} (h : w.ownsRow base e 10 (.slice A n c) n xs) : Seg w 10 A n xs := by
  obtain ⟨A', c', hv, hs, -, -⟩ := own_slice h
  injection hv with h1 h2 h3
  subst h1
  exact hs
set_option maxHeartbeats 3200000 in
theorem unions_walk (a0 : Option Addr) (cap0 : Nat) (bs : List Int) (x1 : Int) (w : World)
    (w0 : Seg w 1 a0 bs.length (bs.map (Value.int .u8)) ∧ bs.length ≤ cap0 ∧ cap0 ≤ maxLen ∧ ∀ b ∈ bs, 0 ≤ b ∧ b < 256) (w1 : (Lit.int .i64 x1).wf = true) :
    Calls Try.prog 11 #[.slice a0 bs.length cap0, .int .i64 x1] w fun e w' => e = .returned (.bool true) ∧ Below w.heap.size w w' := by
  have W0 := Lib.hid w0
  clear w0 w1
  go_enter Try.func11, Try.ntmps11
  go_wp2_with fail
  refine (awake_any _).mono ?_
  rintro e wA ⟨rfl, hEA⟩
  have HEA := Lib.hid hEA
  clear hEA
  go_wp2_with fail
  refine (new_any a0 cap0 bs 250 wA (W0.out.1.ext HEA.out) W0.out.2.1 W0.out.2.2.1 (by omega) W0.out.2.2.2).mono ?_
  rintro e wB ⟨rfl, hC, hEB⟩
  have hcl := hC.lt
  obtain ⟨c, hc⟩ : ∃ c, wA.heap.size = c := ⟨_, rfl⟩
  have hcc : wA.heap.size ≤ c := by omega
  rw [hc] at hC hcl ⊢
  have HEB := Lib.hid (Ext.trans HEA.out hEB)
  have HZB := Lib.hid (Nat.le_trans HEA.out.size hcc)
  clear hEB hc hcc
  go_wp2_with fail
  refine (known_first c (bs.take 250) 0 wB hC 8 (by omega)).mono ?_
  rintro e wC ⟨v, X, rfl, hownX, hXl, hXok, hD⟩
  have hgC := hD.1
  obtain ⟨-, k1, hC1, -, -⟩ := hD
  have HEC : Hid (Ext w wC) := Below.grown HEB.out hgC HEB.out.size (fun k hk => by injection hk with hk; have := HZB.out; omega)
  have hcl1 : c < wC.heap.size := Nat.lt_of_lt_of_le hcl hgC.size
  have HOX := Lib.hid hXok
  clear hC hgC hXok
  obtain ⟨AX, cX, rfl, -, -, -⟩ := own_slice hownX
  go_wp2_with fail
  refine (known_first c (bs.take 250) k1 wC hC1 8 (by omega)).mono ?_
  rintro e wD ⟨v, Y, rfl, hownY, hYl, hYok, hD⟩
  have hgD := hD.1
  obtain ⟨-, k2, hC2, -, -⟩ := hD
  have HED : Hid (Ext w wD) := Below.grown HEC.out hgD HEC.out.size (fun k hk => by injection hk with hk; have := HZB.out; omega)
  have hcl2 : c < wD.heap.size := Nat.lt_of_lt_of_le hcl1 hgD.size
  have hownX2 := keptc hownX hgD hcl
  have HOY := Lib.hid hYok
  clear hC1 hgD hYok hownX
  obtain ⟨AY, cY, rfl, -, -, -⟩ := own_slice hownY
  go_wp2_with fail
  refine (known_first c (bs.take 250) k2 wD hC2 8 (by omega)).mono ?_
  rintro e wE ⟨v, Z, rfl, hownZ, hZl, hZok, hD⟩
  have hgE := hD.1
  have HEE : Hid (Ext w wE) := Below.grown HED.out hgE HED.out.size (fun k hk => by injection hk with hk; have := HZB.out; omega)
  have HSX := Lib.hid (own_segK (keptc hownX2 hgE hcl))
  have HSY := Lib.hid (own_segK (keptc hownY hgE hcl1))
  have HOZ := Lib.hid hZok
  obtain ⟨AZ, cZ, rfl, hsZ, -, -⟩ := own_slice hownZ
  have HSZ := Lib.hid hsZ
  clear hC2 hgE hZok hownX2 hownY hownZ hD hsZ hcl hcl1 hcl2 HZB HEB HEC HED
  go_wp2_with fail
  refine (mod_any x1 5 _ (by omega) (by omega)).mono ?_
  rintro e wz ⟨rfl, rfl⟩
  obtain ⟨p, hp⟩ : ∃ p, modv x1 5 = p := ⟨_, rfl⟩
  rw [hp]
  clear hp
  obtain ⟨b, hb⟩ : ∃ b, bitV p = b := ⟨_, rfl⟩
  have HB : Hid (okH b) := by rw [← hb]; exact bitV_ok p
  have HMC : Hid (∀ (A B : Option Addr) (ca cb : Nat) (a c : List Kn) (w : World) (ha : KnSeg w A a) (hb : KnSeg w B c) (hla : a.length ≤ 100) (hlb : c.length ≤ 100) (hoa : ∀ k ∈ a, okH k.h) (hoc : ∀ k ∈ c, okH k.h),
    Calls Try.prog 21 #[.slice A a.length ca, .slice B c.length cb, .int .i64 p] w (OwnPostK (mergeV b a c) w)) := fun A B ca cb a c w h1 h2 h3 h4 h5 h6 => by
    rw [← hb]
    exact merge_code A B ca cb a c p w h1 h2 (by omega) (by omega) (hok2 h5 h6)
  clear hb
  have lxy := mergeV_len b X Y
  have lyx := mergeV_len b Y X
  have lyz := mergeV_len b Y Z
  have HOXY := Lib.hid (mergeV_ok HB.out HOX.out HOY.out)
  have HOYZ := Lib.hid (mergeV_ok HB.out HOY.out HOZ.out)
  have HU1 := Lib.hid (mergeV_comm HB.out HOX.out HOY.out)
  have HU2 := Lib.hid (mergeV_assoc HB.out HOX.out HOY.out HOZ.out)
  have HU3 := Lib.hid (mergeV_again HB.out HOX.out HOY.out)
  have HU4 := Lib.hid (mergeV_dets (b := b) HOX.out HOY.out)
  rename World => wz
  have hX0 : Ext wz wz := Ext.refl wz
  go_wp2_with fail
  refine (HMC.out AX AY cX cY X Y _ HSX.out HSY.out (by omega) (by omega) HOX.out HOY.out).mono ?_
  rintro e wa ⟨v, rfl, hown, hE⟩
  obtain ⟨AM, cM, rfl, hsM, -, -⟩ := own_slice hown
  have hX1 := Ext.trans hX0 hE
  have HM1 := Lib.hid hsM
  have HW1 := Lib.hid hX1
  clear hown hE hX0 hsM hX1
  have hX1 : Ext wa wa := Ext.refl wa
  go_wp2_with fail
  refine (HMC.out AY AX cY cX Y X _ (HSY.out.ext HW1.out) (HSX.out.ext HW1.out) (by omega) (by omega) HOY.out HOX.out).mono ?_
  rintro e wb ⟨v, rfl, hown, hE⟩
  obtain ⟨AN, cN, rfl, hsN, -, -⟩ := own_slice hown
  have hX2 := Ext.trans hX1 hE
  rw [HU1.out] at hsN ⊢
  clear hown hE hX1
  go_wp2_with fail
  refine (sameKn AM AN cM cN (mergeV b X Y) _ (HM1.out.ext hX2) hsN (by omega)).mono ?_
  rintro e wc ⟨rfl, nq, rfl⟩
  have hX3 : Ext wa (wb.drewN nq) := hX2.drewN nq
  clear hsN hX2
  go_wp2_with fail
  refine (HMC.out AM AZ cM cZ (mergeV b X Y) Z _ (HM1.out.ext hX3) (HSZ.out.ext (Ext.trans HW1.out hX3)) (by omega) (by omega) HOXY.out HOZ.out).mono ?_
  rintro e wd ⟨v, rfl, hown, hE⟩
  obtain ⟨AP, cP, rfl, hsP, -, -⟩ := own_slice hown
  have hX4 := Ext.trans hX3 hE
  clear hown hE hX3
  go_wp2_with fail
  refine (HMC.out AY AZ cY cZ Y Z _ (HSY.out.ext (Ext.trans HW1.out hX4)) (HSZ.out.ext (Ext.trans HW1.out hX4)) (by omega) (by omega) HOY.out HOZ.out).mono ?_
  rintro e we ⟨v, rfl, hown, hE⟩
  obtain ⟨AQ, cQ, rfl, hsQ, -, -⟩ := own_slice hown
  have hX5 := Ext.trans hX4 hE
  have hsP5 := hsP.ext hE
  clear hown hE hX4 hsP
  go_wp2_with fail
  refine (HMC.out AX AQ cX cQ X (mergeV b Y Z) _ (HSX.out.ext (Ext.trans HW1.out hX5)) hsQ (by omega) (by omega) HOX.out HOYZ.out).mono ?_
  rintro e wf ⟨v, rfl, hown, hE⟩
  obtain ⟨AR, cR, rfl, hsR, -, -⟩ := own_slice hown
  have hX6 := Ext.trans hX5 hE
  have hsP6 := hsP5.ext hE
  rw [HU2.out] at hsR ⊢
  clear hown hE hX5 hsP5 hsQ
  have lxyz := mergeV_len b (mergeV b X Y) Z
  go_wp2_with fail
  refine (sameKn AP AR cP cR (mergeV b (mergeV b X Y) Z) _ hsP6 hsR (by omega)).mono ?_
  rintro e wg ⟨rfl, nq2, rfl⟩
  have hX7 : Ext wa (wf.drewN nq2) := hX6.drewN nq2
  clear hsP6 hsR hX6
  go_wp2_with fail
  refine (HMC.out AM AX cM cX (mergeV b X Y) X _ (HM1.out.ext hX7) (HSX.out.ext (Ext.trans HW1.out hX7)) (by omega) (by omega) HOXY.out HOX.out).mono ?_
  rintro e wh ⟨v, rfl, hown, hE⟩
  obtain ⟨AS, cS, rfl, hsS, -, -⟩ := own_slice hown
  have hX8 := Ext.trans hX7 hE
  rw [HU3.out] at hsS ⊢
  clear hown hE hX7
  go_wp2_with fail
  refine (sameKn AM AS cM cS (mergeV b X Y) _ (HM1.out.ext hX8) hsS (by omega)).mono ?_
  rintro e wi ⟨rfl, nq3, rfl⟩
  have hX9 : Ext wa (wh.drewN nq3) := hX8.drewN nq3
  clear hsS hX8
  go_wp2_with fail
  refine (dets_any AM cM (mergeV b X Y) _ (HM1.out.ext hX9) (by omega)).mono ?_
  rintro e wj ⟨v, rfl, hown, hE⟩
  obtain ⟨AT, cT, rfl, hsT, -, -⟩ := own_slice hown
  have hX10 := Ext.trans hX9 hE
  have HST := Lib.hid hsT
  clear hown hE hX9 hsT
  go_wp2_with fail
  refine (dets_any AX cX X _ (HSX.out.ext (Ext.trans HW1.out hX10)) (by omega)).mono ?_
  rintro e wk ⟨v, rfl, hown, hE⟩
  obtain ⟨AU, cU, rfl, hsU, -, -⟩ := own_slice hown
  have hX11 := Ext.trans hX10 hE
  have HST2 := Lib.hid (HST.out.ext hE)
  clear hown hE hX10 HST
  go_wp2_with fail
  refine (dets_any AY cY Y _ (HSY.out.ext (Ext.trans HW1.out hX11)) (by omega)).mono ?_
  rintro e wl ⟨v, rfl, hown, hE⟩
  obtain ⟨AV, cV, rfl, hsV, -, -⟩ := own_slice hown
  have hX12 := Ext.trans hX11 hE
  have HST3 := Lib.hid (HST2.out.ext hE)
  have hsU2 := hsU.ext hE
  clear hown hE hX11 HST2 hsU
  have HDM := Dd.merge_any AU AV cU cV (X.map Kn.d) (Y.map Kn.d) wl hsU2 hsV (by rw [List.length_map]; omega) (by rw [List.length_map]; omega)
  rw [HU4.out, List.length_map, List.length_map] at HDM
  have HDM := Lib.hid HDM
  clear hsU2 hsV
  simp only [List.length_map]
  go_wp2_with fail
  refine HDM.out.mono ?_
  rintro e wm ⟨AF, cF, rfl, hsF, -, -, hE⟩
  have hX13 := Ext.trans hX12 hE
  have hsT4 := HST3.out.ext hE
  have HSM := sameDets AT AF cT cF ((mergeV b X Y).map Kn.d) wm hsT4 hsF (by rw [List.length_map]; omega)
  rw [List.length_map] at HSM
  have HSM := Lib.hid HSM
  clear hE hX12 hsT4 hsF HST3 HDM
  simp only [List.length_map]
  go_wp2_with fail
  refine HSM.out.mono ?_
  rintro e wn ⟨rfl, nq4, rfl⟩
  have hX14 : Ext wa (wm.drewN nq4) := hX13.drewN nq4
  clear hX13 HSM
  go_wp2_with fail
  go_ret
  exact ⟨rfl, Ext.trans HEE.out (Ext.trans HW1.out hX14)⟩
end Go.Proofs.Ytfnnoncdocghjaa
