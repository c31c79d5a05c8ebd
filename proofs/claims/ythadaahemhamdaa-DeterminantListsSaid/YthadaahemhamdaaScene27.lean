/- The scenes of chapter 27: a lineage, checkpoints, a stock. No statement of the seat is proved here. -/
import Derived.Test.YthadaahemhamdaaDets
import Derived.Deep.RegionHeld3
namespace Go.Proofs.Ythadaahemhamdaa
open Go.RowKit
set_option linter.unusedVariables false

/-- what a scene is -/
def ScenePost (w : World) (e : Ending) (w' : World) : Prop :=
  ∃ (p : Int) (es : List Ev) (ck : List Int) (st : List Dt) (Ae Ac As : Option Addr) (ce cc cs : Nat), e = .returned (.tuple #[.int .i64 p, .slice Ae es.length ce, .slice Ac ck.length cc, .slice As st.length cs]) ∧
    EvSeg w' Ae es ∧ IntSeg w' Ac ck ∧ DtSeg w' As st ∧ InI64 p ∧ (0 ≤ p ∧ p < 3) ∧ (∀ e ∈ es, e.ok) ∧ (∀ c ∈ ck, InI64 c) ∧ (∀ d ∈ st, d.ok) ∧ es.length ≤ 12 ∧ ck.length ≤ 14 ∧ st.length ≤ 15 ∧ es.length ≤ ce ∧ ce ≤ maxLen ∧ Ext w w'

def Sc1 (w1 : World) (c : Nat) (bs : List Int) (es : List Ev) (bE bC : Nat) (vE : Value) (g : Nat) (v i : Value) (wr : World) : Prop :=
  ∃ (k : Nat) (ck : List Int), k ≤ es.length + 1 ∧ i = .int .i64 k ∧ g = es.length + 1 - k ∧ wr.ownsRow bC 3 1 v ck.length (ck.flatMap Iv) ∧ ck.length ≤ k ∧ (∀ c ∈ ck, InI64 c) ∧ Drew c bs 0 w1 wr ∧ wr.ownsRow bE 37 7 vE es.length (es.flatMap Ev.cells) ∧ bC ≤ wr.heap.size
def Sc2 (w1 : World) (c : Nat) (bs : List Int) (es : List Ev) (ck : List Int) (L : List Dt) (bE bC bL bS : Nat) (vE vC vL : Value) (g : Nat) (v i : Value) (wr : World) : Prop :=
  ∃ (k : Nat) (st : List Dt), k ≤ L.length ∧ i = .int .i64 k ∧ g = L.length - k ∧ wr.ownsRow bS 39 9 v st.length (st.flatMap Dt.cells) ∧ st.length ≤ k ∧ (∀ d ∈ st, d.ok) ∧ Drew c bs 0 w1 wr ∧
    wr.ownsRow bE 37 7 vE es.length (es.flatMap Ev.cells) ∧ wr.ownsRow bC 3 1 vC ck.length (ck.flatMap Iv) ∧ wr.ownsRow bL 39 9 vL L.length (L.flatMap Dt.cells) ∧ (∀ r, vL.ownBlock = some r → r < bS) ∧ bS ≤ wr.heap.size
theorem drew_ext {c : Nat} {bs : List Int} {k : Nat} {w w1 w' : World} (h : Drew c bs k w1 w') (hE : Ext w w1) (hc : w.heap.size ≤ c) : Ext w w' :=
  ⟨h.1.os.trans hE.os, h.1.tape.trans hE.tape, h.1.output.trans hE.output, Nat.le_trans hE.size h.1.size, fun j hj => (h.1.block j (Nat.lt_of_lt_of_le hj hE.size) (fun e => by injection e; omega)).trans (hE.block j hj)⟩
theorem lin_ok {p : Int} {es : List Ev} (hp : InI64 p) (he : ∀ e ∈ es, e.ok) (hn : es.length ≤ 900) : ∀ d ∈ linV p es, d.ok := by
  intro d hd
  obtain ⟨j, hj⟩ := List.mem_iff_getElem?.1 hd
  have hjl : j < es.length := by have := (List.getElem?_eq_some_iff.1 hj).1; unfold linV at this; rw [lin_len] at this; exact this
  unfold linV at hj
  rw [linV_get p es 0 j hjl] at hj
  injection hj with hj
  subst hj
  exact ⟨hp, (show InI64 (((0 + j : Nat) : Int) + 1) from inI _ (by omega) (by omega)), he _ (List.getElem_mem hjl)⟩

theorem Dt.cells_at {W : World} {b off : Nat} {L : List Dt} (h : DtSeg W (some ⟨b, off, none⟩) L) {k : Nat} (hk : k < L.length) {x : Dt} (hx : L[k] = x) : W.cell? ⟨b, off + k * 9, none⟩ = some (.int .i64 x.proc) ∧ W.cell? ⟨b, off + k * 9 + 1, none⟩ = some (.int .i64 x.index) ∧ W.cell? ⟨b, off + k * 9 + 2, none⟩ = some (.int .i64 x.ev.kind) ∧ W.cell? ⟨b, off + k * 9 + 3, none⟩ = some (.int .i64 x.ev.inc) ∧ W.cell? ⟨b, off + k * 9 + 4, none⟩ = some (.int .i64 x.ev.frm) ∧ W.cell? ⟨b, off + k * 9 + 5, none⟩ = some (.int .i64 x.ev.sinc) ∧ W.cell? ⟨b, off + k * 9 + 6, none⟩ = some (.int .i64 x.ev.sidx) ∧ W.cell? ⟨b, off + k * 9 + 7, none⟩ = some (.int .i64 x.ev.ord) ∧ W.cell? ⟨b, off + k * 9 + 8, none⟩ = some (.int .i64 x.ev.val) := by
  obtain ⟨b', off', hA, _, hc⟩ := Seg.at_ h Dt.len hk
  injection hA with hA
  injection hA with h1 h2
  subst h1 h2 hx
  exact ⟨hc 0 _ rfl, hc 1 _ rfl, hc 2 _ rfl, hc 3 _ rfl, hc 4 _ rfl, hc 5 _ rfl, hc 6 _ rfl, hc 7 _ rfl, hc 8 _ rfl⟩

set_option maxRecDepth 100000 in
set_option maxHeartbeats 12800000 in
theorem scene_any (A : Option Addr) (cap : Nat) (bs0 : List Int) (w : World) (hb : Seg w 1 A bs0.length (bs0.map (Value.int .u8))) (hb1 : bs0.length ≤ cap) (hb2 : cap ≤ maxLen) (hb3 : ∀ b ∈ bs0, 0 ≤ b ∧ b < 256) :
    Calls Try.prog 13 #[.slice A bs0.length cap] w (ScenePost w) := by
  go_enter Try.func13, Try.ntmps13
  go_wp2_with fail
  refine (new_any A cap bs0 250 w hb hb1 hb2 (by omega) hb3).mono ?_
  rintro e w1 ⟨rfl, hC, hE1⟩
  have hcl := hC.lt
  generalize bs0.take 250 = bs at *
  obtain ⟨c, hc⟩ : ∃ c, w.heap.size = c := ⟨_, rfl⟩
  have hwc : w.heap.size ≤ c := by omega
  rw [hc] at hC hcl ⊢
  clear hc hb hb3
  go_wp2_with fail
  refine (next_any' c bs 0 w1 hC 3 (by omega) (by omega)).mono ?_
  rintro e w2 ⟨p, rfl, ⟨hp0, hp1⟩, hD2⟩
  have hp := inI p hp0 (by omega)
  go_wp2_with fail
  refine (events_on hD2 (Ext.refl _) 12 (by omega)).mono ?_
  rintro e w3 ⟨v3, es, rfl, hown3, hle3, hmade, hD3, hg3⟩
  have hoke : ∀ e ∈ es, e.ok := fun e he => (hmade e he).2
  have hz3 := hD2.1.size
  have hz33 := hg3.size
  obtain ⟨Ae, ce, rfl, hsl3, hce1, hce2⟩ := own_slice hown3
  have HOK := Lib.hid hoke
  clear hmade hoke hD2 hg3 hsl3
  obtain ⟨bE, hbE⟩ : ∃ bE, w2.heap.size = bE := ⟨_, rfl⟩
  rw [hbE] at hown3 hz3 hz33
  clear hbE
  obtain ⟨bC, hbC⟩ : ∃ bC, w3.heap.size = bC := ⟨_, rfl⟩
  have hbC' : bC ≤ w3.heap.size := by omega
  rw [hbC] at hz33
  clear hbC
  go_wp2_with fail
  go_loopg [9, 10] (es.length + 1) (fun g v i wr => Sc1 w1 c bs es bE bC (.slice Ae es.length ce) g v i wr)
  case atStart => exact ⟨0, [], Nat.zero_le _, rfl, rfl, own_nil _ _ _ _ _, Nat.le_refl _, by simp, hD3, hown3, hbC'⟩
  case round =>
    clear hD3 hown3 hbC'
    obtain ⟨k, ck, hk, rfl, rfl, hown, hlk, hokc, hD, hrowE, hzC⟩ := hrel
    have HCK := Lib.hid hokc
    clear hokc
    by_cases hlt : k ≤ es.length
    · go_wp2_with fail
      refine (next_on hD (Ext.refl _) 4 (by omega) (by omega)).mono ?_
      rintro e w4 ⟨r4, rfl, ⟨hr40, hr41⟩, hD4, hg4⟩
      have hown4 := kept_c hown hg4 (by omega)
      have hrowE4 := kept_c hrowE hg4 (by omega)
      have hz4 := hg4.size
      clear hD hown hrowE
      by_cases h1 : r4 = 1
      · subst h1
        go_wp2_with (at_builtin; refine wpList_push_at Iv 1 8 Iv.len Iv.one (by omega) rfl _ _ _ rfl bC 3 Try.underlying23 (by kernel_rfl) u9 ck (k : Int) w4.heap.size rfl hown4 rfl rfl (by unfold maxLen; omega) (by omega) (by omega) ?_; intro v7 w7 hown7 hg7)
        have hD7 := hD4.grown hg7 (fun r hr => by have := (hown4.lt r hr).1; omega) (by omega)
        have hrowE7 := hrowE4.kept hg7 (own_ne hrowE4 hown4 (by decide))
        go_roundg (es.length + 1 - (k + 1))
        case measure => omega
        case rel => exact ⟨k + 1, ck ++ [(k : Int)], by omega, by go_num, rfl, hown7, by simp; omega, all_snoc HCK.out (inI _ (by omega) (by omega)), hD7, hrowE7, by have := hg7.size; omega⟩
      · have h1' : (r4 == 1) = false := by simp [h1]
        clear h1
        go_wp2_with fail
        go_roundg (es.length + 1 - (k + 1))
        case measure => omega
        case rel => exact ⟨k + 1, ck, by omega, by go_num, rfl, hown4, by omega, HCK.out, hD4, hrowE4, by omega⟩
    · have hck : ck.length ≤ 13 := by omega
      go_wp2_with fail
      refine (next_on hD (Ext.refl _) 6 (by omega) (by omega)).mono ?_
      rintro e w4 ⟨r4, rfl, ⟨hr40, hr41⟩, hD4, hg4⟩
      have hown4 := kept_c hown hg4 (by omega)
      have hrowE4 := kept_c hrowE hg4 (by omega)
      have hz4 := hg4.size
      clear hD hown hrowE hg4
      by_cases h1 : r4 = 5
      · subst h1
        go_wp2_with fail
        refine (int_on hD4 (Ext.refl _)).mono ?_
        rintro e w6 ⟨r6, rfl, hr6, hD6, hg6⟩
        have hown6 := kept_c hown4 hg6 (by omega)
        have hrowE6 := kept_c hrowE4 hg6 (by omega)
        have hz6 := hg6.size
        clear hD4 hown4 hrowE4 hg6
        go_wp2_with (at_builtin; refine wpList_push_at Iv 1 8 Iv.len Iv.one (by omega) rfl _ _ _ rfl bC 3 Try.underlying23 (by kernel_rfl) u9 ck r6 w6.heap.size rfl hown6 rfl rfl (by unfold maxLen; omega) (by omega) (by omega) ?_; intro v7 w7 hown7 hg7)
        have hD7 := hD6.grown hg7 (fun r hr => by have := (hown6.lt r hr).1; omega) (by omega)
        have hrowE7 := hrowE6.kept hg7 (own_ne hrowE6 hown6 (by decide))
        have HCK2 := Lib.hid (all_snoc HCK.out hr6)
        have hck2 : (ck ++ [r6]).length ≤ 14 := by simp; omega
        clear HCK hD6 hown6 hrowE6
        have HCK := HCK2
        clear HCK2
        generalize ck ++ [r6] = ck2 at *
        go_wp2_with fail
        refine (lineage_ref Ae ce p es _ (Seg.of_own hrowE7) (by omega)).mono ?_
        rintro e w5 ⟨vL, rfl, hrowL, hE5⟩
        have hD5 := hD7.post hE5
        have hrowE5 := own_ext hrowE7 hE5
        have hrowC5 := own_ext hown7 hE5
        have hzL := hE5.size
        have hLok := lin_ok (p := p) hp HOK.out (by omega)
        have hLl : (linV p es).length ≤ 12 := by have : (linV p es).length = es.length := lin_len p es 0; omega
        have hltL : ∀ r, vL.ownBlock = some r → r < w5.heap.size := fun r hr => (hrowL.lt r hr).2
        have hcz5 : c < w5.heap.size := by have := hD5.1.size; omega
        obtain ⟨bL, hbL, hcL⟩ : ∃ bL, w5.ownsRow bL 39 9 vL (linV p es).length ((linV p es).flatMap Dt.cells) ∧ c < bL := ⟨_, hrowL, by have := hD7.1.size; omega⟩
        generalize linV p es = L at *
        have HLK := Lib.hid hLok
        have HLT := Lib.hid hltL
        clear hLok hltL hrowL hE5 hD7 hrowE7 hown7
        obtain ⟨AL, cL, rfl, _, hcL1, hcL2⟩ := own_slice hbL
        obtain ⟨AC, cC, rfl, _, hcC1, hcC2⟩ := own_slice hrowC5
        unfold maxLen at hcL2
        obtain ⟨bS, hbS⟩ : ∃ bS, w5.heap.size = bS := ⟨_, rfl⟩
        have hbS' : bS ≤ w5.heap.size := by omega
        have hw1S : w1.heap.size ≤ bS := by have := hD5.1.size; omega
        rw [hbS] at HLT hcz5
        clear hbS
        go_wp2_with fail
        go_loopg [11, 13] L.length (fun g v i wr => Sc2 w1 c bs es ck2 L bE bC bL bS (.slice Ae es.length ce) (.slice AC (ck2).length cC) (.slice AL L.length cL) g v i wr)
        case atStart => exact ⟨0, [], Nat.zero_le _, rfl, rfl, own_nil _ _ _ _ _, Nat.le_refl _, by simp, hD5, hrowE5, hrowC5, hbL, HLT.out, hbS'⟩
        case round =>
          clear hD5 hrowE5 hrowC5 hbL hbS' HLT
          obtain ⟨k, st, hk, rfl, rfl, hown, hlk, hoks, hD, hrowE, hrowC, hrowL, hltL, hzS⟩ := hrel
          have HST := Lib.hid hoks
          have HLT := Lib.hid hltL
          clear hoks hltL
          by_cases hlt : k < L.length
          · go_wp2_with fail
            refine (next_on hD (Ext.refl _) 4 (by omega) (by omega)).mono ?_
            rintro e w4 ⟨r4, rfl, ⟨hr40, hr41⟩, hD4, hg4⟩
            have hown4 := kept_c hown hg4 (by omega)
            have hrowE4 := kept_c hrowE hg4 (by omega)
            have hrowC4 := kept_c hrowC hg4 (by omega)
            have hrowL4 := kept_c hrowL hg4 (by omega)
            have hzS4 : bS ≤ w4.heap.size := by have := hg4.size; omega
            have hokx := HLK.out L[k] (List.getElem_mem hlt)
            clear hD hown hrowE hrowC hrowL hg4
            obtain ⟨b, off, rfl, hdrop⟩ := Dt.at_ (Seg.of_own hrowL4) hlt
            clear hdrop
            obtain ⟨x, hx⟩ : ∃ x, L[k] = x := ⟨_, rfl⟩
            rw [hx] at hokx
            have HX := Lib.hid hx
            have hneL : ∀ r, u11.ownBlock = some r → b ≠ r := fun r hr e => by have h1 := (hown4.lt r hr).1; have h2 := HLT.out b rfl; omega
            have HNE := Lib.hid hneL
            clear hx hneL
            by_cases h0 : 0 < r4
            · obtain ⟨p0, p1, p2, p3, p4, p5, p6, p7, p8⟩ := Dt.cells_at (Seg.of_own hrowL4) hlt HX.out
              go_wp2_with (at_builtin; refine wpList_push_at Dt.cells 9 72 Dt.len Dt.one (by omega) rfl _ _ _ rfl bS 39 Try.underlying24 (by kernel_rfl) u11 st x w4.heap.size rfl hown4 rfl rfl (by unfold maxLen; omega) (by omega) hzS4 ?_; intro v7 w7 hown7 hg7)
              have hD7 := hD4.grown hg7 (fun r hr => by have := (hown4.lt r hr).1; omega) (by omega)
              have hrowE7 := hrowE4.kept hg7 (own_ne hrowE4 hown4 (by decide))
              have hrowC7 := hrowC4.kept hg7 (own_ne hrowC4 hown4 (by decide))
              have hrowL7 := hrowL4.kept hg7 (by right; intro e; exact HNE.out b e.symm rfl)
              go_roundg (L.length - (k + 1))
              case measure => omega
              case rel => exact ⟨k + 1, st ++ [x], by omega, by go_num, rfl, hown7, by simp; omega, all_snoc HST.out hokx, hD7, hrowE7, hrowC7, hrowL7, HLT.out, by have := hg7.size; omega⟩
            · obtain rfl : r4 = 0 := by omega
              obtain ⟨p0, p1, p2, p3, p4, p5, p6, p7, p8⟩ := Dt.cells_at (Seg.of_own hrowL4) hlt HX.out
              have hsl := Seg.of_own hrowL4
              have tok : True := trivial
              have hkL : (k : Int) < (L.length : Int) := by omega
              have hk0 : (0 : Int) ≤ (k : Int) := by omega
              go_wp2_with fail
              go_region_held3 (fun w' => w'.cell? ⟨b, off + k * 9, none⟩ = some (.int .i64 x.proc) ∧ w'.cell? ⟨b, off + k * 9 + 1, none⟩ = some (.int .i64 x.index) ∧ w'.cell? ⟨b, off + k * 9 + 2, none⟩ = some (.int .i64 x.ev.kind) ∧ w'.cell? ⟨b, off + k * 9 + 3, none⟩ = some (.int .i64 x.ev.inc) ∧ w'.cell? ⟨b, off + k * 9 + 4, none⟩ = some (.int .i64 x.ev.frm) ∧ w'.cell? ⟨b, off + k * 9 + 5, none⟩ = some (.int .i64 x.ev.sinc) ∧ w'.cell? ⟨b, off + k * 9 + 6, none⟩ = some (.int .i64 x.ev.sidx) ∧ w'.cell? ⟨b, off + k * 9 + 7, none⟩ = some (.int .i64 x.ev.ord) ∧ w'.cell? ⟨b, off + k * 9 + 8, none⟩ = some (.int .i64 x.ev.val))
                (first | (refine Dt.cells_at ?_ hlt HX.out; (repeat (first | with_reducible refine Seg.alloc ?_ _ | with_reducible refine Seg.drew ?_ | with_reducible refine Seg.drewN ?_ _)); (first | with_reducible exact hsl | with_reducible exact hslA | with_reducible exact hslB | with_reducible exact hslC | with_reducible exact hslD)))
                (first
                  | (go_at_call 31; have _t := tok; refine (next_on hD4 (Below.drew (Ext.refl _)) 10 (by omega) (by omega)).mono ?_; rintro e w6 ⟨r6, rfl, ⟨hr60, hr61⟩, hD6, hg6⟩; have hg46 : w4.grownBy w6 (some c) := grownBy_trans (grownBy_ext (Below.drew (Ext.refl w4))) hg6; have hown6 := kept_c hown4 hg46 (by omega); have hrowE6 := kept_c hrowE4 hg46 (by omega); have hrowC6 := kept_c hrowC4 hg46 (by omega); have hrowL6 := kept_c hrowL4 hg46 (by omega); have hslA := Seg.of_own hrowL6; clear tok)
                  | (go_at_call 31; refine (next_on hD6 (Ext.refl _) 3 (by omega) (by omega)).mono ?_; rintro e w8 ⟨r8, rfl, ⟨hr80, hr81⟩, hD8, hg8⟩; have hown8 := kept_c hown6 hg8 (by omega); have hrowE8 := kept_c hrowE6 hg8 (by omega); have hrowC8 := kept_c hrowC6 hg8 (by omega); have hrowL8 := kept_c hrowL6 hg8 (by omega); have hslB := Seg.of_own hrowL8)
                  | (go_at_call 20; refine (near_any x r6 r8 _ hokx (inI r8 (by omega) (by omega))).mono ?_; rintro e w9 ⟨y, rfl, hoky, hE9⟩; have hD9 := hD8.post hE9; have hown9 := own_ext hown8 hE9; have hrowE9 := own_ext hrowE8 hE9; have hrowC9 := own_ext hrowC8 hE9; have hrowL9 := own_ext hrowL8 hE9; have hslC := Seg.of_own hrowL9; have hzS9 : bS ≤ w9.heap.size := (by have := hE9.size; have := hg8.size; have := hg46.size; omega))
                  | (refine step_push_at Dt.cells 9 72 Dt.len Dt.one (by omega) (by rfl) _ _ _ (by rfl) bS 39 Try.underlying24 (by kernel_rfl) u11 st y w9.heap.size (by rfl) hown9 (by rfl) (by rfl) (by unfold maxLen; omega) (by omega) hzS9 ?_; intro v7 w7 hown7 hg7; have hrowL7 := hrowL9.kept hg7 (by right; intro e; exact HNE.out b e.symm rfl); have hslD := Seg.of_own hrowL7))
              have hD7 := hD9.grown hg7 (fun r hr => by have := (hown9.lt r hr).1; omega) (by omega)
              have hrowE7 := hrowE9.kept hg7 (own_ne hrowE9 hown9 (by decide))
              have hrowC7 := hrowC9.kept hg7 (own_ne hrowC9 hown9 (by decide))
              go_wp2_with fail
              go_roundg (L.length - (k + 1))
              case measure => omega
              case rel => exact ⟨k + 1, st ++ [y], by omega, by go_num, rfl, hown7, by simp; omega, all_snoc HST.out hoky, hD7, hrowE7, hrowC7, hrowL7, HLT.out, by have := hg7.size; omega⟩
          · have hke : k = L.length := by omega
            go_wp2_with fail
            refine (dets_on hD (Ext.refl _) 3 (by omega)).mono ?_
            rintro e w6 ⟨v6, ds, rfl, hrow6, hle6, hok6, hD6, hg6⟩
            have hown6 := kept_c hown hg6 (by omega)
            have hrowE6 := kept_c hrowE hg6 (by omega)
            have hrowC6 := kept_c hrowC hg6 (by omega)
            obtain ⟨A6, c6, rfl, hs6, _, _⟩ := own_slice hrow6
            have hz6 := hg6.size
            clear hD hown hrowE hrowC hke
            go_wp2_with (at_builtin; refine wpList_append_seg rfl _ _ _ rfl bS 39 9 72 (by omega) Try.underlying24 (by kernel_rfl) u11 st.length (st.flatMap Dt.cells) rfl hown6 A6 ds.length c6 (ds.flatMap Dt.cells) rfl hs6 (Dt.ones ds) (by unfold maxLen; omega) (by omega) (by omega) ?_; intro v7 w7 hown7 hg7)
            have hD7 := hD6.grown hg7 (fun r hr => by have := (hown6.lt r hr).1; omega) (by omega)
            have hrowE7 := hrowE6.kept hg7 (own_ne hrowE6 hown6 (by decide))
            have hrowC7 := hrowC6.kept hg7 (own_ne hrowC6 hown6 (by decide))
            have hown7' : w7.ownsRow bS 39 9 v7 (st ++ ds).length ((st ++ ds).flatMap Dt.cells) := by rw [List.length_append, List.flatMap_append]; exact hown7
            obtain ⟨A7, c7, hv7, hs7, _, _⟩ := own_slice hown7'
            subst hv7
            refine bodyPost_ret (results_tmp4 rfl _ _ _) rfl ?_
            exact ⟨p, es, ck2, st ++ ds, Ae, AC, A7, ce, cC, c7, rfl, Seg.of_own hrowE7, Seg.of_own hrowC7, hs7, hp, ⟨hp0, hp1⟩, HOK.out, HCK.out, fun d hd => by
              rcases List.mem_append.1 hd with h | h
              · exact HST.out d h
              · exact hok6 d h, hle3, hck2, by simp; omega, hce1, hce2, drew_ext hD7 hE1 hwc⟩
      · have h1' : (r4 == 5) = false := by simp [h1]
        clear h1
        go_wp2_with fail
        refine (lineage_ref Ae ce p es _ (Seg.of_own hrowE4) (by omega)).mono ?_
        rintro e w5 ⟨vL, rfl, hrowL, hE5⟩
        have hD5 := hD4.post hE5
        have hrowE5 := own_ext hrowE4 hE5
        have hrowC5 := own_ext hown4 hE5
        have hzL := hE5.size
        have hLok := lin_ok (p := p) hp HOK.out (by omega)
        have hLl : (linV p es).length ≤ 12 := by have : (linV p es).length = es.length := lin_len p es 0; omega
        have hltL : ∀ r, vL.ownBlock = some r → r < w5.heap.size := fun r hr => (hrowL.lt r hr).2
        have hcz5 : c < w5.heap.size := by have := hD5.1.size; omega
        obtain ⟨bL, hbL, hcL⟩ : ∃ bL, w5.ownsRow bL 39 9 vL (linV p es).length ((linV p es).flatMap Dt.cells) ∧ c < bL := ⟨_, hrowL, by have := hD4.1.size; omega⟩
        generalize linV p es = L at *
        have HLK := Lib.hid hLok
        have HLT := Lib.hid hltL
        clear hLok hltL hrowL hE5 hD4 hrowE4 hown4
        obtain ⟨AL, cL, rfl, _, hcL1, hcL2⟩ := own_slice hbL
        obtain ⟨AC, cC, rfl, _, hcC1, hcC2⟩ := own_slice hrowC5
        unfold maxLen at hcL2
        obtain ⟨bS, hbS⟩ : ∃ bS, w5.heap.size = bS := ⟨_, rfl⟩
        have hbS' : bS ≤ w5.heap.size := by omega
        have hw1S : w1.heap.size ≤ bS := by have := hD5.1.size; omega
        rw [hbS] at HLT hcz5
        clear hbS
        go_wp2_with fail
        go_loopg [11, 13] L.length (fun g v i wr => Sc2 w1 c bs es ck L bE bC bL bS (.slice Ae es.length ce) (.slice AC (ck).length cC) (.slice AL L.length cL) g v i wr)
        case atStart => exact ⟨0, [], Nat.zero_le _, rfl, rfl, own_nil _ _ _ _ _, Nat.le_refl _, by simp, hD5, hrowE5, hrowC5, hbL, HLT.out, hbS'⟩
        case round =>
          clear hD5 hrowE5 hrowC5 hbL hbS' HLT
          obtain ⟨k, st, hk, rfl, rfl, hown, hlk, hoks, hD, hrowE, hrowC, hrowL, hltL, hzS⟩ := hrel
          have HST := Lib.hid hoks
          have HLT := Lib.hid hltL
          clear hoks hltL
          by_cases hlt : k < L.length
          · go_wp2_with fail
            refine (next_on hD (Ext.refl _) 4 (by omega) (by omega)).mono ?_
            rintro e w4 ⟨r4, rfl, ⟨hr40, hr41⟩, hD4, hg4⟩
            have hown4 := kept_c hown hg4 (by omega)
            have hrowE4 := kept_c hrowE hg4 (by omega)
            have hrowC4 := kept_c hrowC hg4 (by omega)
            have hrowL4 := kept_c hrowL hg4 (by omega)
            have hzS4 : bS ≤ w4.heap.size := by have := hg4.size; omega
            have hokx := HLK.out L[k] (List.getElem_mem hlt)
            clear hD hown hrowE hrowC hrowL hg4
            obtain ⟨b, off, rfl, hdrop⟩ := Dt.at_ (Seg.of_own hrowL4) hlt
            clear hdrop
            obtain ⟨x, hx⟩ : ∃ x, L[k] = x := ⟨_, rfl⟩
            rw [hx] at hokx
            have HX := Lib.hid hx
            have hneL : ∀ r, u11.ownBlock = some r → b ≠ r := fun r hr e => by have h1 := (hown4.lt r hr).1; have h2 := HLT.out b rfl; omega
            have HNE := Lib.hid hneL
            clear hx hneL
            by_cases h0 : 0 < r4
            · obtain ⟨p0, p1, p2, p3, p4, p5, p6, p7, p8⟩ := Dt.cells_at (Seg.of_own hrowL4) hlt HX.out
              go_wp2_with (at_builtin; refine wpList_push_at Dt.cells 9 72 Dt.len Dt.one (by omega) rfl _ _ _ rfl bS 39 Try.underlying24 (by kernel_rfl) u11 st x w4.heap.size rfl hown4 rfl rfl (by unfold maxLen; omega) (by omega) hzS4 ?_; intro v7 w7 hown7 hg7)
              have hD7 := hD4.grown hg7 (fun r hr => by have := (hown4.lt r hr).1; omega) (by omega)
              have hrowE7 := hrowE4.kept hg7 (own_ne hrowE4 hown4 (by decide))
              have hrowC7 := hrowC4.kept hg7 (own_ne hrowC4 hown4 (by decide))
              have hrowL7 := hrowL4.kept hg7 (by right; intro e; exact HNE.out b e.symm rfl)
              go_roundg (L.length - (k + 1))
              case measure => omega
              case rel => exact ⟨k + 1, st ++ [x], by omega, by go_num, rfl, hown7, by simp; omega, all_snoc HST.out hokx, hD7, hrowE7, hrowC7, hrowL7, HLT.out, by have := hg7.size; omega⟩
            · obtain rfl : r4 = 0 := by omega
              obtain ⟨p0, p1, p2, p3, p4, p5, p6, p7, p8⟩ := Dt.cells_at (Seg.of_own hrowL4) hlt HX.out
              have hsl := Seg.of_own hrowL4
              have tok : True := trivial
              have hkL : (k : Int) < (L.length : Int) := by omega
              have hk0 : (0 : Int) ≤ (k : Int) := by omega
              go_wp2_with fail
              go_region_held3 (fun w' => w'.cell? ⟨b, off + k * 9, none⟩ = some (.int .i64 x.proc) ∧ w'.cell? ⟨b, off + k * 9 + 1, none⟩ = some (.int .i64 x.index) ∧ w'.cell? ⟨b, off + k * 9 + 2, none⟩ = some (.int .i64 x.ev.kind) ∧ w'.cell? ⟨b, off + k * 9 + 3, none⟩ = some (.int .i64 x.ev.inc) ∧ w'.cell? ⟨b, off + k * 9 + 4, none⟩ = some (.int .i64 x.ev.frm) ∧ w'.cell? ⟨b, off + k * 9 + 5, none⟩ = some (.int .i64 x.ev.sinc) ∧ w'.cell? ⟨b, off + k * 9 + 6, none⟩ = some (.int .i64 x.ev.sidx) ∧ w'.cell? ⟨b, off + k * 9 + 7, none⟩ = some (.int .i64 x.ev.ord) ∧ w'.cell? ⟨b, off + k * 9 + 8, none⟩ = some (.int .i64 x.ev.val))
                (first | (refine Dt.cells_at ?_ hlt HX.out; (repeat (first | with_reducible refine Seg.alloc ?_ _ | with_reducible refine Seg.drew ?_ | with_reducible refine Seg.drewN ?_ _)); (first | with_reducible exact hsl | with_reducible exact hslA | with_reducible exact hslB | with_reducible exact hslC | with_reducible exact hslD)))
                (first
                  | (go_at_call 31; have _t := tok; refine (next_on hD4 (Below.drew (Ext.refl _)) 10 (by omega) (by omega)).mono ?_; rintro e w6 ⟨r6, rfl, ⟨hr60, hr61⟩, hD6, hg6⟩; have hg46 : w4.grownBy w6 (some c) := grownBy_trans (grownBy_ext (Below.drew (Ext.refl w4))) hg6; have hown6 := kept_c hown4 hg46 (by omega); have hrowE6 := kept_c hrowE4 hg46 (by omega); have hrowC6 := kept_c hrowC4 hg46 (by omega); have hrowL6 := kept_c hrowL4 hg46 (by omega); have hslA := Seg.of_own hrowL6; clear tok)
                  | (go_at_call 31; refine (next_on hD6 (Ext.refl _) 3 (by omega) (by omega)).mono ?_; rintro e w8 ⟨r8, rfl, ⟨hr80, hr81⟩, hD8, hg8⟩; have hown8 := kept_c hown6 hg8 (by omega); have hrowE8 := kept_c hrowE6 hg8 (by omega); have hrowC8 := kept_c hrowC6 hg8 (by omega); have hrowL8 := kept_c hrowL6 hg8 (by omega); have hslB := Seg.of_own hrowL8)
                  | (go_at_call 20; refine (near_any x r6 r8 _ hokx (inI r8 (by omega) (by omega))).mono ?_; rintro e w9 ⟨y, rfl, hoky, hE9⟩; have hD9 := hD8.post hE9; have hown9 := own_ext hown8 hE9; have hrowE9 := own_ext hrowE8 hE9; have hrowC9 := own_ext hrowC8 hE9; have hrowL9 := own_ext hrowL8 hE9; have hslC := Seg.of_own hrowL9; have hzS9 : bS ≤ w9.heap.size := (by have := hE9.size; have := hg8.size; have := hg46.size; omega))
                  | (refine step_push_at Dt.cells 9 72 Dt.len Dt.one (by omega) (by rfl) _ _ _ (by rfl) bS 39 Try.underlying24 (by kernel_rfl) u11 st y w9.heap.size (by rfl) hown9 (by rfl) (by rfl) (by unfold maxLen; omega) (by omega) hzS9 ?_; intro v7 w7 hown7 hg7; have hrowL7 := hrowL9.kept hg7 (by right; intro e; exact HNE.out b e.symm rfl); have hslD := Seg.of_own hrowL7))
              have hD7 := hD9.grown hg7 (fun r hr => by have := (hown9.lt r hr).1; omega) (by omega)
              have hrowE7 := hrowE9.kept hg7 (own_ne hrowE9 hown9 (by decide))
              have hrowC7 := hrowC9.kept hg7 (own_ne hrowC9 hown9 (by decide))
              go_wp2_with fail
              go_roundg (L.length - (k + 1))
              case measure => omega
              case rel => exact ⟨k + 1, st ++ [y], by omega, by go_num, rfl, hown7, by simp; omega, all_snoc HST.out hoky, hD7, hrowE7, hrowC7, hrowL7, HLT.out, by have := hg7.size; omega⟩
          · have hke : k = L.length := by omega
            go_wp2_with fail
            refine (dets_on hD (Ext.refl _) 3 (by omega)).mono ?_
            rintro e w6 ⟨v6, ds, rfl, hrow6, hle6, hok6, hD6, hg6⟩
            have hown6 := kept_c hown hg6 (by omega)
            have hrowE6 := kept_c hrowE hg6 (by omega)
            have hrowC6 := kept_c hrowC hg6 (by omega)
            obtain ⟨A6, c6, rfl, hs6, _, _⟩ := own_slice hrow6
            have hz6 := hg6.size
            clear hD hown hrowE hrowC hke
            go_wp2_with (at_builtin; refine wpList_append_seg rfl _ _ _ rfl bS 39 9 72 (by omega) Try.underlying24 (by kernel_rfl) u11 st.length (st.flatMap Dt.cells) rfl hown6 A6 ds.length c6 (ds.flatMap Dt.cells) rfl hs6 (Dt.ones ds) (by unfold maxLen; omega) (by omega) (by omega) ?_; intro v7 w7 hown7 hg7)
            have hD7 := hD6.grown hg7 (fun r hr => by have := (hown6.lt r hr).1; omega) (by omega)
            have hrowE7 := hrowE6.kept hg7 (own_ne hrowE6 hown6 (by decide))
            have hrowC7 := hrowC6.kept hg7 (own_ne hrowC6 hown6 (by decide))
            have hown7' : w7.ownsRow bS 39 9 v7 (st ++ ds).length ((st ++ ds).flatMap Dt.cells) := by rw [List.length_append, List.flatMap_append]; exact hown7
            obtain ⟨A7, c7, hv7, hs7, _, _⟩ := own_slice hown7'
            subst hv7
            refine bodyPost_ret (results_tmp4 rfl _ _ _) rfl ?_
            exact ⟨p, es, ck, st ++ ds, Ae, AC, A7, ce, cC, c7, rfl, Seg.of_own hrowE7, Seg.of_own hrowC7, hs7, hp, ⟨hp0, hp1⟩, HOK.out, HCK.out, fun d hd => by
              rcases List.mem_append.1 hd with h | h
              · exact HST.out d h
              · exact hok6 d h, hle3, by omega, by simp; omega, hce1, hce2, drew_ext hD7 hE1 hwc⟩
end Go.Proofs.Ythadaahemhamdaa
