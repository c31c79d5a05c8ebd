/- Chapter 38: tasks out of a list of choices. No statement of the seat is proved here. -/
import Derived.Test.YtddcgholnhhcoaaArgs38
namespace Go.Proofs.Ytddcgholnhhcoaa
open Go.RowKit
set_option linter.unusedVariables false

def Tk.small (t : Tk) : Prop := (0 ≤ t.work ∧ t.work ≤ 19) ∧ (0 ≤ t.cost ∧ t.cost ≤ 5)
/-- ascending places below i -/
def Asc (ps : List Int) (i : Nat) : Prop := (∀ j, j < ps.length → 0 ≤ ps.getD j 0 ∧ ps.getD j 0 < i) ∧ ∀ j, j + 1 < ps.length → ps.getD j 0 < ps.getD (j + 1) 0
theorem Asc.nil (i : Nat) : Asc [] i := ⟨fun j h => by simp at h, fun j h => by simp at h⟩
theorem Asc.up {ps : List Int} {i : Nat} (h : Asc ps i) : Asc ps (i + 1) := ⟨fun j hj => by have := h.1 j hj; omega, h.2⟩
theorem getD_app_lt (l : List Int) (x : Int) (j : Nat) (h : j < l.length) : (l ++ [x]).getD j 0 = l.getD j 0 := by
  simp [List.getD_eq_getElem?_getD, List.getElem?_append_left h]
theorem getD_app_eq (l : List Int) (x : Int) : (l ++ [x]).getD l.length 0 = x := by
  simp [List.getD_eq_getElem?_getD]
theorem Asc.push {ps : List Int} {i : Nat} (h : Asc ps i) : Asc (ps ++ [(i : Int)]) (i + 1) := by
  refine ⟨fun j hj => ?_, fun j hj => ?_⟩
  · rw [List.length_append] at hj
    by_cases hl : j < ps.length
    · rw [getD_app_lt _ _ _ hl]; have := h.1 j hl; omega
    · obtain rfl : j = ps.length := by simp at hj; omega
      rw [getD_app_eq]; omega
  · rw [List.length_append] at hj
    have hl : j < ps.length := by simp at hj; omega
    rw [getD_app_lt _ _ _ hl]
    by_cases hl2 : j + 1 < ps.length
    · rw [getD_app_lt _ _ _ hl2]; exact h.2 j hl2
    · have e : j + 1 = ps.length := by omega
      rw [e, getD_app_eq]; exact (h.1 j hl).2
theorem Asc.ok {ps : List Int} {n : Nat} (h : Asc ps n) : ∀ m, m ≤ ps.length → placesUpTo n ps m = true := by
  intro m
  induction m with
  | zero => intro _; rfl
  | succ m ih =>
    intro hm
    refine upTo_more (ih (by omega)) ?_
    have h1 := h.1 m (by omega)
    cases m with
    | zero => exact place_first (by omega) h1.1 h1.2
    | succ m => exact place_next h1.1 h1.2 (h.2 m (by omega))
def TsPost (w : World) (most : Nat) (e : Ending) (w' : World) : Prop :=
  ∃ (vT vP : Value) (ts : List Tk) (ps : List Int) (f r : Int), e = .returned (.tuple #[vT, vP, .int .i64 f, .int .i64 r]) ∧ w'.ownsRow w.heap.size 46 2 vT ts.length (ts.flatMap Tk.cells) ∧ w'.ownsRow w.heap.size 3 1 vP ps.length (ps.flatMap Iv) ∧ Ext w w' ∧
    (1 ≤ ts.length ∧ ts.length ≤ most) ∧ (∀ t ∈ ts, t.small) ∧ Asc ps ts.length ∧ ps.length ≤ ts.length ∧ (0 ≤ f ∧ f ≤ 3) ∧ (0 ≤ r ∧ r ≤ 4)
def Ts1 (c : Nat) (bs : List Int) (w1 : World) (most : Nat) (g : Nat) (v n : Value) (wr : World) : Prop :=
  ∃ (ts : List Tk) (j : Nat), g = j ∧ n = .int .i64 j ∧ wr.ownsRow w1.heap.size 46 2 v ts.length (ts.flatMap Tk.cells) ∧ ts.length + j ≤ most ∧ 1 ≤ ts.length + j ∧ (∀ t ∈ ts, t.small) ∧ Drew c bs 0 w1 wr
def Ts2 (c : Nat) (bs : List Int) (w1 : World) (ts : List Tk) (vT : Value) (g : Nat) (v i : Value) (wr : World) : Prop :=
  ∃ (ps : List Int) (x : Nat), x ≤ ts.length ∧ g = ts.length - x ∧ i = .int .i64 x ∧ wr.ownsRow w1.heap.size 46 2 vT ts.length (ts.flatMap Tk.cells) ∧ wr.ownsRow w1.heap.size 3 1 v ps.length (ps.flatMap Iv) ∧ Asc ps x ∧ ps.length ≤ x ∧ Drew c bs 0 w1 wr
theorem own_codes {w w' : World} {base c : Nat} {e : TypeId} {s n : Nat} {v : Value} {xs : List Value} (h : w.ownsRow base e s v n xs) (hg : w.grownBy w' (some c)) (hc : c < base) : w'.ownsRow base e s v n xs :=
  h.kept hg (by
    rcases hb : v.ownBlock with _ | g
    · exact .inl rfl
    · right; intro e; have := (h.lt g hb).1; injection e; omega)
theorem own_other {w w' : World} {b1 b2 : Nat} {e1 e2 : TypeId} {s1 s2 n1 n2 : Nat} {v1 v2 : Value} {xs1 xs2 : List Value} (h1 : w.ownsRow b1 e1 s1 v1 n1 xs1) (h2 : w.ownsRow b2 e2 s2 v2 n2 xs2) (hne : e1 ≠ e2) (hg : w.grownBy w' v2.ownBlock) : w'.ownsRow b1 e1 s1 v1 n1 xs1 :=
  h1.kept hg (own_ne h1 h2 hne)

theorem drew_ext {c : Nat} {bs : List Int} {k : Nat} {w w1 w' : World} (h : Drew c bs k w1 w') (hE : Ext w w1) (hc : w.heap.size ≤ c) : Ext w w' :=
  ⟨h.1.os.trans hE.os, h.1.tape.trans hE.tape, h.1.output.trans hE.output, Nat.le_trans hE.size h.1.size, fun j hj => (h.1.block j (Nat.lt_of_lt_of_le hj hE.size) (fun e => by injection e; omega)).trans (hE.block j hj)⟩

set_option maxRecDepth 100000 in
set_option maxHeartbeats 3200000 in
theorem tasks_any (A : Option Addr) (cap : Nat) (bs : List Int) (most : Nat) (w : World) (hb : Seg w 1 A bs.length (bs.map (Value.int .u8))) (hb1 : bs.length ≤ cap) (hb2 : cap ≤ maxLen) (hb3 : ∀ b ∈ bs, 0 ≤ b ∧ b < 256) (hm1 : 1 ≤ most) (hm2 : most ≤ 64) :
    Calls Try.prog 20 #[.slice A bs.length cap, .int .i64 most] w (TsPost w most) := by
  have HB3 := Lib.hid hb3
  clear hb3
  go_enter Try.func20, Try.ntmps20
  go_wp2_with fail
  refine (new_any A cap bs 120 w hb hb1 hb2 (by omega) HB3.out).mono ?_
  rintro e w1 ⟨rfl, hC, hE1⟩
  obtain ⟨c, hc⟩ : ∃ c, w.heap.size = c := ⟨_, rfl⟩
  rw [hc] at hC ⊢
  have hcw : w.heap.size ≤ c := by omega
  clear hc
  generalize bs.take 120 = cs at *
  have hcl := hC.lt
  go_wp2_with fail
  refine (next_any' c cs 0 w1 hC most (by omega) (by omega)).mono ?_
  rintro e w2 ⟨r, rfl, ⟨hr0, hr1⟩, hD⟩
  go_wp2_with fail
  go_loopg [9, 11] (1 + r).toNat (fun g v n wr => Ts1 c cs w1 most g v n wr)
  case atStart => exact ⟨[], (1 + r).toNat, rfl, by congr 1; omega, own_nil _ _ _ _ _, by simp; omega, by simp; omega, by simp, hD⟩
  case round =>
    clear hD
    obtain ⟨ts, j, rfl, rfl, hown, hle, hge, hall, hD⟩ := hrel
    have HALL := Lib.hid hall
    clear hall
    by_cases hj : 0 < gk
    · go_wp2_with fail
      refine (next_on hD (Ext.refl _) 20 (by omega) (by omega)).mono ?_
      rintro e w3 ⟨x, rfl, ⟨hx0, hx1⟩, hD3, hg3⟩
      have hown3 := own_codes hown hg3 hcl
      clear hg3 hown hD
      go_wp2_with fail
      refine (next_on hD3 (Ext.refl _) 6 (by omega) (by omega)).mono ?_
      rintro e w4 ⟨y, rfl, ⟨hy0, hy1⟩, hD4, hg4⟩
      have hown4 := own_codes hown3 hg4 hcl
      have hsz : w1.heap.size ≤ w4.heap.size := hD4.1.size
      clear hg4 hown3 hD3
      go_wp2_with (at_builtin; refine wpList_push Tk.cells 2 16 Tk.len Tk.one (by omega) rfl _ _ _ rfl w1.heap.size 46 Try.underlying32 (by kernel_rfl) u9 ts ⟨x, y⟩ rfl hown4 rfl (by unfold maxLen; omega) (by omega) hsz ?_; intro v' w5 hown5 hg5)
      have hD5 := hD4.own hown4 hg5 hcl
      go_roundg (gk - 1)
      case measure => omega
      case rel => exact ⟨ts ++ [⟨x, y⟩], gk - 1, rfl, by go_num, hown5, by simp; omega, by simp; omega, by
        intro t ht
        rcases List.mem_append.1 ht with h | h
        · exact HALL.out t h
        · simp at h; subst h; exact ⟨⟨hx0, by show x ≤ 19; omega⟩, hy0, by show y ≤ 5; omega⟩, hD5⟩
    · obtain rfl : gk = 0 := by omega
      obtain ⟨AT, cT, hvT, hsT, hlc, hcm⟩ := own_slice hown
      subst hvT
      have hn64 : (ts.length : Int) ≤ 64 := by omega
      go_wp2_with fail
      go_loopg [10, 12] ts.length (fun g v i wr => Ts2 c cs w1 ts (.slice AT ts.length cT) g v i wr)
      case atStart => exact ⟨[], 0, Nat.zero_le _, rfl, rfl, hown, own_nil _ _ _ _ _, Asc.nil _, Nat.zero_le _, hD⟩
      case round =>
        clear hD hown hsT
        obtain ⟨ps, x, hx, rfl, rfl, hownT, hownP, hasc, hpl, hD⟩ := hrel
        have HASC := Lib.hid hasc
        clear hasc
        by_cases hlt : x < ts.length
        · go_wp2_with fail
          refine (next_on hD (Ext.refl _) 3 (by omega) (by omega)).mono ?_
          rintro e w3 ⟨y, rfl, ⟨hy0, hy1⟩, hD3, hg3⟩
          have hownT3 := own_codes hownT hg3 hcl
          have hownP3 := own_codes hownP hg3 hcl
          have hsz : w1.heap.size ≤ w3.heap.size := hD3.1.size
          clear hg3 hownT hownP hD
          by_cases hy : y = 1
          · have hy' : (y == 1) = true := by simp [hy]
            clear hy
            go_wp2_with (at_builtin; refine wpList_push Iv 1 8 Iv.len Iv.one (by omega) rfl _ _ _ rfl w1.heap.size 3 Try.underlying33 (by kernel_rfl) u10 ps (x : Int) rfl hownP3 rfl (by unfold maxLen; omega) (by omega) hsz ?_; intro v' w5 hown5 hg5)
            have hD5 := hD3.own hownP3 hg5 hcl
            have hownT5 := own_other hownT3 hownP3 (by decide) hg5
            go_roundg (ts.length - (x + 1))
            case measure => omega
            case rel => exact ⟨ps ++ [(x : Int)], x + 1, by omega, rfl, by go_num, hownT5, hown5, HASC.out.push, by simp; omega, hD5⟩
          · have hy' : (y == 1) = false := by simp [hy]
            clear hy
            go_wp2_with fail
            go_roundg (ts.length - (x + 1))
            case measure => omega
            case rel => exact ⟨ps, x + 1, by omega, rfl, by go_num, hownT3, hownP3, HASC.out.up, by omega, hD3⟩
        · obtain rfl : x = ts.length := by omega
          go_wp2_with fail
          refine (next_on hD (Ext.refl _) 4 (by omega) (by omega)).mono ?_
          rintro e w3 ⟨f, rfl, ⟨hf0, hf1⟩, hD3, hg3⟩
          have hownT3 := own_codes hownT hg3 hcl
          have hownP3 := own_codes hownP hg3 hcl
          go_wp2_with fail
          refine (next_on hD3 (Ext.refl _) 5 (by omega) (by omega)).mono ?_
          rintro e w4 ⟨r', rfl, ⟨hr0', hr1'⟩, hD4, hg4⟩
          have hownT4 := own_codes hownT3 hg4 hcl
          have hownP4 := own_codes hownP3 hg4 hcl
          go_wp2_with fail
          refine bodyPost_ret (v := .tuple #[.slice AT ts.length cT, u10, .int .i64 f, .int .i64 r']) (results_tmp4 Try.results20 _ _ _) rfl ?_
          exact ⟨_, _, ts, ps, f, r', rfl, own_base hownT4 hE1.size, own_base hownP4 hE1.size, drew_ext hD4 hE1 hcw, ⟨by omega, by omega⟩, HALL.out, HASC.out, hpl, ⟨hf0, by omega⟩, hr0', by omega⟩
end Go.Proofs.Ytddcgholnhhcoaa
