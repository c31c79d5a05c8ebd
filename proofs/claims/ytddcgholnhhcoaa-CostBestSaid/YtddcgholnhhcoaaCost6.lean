/- Chapter 38: the lengths of segments. No statement of the seat is proved here. -/
import Derived.Test.YtddcgholnhhcoaaCost5
import Derived.Maps.Own
import Derived.Maps.OwnOps
import Derived.Maps.Views
import Derived.Maps.RangeWalk
namespace Go.Proofs.Ytddcgholnhhcoaa
open Go.RowKit Go.Maps
set_option linter.unusedVariables false

theorem wf_of {k : Int} (h : InI64 k) : (Lit.int .i64 k).wf = true := WalkArith.wf_i64 (by unfold InI64 at h; omega)
theorem intKey : Keyed Try.prog 3 := int_keyed Try.underlying3
theorem keyOf_i {k : Int} (h : InI64 k) : keyOf Try.prog 3 (.int .i64 k) = some (.int .i64 k) := keyOf_int_mk Try.underlying3 (wf_of h)

/-- block b is a map of at most n entries whose keys are the numbers of a list -/
def KMap (w : World) (b n : Nat) (l : List Int) : Prop :=
  ∃ D : DataW Unit, w.ownsMap Try.prog 3 (plainElem Try.prog 4) b n D ∧ IsMap D ∧ ∀ k, has D (.int .i64 k) = decide (k ∈ l)
theorem KMap.made (w : World) : KMap (w.alloc (.map #[] 0)) w.heap.size 0 [] := ⟨.map [], World.ownsMap_made w _ _ _, isMap_empty, fun _ => rfl⟩
theorem KMap.kept {w w' : World} {b n : Nat} {l : List Int} {row : Option Nat} (h : KMap w b n l) (hg : w.grownBy w' row) (hne : some b ≠ row) : KMap w' b n l := by
  obtain ⟨D, h1, h2, h3⟩ := h
  exact ⟨D, h1.kept hg hne, h2, h3⟩
theorem KMap.ext {w w' : World} {b n : Nat} {l : List Int} (h : KMap w b n l) (hg : Ext w w') : KMap w' b n l := h.kept (row := none) (grownBy_ext hg) (by simp)
theorem KMap.lt {w : World} {b n : Nat} {l : List Int} (h : KMap w b n l) : b < w.heap.size := by
  obtain ⟨D, h1, _⟩ := h
  exact h1.lt
theorem KMap.put {w : World} {b n : Nat} {l : List Int} (h : KMap w b n l) {k : Int} (hk : InI64 k) (x : Bool) (hn : n < maxLen) :
    ∃ w', (Instr.mapUpdate 60 (.map (some b)) (.int .i64 k) (.bool x)).run Try.prog w = .ok () w' ∧ KMap w' b (n + 1) (l ++ [k]) ∧ w.grownBy w' (some b) := by
  obtain ⟨D, h1, h2, h3⟩ := h
  obtain ⟨w', hrun, ho, hg⟩ := h1.update intKey Try.underlying60 hn (keyOf_i hk) (plainElem_bool Try.underlying4 x)
  refine ⟨w', hrun, ⟨_, ho, h2.put _ _, fun j => ?_⟩, hg⟩
  by_cases e : j = k
  · subst e
    rw [has_put_same h2 (by first | exact ⟨_, _, rfl⟩ | trivial | simp [WideAt.IsKeyLit])]
    simp
  · rw [has_put_other (by intro h; injection h; contradiction), h3 j]
    simp [e]
theorem Ext.row {w0 w w' : World} {b : Nat} (h : Ext w0 w) (hg : w.grownBy w' (some b)) (hb : w0.heap.size ≤ b) : Ext w0 w' :=
  Below.grown h hg h.size (fun k hk => by injection hk with hk; omega)

def lenIn (ts : List Tk) (i : Nat) : Nat → Int × List Int
  | 0 => (0, [])
  | d + 1 => ((lenIn ts i d).1 + (ts.getD (i + d) noTk).work, (lenIn ts i d).2 ++ [(lenIn ts i d).1 + (ts.getD (i + d) noTk).work + (ts.getD (i + d) noTk).cost])
def lenOut (ts : List Tk) : Nat → List Int
  | 0 => []
  | i + 1 => lenOut ts i ++ (lenIn ts i (ts.length - i)).2 ++ [(lenIn ts i (ts.length - i)).1]
theorem lenIn_bd (ts : List Tk) (i : Nat) (hf : AllFine ts) : ∀ d, i + d ≤ ts.length → 0 ≤ (lenIn ts i d).1 ∧ (lenIn ts i d).1 ≤ 1048576 * d := by
  intro d
  induction d with
  | zero => intro _; simp [lenIn]
  | succ d ih =>
    intro hd
    have h1 := ih (by omega)
    have h2 := hf (i + d) (by omega)
    rw [lenIn]
    simp only
    push_cast
    omega
def LenPost (ts : List Tk) (w : World) (e : Ending) (w' : World) : Prop := ∃ b m, e = .returned (.map (some b)) ∧ w.heap.size ≤ b ∧ KMap w' b m (lenOut ts ts.length) ∧ Ext w w'
def LoRel (w : World) (ts : List Tk) (b : Nat) (g : Nat) (i : Value) (wr : World) : Prop :=
  ∃ x m : Nat, x ≤ ts.length ∧ i = .int .i64 x ∧ g = ts.length - x ∧ m ≤ 100 * x ∧ Ext w wr ∧ KMap wr b m (lenOut ts x)
def LiRel (w : World) (ts : List Tk) (b x : Nat) (g : Nat) (wk jv : Value) (wr : World) : Prop :=
  ∃ d m : Nat, x + d ≤ ts.length ∧ jv = .int .i64 d ∧ wk = .int .i64 (lenIn ts x d).1 ∧ g = ts.length - (x + d) ∧ m ≤ 100 * x + d ∧ Ext w wr ∧ KMap wr b m (lenOut ts x ++ (lenIn ts x d).2)

set_option maxRecDepth 100000 in
set_option maxHeartbeats 3200000 in
theorem lengths_any (A : Option Addr) (c : Nat) (ts : List Tk) (w : World) (hs : TkSeg w A ts) (hn : ts.length ≤ 64) (hc : ts.length ≤ c) (hcm : c ≤ maxLen) (hf : AllFine ts) :
    Calls Try.prog 41 #[.slice A ts.length c] w (LenPost ts w) := by
  unfold maxLen at hcm
  have hn64 : (ts.length : Int) ≤ 64 := by omega
  have hmm := @run_makeMap Try.prog
  have HF := Lib.hid hf
  clear hf
  have hM0 := KMap.made w
  have hX0 := (Ext.refl w).allocs (.map #[] 0)
  go_enter Try.func41, Try.ntmps41
  go_wp2_with fail
  obtain ⟨b, hb⟩ : ∃ b, w.heap.size = b := ⟨_, rfl⟩
  have hbw : w.heap.size ≤ b := by omega
  rw [hb] at hM0 ⊢
  clear hb
  obtain ⟨W, hW⟩ : ∃ W, w.alloc (.map #[] 0) = W := ⟨_, rfl⟩
  rw [hW] at hM0 hX0 ⊢
  clear hW hmm
  go_loopg [11] ts.length (fun g i wr => LoRel w ts b g i wr)
  case atStart => exact ⟨0, 0, Nat.zero_le _, rfl, rfl, Nat.le_refl _, hX0, hM0⟩
  case round =>
    clear hX0 hM0
    obtain ⟨x, m, hx, rfl, rfl, hm, hE, hM⟩ := hrel
    by_cases hlt : x < ts.length
    · have HOUT : Hid (lenOut ts (x + 1) = lenOut ts x ++ (lenIn ts x (ts.length - x)).2 ++ [(lenIn ts x (ts.length - x)).1]) := rfl
      obtain ⟨tb, toff, hA, _⟩ := Tk.at_ hs hlt
      subst hA
      have hxc : (x : Int) < (c : Int) := by omega
      have hxc' : x < c := by omega
      have hx0 : (0 : Int) ≤ (x : Int) := by omega
      have hxl : (x : Int) ≤ (ts.length : Int) := by omega
      go_wp2_with fail
      go_loopg [5, 18] (ts.length - x) (fun g wk jv wr => LiRel w ts b x g wk jv wr)
      case atStart => exact ⟨0, m, by omega, rfl, rfl, rfl, by omega, hE, by rw [lenIn, List.append_nil]; exact hM⟩
      case round =>
        clear hE hM hm m
        obtain ⟨d, m, hd, rfl, rfl, rfl, hm, hE, hM⟩ := hrel
        have hbd := lenIn_bd ts x HF.out d hd
        by_cases hjl : x + d < ts.length
        · obtain ⟨tb', toff', hA', p0, p1⟩ := Tk.at_ (hs.ext hE) hjl
          injection hA' with hA'
          injection hA' with hA1 hA2
          subst hA1
          subst hA2
          rw [← getD_at ts (x + d) noTk hjl] at p0 p1
          have ht := HF.out (x + d) hjl
          have HS : Hid (lenIn ts x (d + 1) = ((lenIn ts x d).1 + (ts.getD (x + d) noTk).work, (lenIn ts x d).2 ++ [(lenIn ts x d).1 + (ts.getD (x + d) noTk).work + (ts.getD (x + d) noTk).cost])) := rfl
          rw [show (x + d) * 2 = x * 2 + d * 2 by omega, ← Nat.add_assoc] at p0 p1
          generalize ts.getD (x + d) noTk = t at *
          generalize lenIn ts x d = s at *
          have hs1 : s.1 ≤ 67108864 := by omega
          have hdl : d < ts.length - x := by omega
          obtain ⟨t1, t2⟩ := ht
          obtain ⟨w5, hrun, hM5, hg5⟩ := (hM.ext ((Ext.refl wr).allocs (.cells #[.int .i64 t.work, .int .i64 t.cost] 46))).put (k := s.1 + t.work + t.cost) ⟨by omega, by omega⟩ true (by unfold maxLen; omega)
          have hE5 : Ext w w5 := Ext.row (hE.allocs _) hg5 hbw
          go_wp2_with fail
          go_roundg (ts.length - (x + (d + 1)))
          case measure => omega
          case rel => exact ⟨d + 1, m + 1, by omega, by go_num, by rw [HS.out], rfl, by omega, hE5, by rw [HS.out, ← List.append_assoc]; exact hM5⟩
        · obtain rfl : d = ts.length - x := by omega
          have hdl : ¬ ts.length - x < ts.length - x := by omega
          generalize lenIn ts x (ts.length - x) = s at *
          have hs1 : s.1 ≤ 67108864 := by omega
          obtain ⟨w5, hrun, hM5, hg5⟩ := hM.put (k := s.1) ⟨by omega, by omega⟩ true (by unfold maxLen; omega)
          have hE5 : Ext w w5 := Ext.row hE hg5 hbw
          go_wp2_with fail
          go_roundg (ts.length - (x + 1))
          case measure => omega
          case rel => exact ⟨x + 1, m + 1, by omega, by go_num, rfl, by omega, hE5, by rw [HOUT.out]; exact hM5⟩
    · obtain rfl : x = ts.length := by omega
      go_wp2_with fail
      go_ret
      exact ⟨b, m, rfl, hbw, hM, hE⟩
end Go.Proofs.Ytddcgholnhhcoaa
