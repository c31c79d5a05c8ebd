/- Copies: the reference's Record, SameCopies. No statement of the seat is proved here. -/
import Derived.Test.YtooegndajfopkaaCopies
namespace Go.Proofs.Ytooegndajfopkaa
open Go.RowKit
set_option linter.unusedVariables false

set_option maxHeartbeats 1600000 in
theorem record_ref (A : Option Addr) (cap : Nat) (l : List Cp) (c : Cp) (w : World) (hs : CpSeg w A l) (hn : l.length ≤ 100) :
    Calls Try.prog 25 #[.slice A l.length cap, .agg #[.int .i64 c.to, .int .i64 c.ssn, .int .i64 c.val, .int .i64 c.rsn]] w (OwnPost w 42 4 (recFrom l c).length ((recFrom l c).flatMap Cp.cells)) := by
  have hcz : w.heap.size < (w.alloc (.cells c.cells.toArray 42)).heap.size := by simp
  go_enter Try.func25, Try.ntmps25
  go_wp2_with (at_builtin; refine wpList_append_seg rfl (.const (.slice none 0 0)) _ _ rfl (w.heap.size + 1) 42 4 32 (by omega) Try.underlying40 (by kernel_rfl) (.slice none 0 0) 0 [] rfl (World.ownsRow_nil _ _ _ _) A l.length cap (l.flatMap Cp.cells) rfl (hs.alloc _) (Cp.ones l) (by unfold maxLen; omega) (by omega) (by simp) ?_; intro v' w1 hown hg1)
  rw [Nat.zero_add, List.nil_append] at hown
  have hE : Ext (w.alloc (.cells c.cells.toArray 42)) w1 := ⟨hg1.os, hg1.tape, hg1.output, hg1.size, fun k hk => hg1.block k hk (by simp [Value.ownBlock])⟩
  have hB := (Blk.new w 42 c.cells.toArray).ext hE
  obtain ⟨A1, c1, rfl, hsl, hc1, hc2⟩ := own_slice hown
  have hX : Ext w w1 := ((Ext.refl w).allocs _).trans hE
  clear hE hg1 hcz
  go_wp2_with fail
  go_loopg [6] l.length (fun g i wr => CRel w w1 l c (.slice A1 l.length c1) g i wr)
  case atStart => exact ⟨0, Nat.zero_le _, rfl, rfl, Ext.refl _, fun q _ h => absurd h (by omega)⟩
  case round =>
    obtain ⟨j, hj, rfl, rfl, hE, hno⟩ := hrel
    have hown' := own_ext hown hE
    have hB' := hB.ext hE
    have hzB := hB'.lt
    have hX' := hX.trans hE
    have hE1 := hE
    clear hB hX hE hown
    obtain ⟨⟨b0, b1, b2, b3⟩, _⟩ := blk4 hB'
    by_cases hlt : j < l.length
    · obtain ⟨g, cap', hv, hg0, hg1, ⟨q0, q1, q2, q3⟩, hfr⟩ := own_cp (n := 0) hown' hlt
      injection hv with hA1 _ hc1'
      subst hA1
      subst hc1'
      have HN := Lib.hid hno
      clear hno
      by_cases h1 : l[j].to = c.to
      · have h1' : (l[j].to == c.to) = true := by simp [h1]
        by_cases h2 : l[j].ssn = c.ssn
        · have h2' : (l[j].ssn == c.ssn) = true := by simp [h2]
          have HR := Lib.hid (rec_hit l c j hlt h1 h2 HN.out)
          generalize l[j].to = x0 at *
          generalize l[j].ssn = x1 at *
          generalize l[j].val = x2 at *
          generalize l[j].rsn = x3 at *
          clear h1 h2
          have f0 := hfr (j * 4)
          have f1 := hfr (j * 4 + 1)
          have f2 := hfr (j * 4 + 2)
          have f3 := hfr (j * 4 + 3)
          clear hfr
          go_wp2_with fail
          go_quiet (fail)
          go_wp2_with fail
          go_ret
          refine ⟨_, rfl, ?_, ?_⟩
          · rw [HR.out]
            exact own_base (own_store4 hown' hlt c) (by omega)
          · repeat (first | with_reducible exact hX' | with_reducible refine Ext.drewN ?_ _ | with_reducible refine Ext.allocs ?_ _ | with_reducible refine Ext.set ?_ (by omega) _)
        · have h2' : (l[j].ssn == c.ssn) = false := by simp [h2]
          have HN2 : Hid (∀ q (h : q < l.length), q < j + 1 → ¬ (l[q].to = c.to ∧ l[q].ssn = c.ssn)) := by
            intro q hq hqj
            by_cases e : q = j
            · subst e; exact fun h => h2 h.2
            · exact HN.out q hq (by omega)
          generalize l[j].to = x0 at *
          generalize l[j].ssn = x1 at *
          generalize l[j].val = x2 at *
          generalize l[j].rsn = x3 at *
          clear h1 h2 hfr
          go_wp2_with fail
          go_quiet (fail)
          go_wp2_with fail
          go_roundg (l.length - (j + 1))
          case measure => omega
          case rel => exact ⟨j + 1, by omega, by go_num, rfl, hE1.drewN _, HN2.out⟩
      · have h1' : (l[j].to == c.to) = false := by simp [h1]
        have HN2 : Hid (∀ q (h : q < l.length), q < j + 1 → ¬ (l[q].to = c.to ∧ l[q].ssn = c.ssn)) := by
          intro q hq hqj
          by_cases e : q = j
          · subst e; exact fun h => h1 h.1
          · exact HN.out q hq (by omega)
        generalize l[j].to = x0 at *
        generalize l[j].ssn = x1 at *
        generalize l[j].val = x2 at *
        generalize l[j].rsn = x3 at *
        clear h1 hfr
        go_wp2_with fail
        go_quiet (fail)
        go_wp2_with fail
        go_roundg (l.length - (j + 1))
        case measure => omega
        case rel => exact ⟨j + 1, by omega, by go_num, rfl, hE1.drewN _, HN2.out⟩
    · have HR := Lib.hid (rec_miss l c (fun i hi => hno i hi (by omega)))
      clear hno
      go_wp2_with (at_builtin; refine wpList_push Cp.cells 4 32 Cp.len Cp.one (by omega) rfl _ _ _ rfl (w.heap.size + 1) 42 Try.underlying40 (by kernel_rfl) (.slice A1 l.length c1) l c rfl hown' rfl (by unfold maxLen; omega) (by omega) (by omega) ?_; intro v' w6 hown6 hg6)
      go_ret
      refine ⟨v', rfl, ?_, ?_⟩
      · rw [HR.out]; exact own_base hown6 (by omega)
      · exact Below.grown hX' hg6 hX'.size (fun k hk => by have := (hown'.lt k hk).1; omega)

def QRel (w : World) (n : Nat) (g : Nat) (i : Value) (wr : World) : Prop := ∃ j q : Nat, j ≤ n ∧ i = .int .i64 j ∧ g = n - j ∧ wr = w.drewN q
/-- a value, and the memory as it was -/
def QPost (w : World) (v : Value) (e : Ending) (w' : World) : Prop := e = .returned v ∧ ∃ q, w' = w.drewN q

theorem Cp.at_ {w : World} {A : Option Addr} {l : List Cp} (h : CpSeg w A l) {j : Nat} (hj : j < l.length) :
    ∃ b off, A = some ⟨b, off, none⟩ ∧ w.cell? ⟨b, off + j * 4, none⟩ = some (.int .i64 l[j].to) ∧ w.cell? ⟨b, off + j * 4 + 1, none⟩ = some (.int .i64 l[j].ssn) ∧ w.cell? ⟨b, off + j * 4 + 2, none⟩ = some (.int .i64 l[j].val) ∧ w.cell? ⟨b, off + j * 4 + 3, none⟩ = some (.int .i64 l[j].rsn) := by
  obtain ⟨b, off, hA, _, hc⟩ := Seg.at_ h Cp.len hj
  exact ⟨b, off, hA, hc 0 _ rfl, hc 1 _ rfl, hc 2 _ rfl, hc 3 _ rfl⟩

set_option maxHeartbeats 1600000 in
theorem sameCopies_any (A B : Option Addr) (ca cb : Nat) (l : List Cp) (w : World) (ha : CpSeg w A l) (hb : CpSeg w B l) (hn : l.length ≤ 1000) :
    Calls Try.prog 23 #[.slice A l.length ca, .slice B l.length cb] w (QPost w (.bool true)) := by
  go_enter Try.func23, Try.ntmps23
  go_wp2_with fail
  go_loopg [5] l.length (fun g i wr => QRel w l.length g i wr)
  case atStart => exact ⟨0, 0, Nat.zero_le _, rfl, rfl, rfl⟩
  case round =>
    obtain ⟨j, q, hj, rfl, rfl, rfl⟩ := hrel
    by_cases hlt : j < l.length
    · obtain ⟨b, off, rfl, p0, p1, p2, p3⟩ := Cp.at_ ha hlt
      obtain ⟨b', off', rfl, r0, r1, r2, r3⟩ := Cp.at_ hb hlt
      generalize l[j].to = x0 at *
      generalize l[j].ssn = x1 at *
      generalize l[j].val = x2 at *
      generalize l[j].rsn = x3 at *
      clear ha hb
      go_wp2_with fail
      go_quiet (fail)
      go_wp2_with fail
      go_roundg (l.length - (j + 1))
      case measure => omega
      case rel => exact ⟨j + 1, _, by omega, by go_num, rfl, rfl⟩
    · go_wp2_with fail
      go_ret
      exact ⟨rfl, _, rfl⟩
end Go.Proofs.Ytooegndajfopkaa
