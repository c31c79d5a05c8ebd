/- The memory of a list, as a function. No statement of the seat is proved here. -/
import Derived.Test.YtfnnoncdocghjaaMemPlain
namespace Go.Proofs.Ytfnnoncdocghjaa
open Go.RowKit
set_option linter.unusedVariables false

/-- one more, in the middle -/
theorem MemOf.put {l a b : List Kn} (h : MemOf l (a ++ b)) {k : Kn} (hk : okH k.h) (hlt : ∀ x ∈ a, cmpD x.d k.d < 0) (hgt : ∀ x ∈ b, cmpD k.d x.d < 0) : MemOf (l ++ [k]) (a ++ k :: b) := by
  have hnew : ∀ x ∈ l, x.d ≠ k.d := fun x hx e => by
    obtain ⟨y, hy, ey⟩ := (h.dets x.d).2 ⟨x, hx, rfl⟩
    have hs := cmpD_anti k.d k.d
    rcases List.mem_append.1 hy with hy | hy
    · have h1 := hlt y hy
      rw [ey, e] at h1
      omega
    · have h1 := hgt y hy
      rw [ey, e] at h1
      omega
  have hasc := h.asc
  rw [List.map_append] at hasc
  obtain ⟨a1, a2, a3⟩ := List.pairwise_append.1 hasc
  have hold : ∀ x, x ∈ a ++ k :: b → x = k ∨ (x ∈ a ++ b ∧ x.d ≠ k.d) := fun x hx => by
    have hs := cmpD_anti k.d k.d
    rcases List.mem_append.1 hx with hx | hx
    · refine .inr ⟨List.mem_append_left _ hx, fun e => ?_⟩
      have h1 := hlt x hx
      rw [e] at h1
      omega
    · rcases List.mem_cons.1 hx with hx | hx
      · exact .inl hx
      · refine .inr ⟨List.mem_append_right _ hx, fun e => ?_⟩
        have h1 := hgt x hx
        rw [e] at h1
        omega
  refine ⟨?_, fun d => ?_, fun x hx => ?_, fun x hx i => ?_⟩
  · rw [List.map_append, List.map_cons]
    refine List.pairwise_append.2 ⟨a1, List.pairwise_cons.2 ⟨fun y hy => ?_, a2⟩, fun x hx y hy => ?_⟩
    · obtain ⟨z, hz, rfl⟩ := List.mem_map.1 hy
      exact hgt z hz
    · obtain ⟨z, hz, rfl⟩ := List.mem_map.1 hx
      rcases List.mem_cons.1 hy with rfl | hy
      · exact hlt z hz
      · exact a3 _ hx _ hy
  · constructor
    · rintro ⟨x, hx, e⟩
      rcases hold x hx with rfl | ⟨hx, _⟩
      · exact ⟨x, by simp, e⟩
      · obtain ⟨y, hy, ey⟩ := (h.dets d).1 ⟨x, hx, e⟩
        exact ⟨y, List.mem_append_left _ hy, ey⟩
    · rintro ⟨x, hx, e⟩
      rcases List.mem_append.1 hx with hx | hx
      · obtain ⟨y, hy, ey⟩ := (h.dets d).2 ⟨x, hx, e⟩
        refine ⟨y, ?_, ey⟩
        rcases List.mem_append.1 hy with hy | hy
        · exact List.mem_append_left _ hy
        · exact List.mem_append_right _ (List.mem_cons_of_mem _ hy)
      · rw [List.mem_singleton] at hx
        subst hx
        exact ⟨x, by simp, e⟩
  · rcases hold x hx with rfl | ⟨hx, _⟩
    · exact hk
    · exact h.ok x hx
  · rcases hold x hx with rfl | ⟨hxo, hne⟩
    · constructor
      · intro hb; exact ⟨x, by simp, rfl, hb⟩
      · rintro ⟨y, hy, e, hb⟩
        rcases List.mem_append.1 hy with hy | hy
        · exact absurd e (hnew y hy)
        · rw [List.mem_singleton] at hy; subst hy; exact hb
    · rw [h.bits x hxo i]
      constructor
      · rintro ⟨y, hy, e⟩; exact ⟨y, List.mem_append_left _ hy, e⟩
      · rintro ⟨y, hy, e, hb⟩
        rcases List.mem_append.1 hy with hy | hy
        · exact ⟨y, hy, e, hb⟩
        · rw [List.mem_singleton] at hy
          subst hy
          exact absurd e.symm hne
/-- a determinant put in its place -/
def memIns : List Kn → Kn → List Kn
  | [], k => [k]
  | x :: r, k => if cmpD k.d x.d < 0 then k :: x :: r else if cmpD k.d x.d = 0 then orK x k :: r else x :: memIns r k
/-- the memory of a list -/
def memV (l : List Kn) : List Kn := l.foldl memIns []
theorem memIns_cases : ∀ (o : List Kn) (k : Kn), AscD (o.map Kn.d) →
    (∃ a b, o = a ++ b ∧ memIns o k = a ++ k :: b ∧ (∀ x ∈ a, cmpD x.d k.d < 0) ∧ ∀ x ∈ b, cmpD k.d x.d < 0) ∨
    ∃ a x b, o = a ++ x :: b ∧ memIns o k = a ++ orK x k :: b ∧ x.d = k.d
  | [], k, _ => .inl ⟨[], [], rfl, rfl, by simp, by simp⟩
  | x :: r, k, h => by
    rw [List.map_cons] at h
    obtain ⟨h1, h2⟩ := List.pairwise_cons.1 h
    unfold memIns
    by_cases hc : cmpD k.d x.d < 0
    · rw [if_pos hc]
      refine .inl ⟨[], x :: r, rfl, rfl, by simp, fun y hy => ?_⟩
      rcases List.mem_cons.1 hy with rfl | hy
      · exact hc
      · exact cmpD_lt_trans hc (h1 _ (List.mem_map.2 ⟨y, hy, rfl⟩))
    · rw [if_neg hc]
      by_cases h0 : cmpD k.d x.d = 0
      · rw [if_pos h0]
        exact .inr ⟨[], x, r, rfl, rfl, ((cmpD_zero _ _).1 h0).symm⟩
      · rw [if_neg h0]
        have hxk : cmpD x.d k.d < 0 := by have := cmpD_anti k.d x.d; omega
        rcases memIns_cases r k h2 with ⟨a, b, e1, e2, e3, e4⟩ | ⟨a, y, b, e1, e2, e3⟩
        · refine .inl ⟨x :: a, b, by rw [e1]; rfl, by rw [e2]; rfl, fun z hz => ?_, e4⟩
          rcases List.mem_cons.1 hz with rfl | hz
          · exact hxk
          · exact e3 z hz
        · exact .inr ⟨x :: a, y, b, by rw [e1]; rfl, by rw [e2]; rfl, e3⟩
theorem MemOf.ins {l o : List Kn} (h : MemOf l o) {k : Kn} (hk : okH k.h) : MemOf (l ++ [k]) (memIns o k) := by
  rcases memIns_cases o k h.asc with ⟨a, b, e1, e2, e3, e4⟩ | ⟨a, x, b, e1, e2, e3⟩
  · rw [e2]; rw [e1] at h; exact h.put hk e3 e4
  · rw [e2]; rw [e1] at h; exact h.join hk e3
theorem memV_snoc (l : List Kn) (k : Kn) : memV (l ++ [k]) = memIns (memV l) k := by
  unfold memV; rw [List.foldl_append]; rfl
theorem memV_of (l : List Kn) (hok : ∀ k ∈ l, okH k.h) : MemOf l (memV l) := by
  have key : ∀ n, n ≤ l.length → MemOf (l.take n) (memV (l.take n)) := by
    intro n
    induction n with
    | zero => intro _; exact MemOf.nil
    | succ n ih =>
      intro hn
      have hk := List.getElem_mem (l := l) (n := n) (by omega)
      rw [List.take_succ_eq_append_getElem (by omega), memV_snoc]
      exact (ih (by omega)).ins (hok _ hk)
  have := key l.length (Nat.le_refl _)
  rwa [List.take_length] at this
theorem MemOf.eqV {l o : List Kn} (h : MemOf l o) (hok : ∀ k ∈ l, okH k.h) : o = memV l := h.unique (memV_of l hok)
theorem memIns_len (k : Kn) : ∀ o : List Kn, (memIns o k).length ≤ o.length + 1
  | [] => Nat.le_refl _
  | x :: r => by
    have := memIns_len k r
    unfold memIns
    split
    · simp
    · split
      · simp
      · simp only [List.length_cons]; omega
theorem memV_len (l : List Kn) : (memV l).length ≤ l.length := by
  unfold memV
  have key : ∀ (l o : List Kn), (l.foldl memIns o).length ≤ o.length + l.length := by
    intro l
    induction l with
    | nil => intro o; exact Nat.le_refl _
    | cons x l ih =>
      intro o
      rw [List.foldl_cons, List.length_cons]
      have h1 := ih (memIns o x)
      have h2 := memIns_len x o
      omega
  have := key l []
  simpa using this
/-- more holders -/
def orB (b : Int) (k : Kn) : Kn := ⟨k.d, bits .or .u32 k.h b⟩
theorem orB_ok {b : Int} {k : Kn} (hb : okH b) (hk : okH k.h) : okH (orB b k).h := (bits_u32 hk.1 hk.2 hb.1 hb.2).2.2
theorem orB_bit {b : Int} {k : Kn} (hb : okH b) (hk : okH k.h) (i : Nat) : bitH (orB b k) i = (bitH k i || b.toNat.testBit i) := by
  have h := (bits_u32 hk.1 hk.2 hb.1 hb.2).2.1
  unfold bitH orB
  dsimp only
  rw [h, Int.toNat_natCast, Nat.testBit_or]
theorem orB_zero {k : Kn} (hk : okH k.h) : orB 0 k = k := by
  refine kn_ext rfl ?_
  show bits .or .u32 k.h 0 = k.h
  rw [(bits_u32 hk.1 hk.2 (Int.le_refl 0) (by omega)).2.1, show (0 : Int).toNat = 0 from rfl, Nat.or_zero]
  have := hk.1
  omega
end Go.Proofs.Ytfnnoncdocghjaa
