/- Memories in plain Lean: ascending, each determinant once, with all its holders. No statement of the seat is proved here. -/
import Derived.Test.YtfnnoncdocghjaaKnSort
import Derived.Test.YtfnnoncdocghjaaCntPlain
namespace Go.Proofs.Ytfnnoncdocghjaa
open Go.RowKit
set_option linter.unusedVariables false

def okH (z : Int) : Prop := 0 ≤ z ∧ z < 4294967296
def bitH (k : Kn) (i : Nat) : Bool := k.h.toNat.testBit i
/-- a list is the memory of the elements of another -/
structure MemOf (l out : List Kn) : Prop where
  asc : AscD (out.map Kn.d)
  dets : ∀ d, (∃ k ∈ out, k.d = d) ↔ ∃ k ∈ l, k.d = d
  ok : ∀ k ∈ out, okH k.h
  bits : ∀ k ∈ out, ∀ i, bitH k i = true ↔ ∃ x ∈ l, x.d = k.d ∧ bitH x i = true
theorem MemOf.congr {l l' out : List Kn} (h : MemOf l out) (hl : ∀ x, x ∈ l ↔ x ∈ l') : MemOf l' out :=
  ⟨h.asc, fun d => (h.dets d).trans ⟨fun ⟨k, hk, e⟩ => ⟨k, (hl k).1 hk, e⟩, fun ⟨k, hk, e⟩ => ⟨k, (hl k).2 hk, e⟩⟩, h.ok, fun k hk i => (h.bits k hk i).trans ⟨fun ⟨x, hx, e⟩ => ⟨x, (hl x).1 hx, e⟩, fun ⟨x, hx, e⟩ => ⟨x, (hl x).2 hx, e⟩⟩⟩
theorem okH_eq {a b : Int} (ha : okH a) (hb : okH b) (h : ∀ i, a.toNat.testBit i = b.toNat.testBit i) : a = b := by
  have := Nat.eq_of_testBit_eq h
  have h1 := ha.1
  have h2 := hb.1
  omega
theorem kn_ext {a b : Kn} (h1 : a.d = b.d) (h2 : a.h = b.h) : a = b := by
  cases a; cases b; simp_all
theorem MemOf.unique {l a b : List Kn} (ha : MemOf l a) (hb : MemOf l b) : a = b := by
  have hd : a.map Kn.d = b.map Kn.d := asc_unique _ _ ha.asc hb.asc fun d => by
    simp only [List.mem_map]
    exact (ha.dets d).trans (hb.dets d).symm
  have hlen : a.length = b.length := by simpa using congrArg List.length hd
  refine List.ext_getElem hlen fun i h1 h2 => ?_
  have e : a[i].d = b[i].d := by
    have h3 : (a.map Kn.d)[i]? = (b.map Kn.d)[i]? := by rw [hd]
    rw [List.getElem?_map, List.getElem?_map, List.getElem?_eq_getElem h1, List.getElem?_eq_getElem h2] at h3
    simpa using h3
  refine kn_ext e (okH_eq (ha.ok _ (List.getElem_mem h1)) (hb.ok _ (List.getElem_mem h2)) fun j => ?_)
  have h3 := ha.bits _ (List.getElem_mem h1) j
  have h4 := hb.bits _ (List.getElem_mem h2) j
  rw [e] at h3
  exact Bool.eq_iff_iff.2 (h3.trans h4.symm)
theorem MemOf.nil : MemOf [] [] := ⟨List.Pairwise.nil, (fun d => by simp), (fun k hk => absurd hk (List.not_mem_nil)), (fun k hk => absurd hk (List.not_mem_nil))⟩
/-- one more, behind all -/
theorem MemOf.push {l o : List Kn} (h : MemOf l o) {k : Kn} (hk : okH k.h) (hlt : ∀ x ∈ o, cmpD x.d k.d < 0) : MemOf (l ++ [k]) (o ++ [k]) := by
  have hnew : ∀ x ∈ l, x.d ≠ k.d := fun x hx e => by
    obtain ⟨y, hy, ey⟩ := (h.dets x.d).2 ⟨x, hx, rfl⟩
    have h1 := hlt y hy
    rw [ey, e] at h1
    have := cmpD_anti k.d k.d
    omega
  refine ⟨?_, fun d => ?_, fun x hx => ?_, fun x hx i => ?_⟩
  · rw [List.map_append]
    refine List.pairwise_append.2 ⟨h.asc, List.pairwise_singleton _ _, fun a ha b hb => ?_⟩
    obtain ⟨x, hx, rfl⟩ := List.mem_map.1 ha
    simp only [List.map_cons, List.map_nil, List.mem_singleton] at hb
    subst hb
    exact hlt x hx
  · simp only [List.mem_append, List.mem_singleton]
    constructor
    · rintro ⟨x, hx | hx, e⟩
      · obtain ⟨y, hy, ey⟩ := (h.dets d).1 ⟨x, hx, e⟩
        exact ⟨y, .inl hy, ey⟩
      · exact ⟨x, .inr hx, e⟩
    · rintro ⟨x, hx | hx, e⟩
      · obtain ⟨y, hy, ey⟩ := (h.dets d).2 ⟨x, hx, e⟩
        exact ⟨y, .inl hy, ey⟩
      · exact ⟨x, .inr hx, e⟩
  · rcases List.mem_append.1 hx with hx | hx
    · exact h.ok x hx
    · rw [List.mem_singleton] at hx; subst hx; exact hk
  · rcases List.mem_append.1 hx with hxo | hxo
    · rw [h.bits x hxo i]
      constructor
      · rintro ⟨y, hy, e⟩; exact ⟨y, List.mem_append_left _ hy, e⟩
      · rintro ⟨y, hy, e, hb⟩
        rcases List.mem_append.1 hy with hy | hy
        · exact ⟨y, hy, e, hb⟩
        · rw [List.mem_singleton] at hy
          subst hy
          have h1 := hlt x hxo
          rw [e] at h1
          have := cmpD_anti x.d x.d
          omega
    · rw [List.mem_singleton] at hxo
      subst hxo
      constructor
      · intro hb; exact ⟨x, List.mem_append_right _ (List.mem_singleton.2 rfl), rfl, hb⟩
      · rintro ⟨y, hy, e, hb⟩
        rcases List.mem_append.1 hy with hy | hy
        · exact absurd e (hnew y hy)
        · rw [List.mem_singleton] at hy; subst hy; exact hb
def orK (x k : Kn) : Kn := ⟨x.d, bits .or .u32 x.h k.h⟩
theorem orK_bit {x k : Kn} (hx : okH x.h) (hk : okH k.h) (i : Nat) : bitH (orK x k) i = (bitH x i || bitH k i) := by
  have h := (bits_u32 hx.1 hx.2 hk.1 hk.2).2.1
  unfold bitH orK
  dsimp only
  rw [h, Int.toNat_natCast, Nat.testBit_or]
theorem orK_ok {x k : Kn} (hx : okH x.h) (hk : okH k.h) : okH (orK x k).h := (bits_u32 hx.1 hx.2 hk.1 hk.2).2.2
/-- one more, with a determinant that is there -/
theorem MemOf.join {l : List Kn} {a b : List Kn} {x : Kn} (h : MemOf l (a ++ x :: b)) {k : Kn} (hk : okH k.h) (e : x.d = k.d) : MemOf (l ++ [k]) (a ++ orK x k :: b) := by
  have hx := h.ok x (by simp)
  have hmem : ∀ y, y ∈ a ++ orK x k :: b → (y = orK x k) ∨ (y ∈ a ++ x :: b ∧ y.d ≠ x.d) := fun y hy => by
    have hasc := h.asc
    rw [List.map_append, List.map_cons] at hasc
    obtain ⟨_, h2, h3⟩ := List.pairwise_append.1 hasc
    have hself := cmpD_anti x.d x.d
    rcases List.mem_append.1 hy with hy | hy
    · refine .inr ⟨List.mem_append_left _ hy, fun e2 => ?_⟩
      have := h3 y.d (List.mem_map.2 ⟨y, hy, rfl⟩) x.d (List.mem_cons_self ..)
      rw [e2] at this
      omega
    · rcases List.mem_cons.1 hy with hy | hy
      · exact .inl hy
      · refine .inr ⟨List.mem_append_right _ (List.mem_cons_of_mem _ hy), fun e2 => ?_⟩
        have := (List.pairwise_cons.1 h2).1 y.d (List.mem_map.2 ⟨y, hy, rfl⟩)
        rw [e2] at this
        omega
  refine ⟨?_, fun d => ?_, fun y hy => ?_, fun y hy i => ?_⟩
  · have := h.asc
    rw [List.map_append, List.map_cons] at this ⊢
    exact this
  · constructor
    · rintro ⟨y, hy, ey⟩
      rcases hmem y hy with rfl | ⟨hy, _⟩
      · exact ⟨k, by simp, by rw [← ey]; exact e.symm⟩
      · obtain ⟨z, hz, ez⟩ := (h.dets d).1 ⟨y, hy, ey⟩
        exact ⟨z, List.mem_append_left _ hz, ez⟩
    · rintro ⟨z, hz, ez⟩
      have hd : ∃ z ∈ l, z.d = d := by
        rcases List.mem_append.1 hz with hz | hz
        · exact ⟨z, hz, ez⟩
        · rw [List.mem_singleton] at hz
          subst hz
          exact (h.dets d).1 ⟨x, by simp, by rw [e]; exact ez⟩
      obtain ⟨y, hy, ey⟩ := (h.dets d).2 hd
      rcases List.mem_append.1 hy with hy | hy
      · exact ⟨y, List.mem_append_left _ hy, ey⟩
      · rcases List.mem_cons.1 hy with hy | hy
        · subst hy
          exact ⟨orK y k, by simp, ey⟩
        · exact ⟨y, List.mem_append_right _ (List.mem_cons_of_mem _ hy), ey⟩
  · rcases hmem y hy with rfl | ⟨hy, _⟩
    · exact orK_ok hx hk
    · exact h.ok y hy
  · rcases hmem y hy with rfl | ⟨hy, hne⟩
    · rw [orK_bit hx hk, Bool.or_eq_true, h.bits x (by simp) i]
      show _ ↔ ∃ z ∈ l ++ [k], z.d = x.d ∧ bitH z i = true
      constructor
      · rintro (⟨z, hz, ez, hb⟩ | hb)
        · exact ⟨z, List.mem_append_left _ hz, ez, hb⟩
        · exact ⟨k, by simp, e.symm, hb⟩
      · rintro ⟨z, hz, ez, hb⟩
        rcases List.mem_append.1 hz with hz | hz
        · exact .inl ⟨z, hz, ez, hb⟩
        · rw [List.mem_singleton] at hz; subst hz; exact .inr hb
    · rw [h.bits y hy i]
      constructor
      · rintro ⟨z, hz, ez, hb⟩; exact ⟨z, List.mem_append_left _ hz, ez, hb⟩
      · rintro ⟨z, hz, ez, hb⟩
        rcases List.mem_append.1 hz with hz | hz
        · exact ⟨z, hz, ez, hb⟩
        · rw [List.mem_singleton] at hz
          subst hz
          exact absurd (ez.symm.trans e.symm) hne
end Go.Proofs.Ytfnnoncdocghjaa
