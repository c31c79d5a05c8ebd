/- The memory of a computation with causal logging. No statement of the seat is proved here. -/
import Derived.Test.YtfnnoncdocghjaaGOwnK
namespace Go.Proofs.Ytfnnoncdocghjaa
open Go.RowKit
set_option linter.unusedVariables false

def Nv (x : Nat) : List Value := [.int .i64 x]
theorem Nv.len (x : Nat) : (Nv x).length = 1 := rfl
/-- a message in memory -/
structure MgR where
  m : Mg
  A : Option Addr
  c : Nat
def MgR.cells (x : MgR) : List Value := [.int .i64 x.m.frm, .int .i64 x.m.dst, .int .i64 0, .int .i64 x.m.idx, .int .i64 x.m.ord, .slice x.A x.m.kn.length x.c]
theorem MgR.len (x : MgR) : x.cells.length = 6 := rfl
theorem MgR.one (x : MgR) : ∀ u ∈ x.cells, u.oneCell' = true := by simp [MgR.cells, Value.oneCell']
/-- a message of the reference -/
def MgR.cells9 (x : MgR) : List Value := [.int .i64 x.m.frm, .int .i64 x.m.dst, .int .i64 0, .int .i64 x.m.idx, .int .i64 x.m.ord, .int .i64 0, .int .i64 0, .slice none 0 0, .slice x.A x.m.kn.length x.c]
theorem MgR.len9 (x : MgR) : x.cells9.length = 9 := rfl
theorem MgR.one9 (x : MgR) : ∀ u ∈ x.cells9, u.oneCell' = true := by simp [MgR.cells9, Value.oneCell']
abbrev KnOwn (W : World) (base : Nat) (A : Option Addr) (c : Nat) (l : List Kn) : Prop := W.ownsRow base 34 10 (.slice A l.length c) l.length (l.flatMap Kn.cells)
structure FlM (cs : MgR → List Value) (sz : Nat) (tF : TypeId) (W : World) (base : Nat) (A : Option Addr) (c : Nat) (F : List MgR) : Prop where
  r : W.ownsRow base tF sz (.slice A F.length c) F.length (F.flatMap cs)
  k : ∀ x ∈ F, KnOwn W base x.A x.c x.m.kn
structure Tb where
  ge : Nat
  gk : Nat
  go : Nat
  R : List (Gr Ev)
  K : List (Gr Kn)
  os : List Nat
structure TbM (W : World) (base n : Nat) (t : Tb) : Prop where
  e : GOwn Ev.cells 7 30 65 W base t.ge t.R
  kb : Blk W t.gk 26 (t.K.flatMap Gr.cells).toArray
  k : ∀ s ∈ t.K, KnOwn W base s.A s.c s.l
  o : Blk W t.go 3 (t.os.flatMap Nv).toArray
  ne : t.R.length = n
  nk : t.K.length = n
  no : t.os.length = n
  ze : base ≤ t.ge
  zk : base ≤ t.gk
  zo : base ≤ t.go
/-- the block that is written, if there is one, is of such a type -/
def TyRow (W : World) (row : Option Nat) (p : TypeId → Prop) : Prop := ∀ g, row = some g → ∃ t cs, Blk W g t cs ∧ p t
theorem TyRow.none (W : World) (p : TypeId → Prop) : TyRow W none p := fun g e => by cases e
theorem TyRow.blk {W : World} {g : Nat} {t : TypeId} {cs : Array Value} (h : Blk W g t cs) {p : TypeId → Prop} (hp : p t) : TyRow W (some g) p := fun g' e => by
  injection e with e
  subst e
  exact ⟨t, cs, h, hp⟩
theorem TyRow.own {W : World} {base s n : Nat} {e : TypeId} {v : Value} {xs : List Value} (h : W.ownsRow base e s v n xs) {p : TypeId → Prop} (hp : p e) : TyRow W v.ownBlock p := fun g hg => by
  obtain ⟨cs, hB⟩ := own_blk h hg
  exact ⟨e, cs, hB, hp⟩
theorem own_typed {W W' : World} {base s n : Nat} {e : TypeId} {v : Value} {xs : List Value} {row : Option Nat} (h : W.ownsRow base e s v n xs) (hg : W.grownBy W' row) (ht : TyRow W row (fun t => t ≠ e)) : W'.ownsRow base e s v n xs := by
  refine h.kept hg ?_
  rcases row with _ | g
  · rcases e' : v.ownBlock with _ | g
    · exact .inl rfl
    · exact .inr (by simp)
  · obtain ⟨t, cs, hB, hne⟩ := ht g rfl
    exact own_not h hB hne
theorem blk_typed {W W' : World} {b : Nat} {t1 : TypeId} {cs1 : Array Value} {row : Option Nat} (h : Blk W b t1 cs1) (hg : W.grownBy W' row) (ht : TyRow W row (fun t => t ≠ t1)) : Blk W' b t1 cs1 := by
  refine (hg.block b h.lt fun e => ?_).trans h
  obtain ⟨t, cs, hB, hne⟩ := ht b e.symm
  exact hne (blk_type hB h)
theorem TyRow.imp {W : World} {row : Option Nat} {p q : TypeId → Prop} (h : TyRow W row p) (hpq : ∀ t, p t → q t) : TyRow W row q := fun g e => by
  obtain ⟨t, cs, hB, hp⟩ := h g e
  exact ⟨t, cs, hB, hpq t hp⟩
section
variable {W W' : World} {base n : Nat} {t : Tb} {row : Option Nat}
theorem TbM.typed (h : TbM W base n t) (hg : W.grownBy W' row) (ht : TyRow W row (fun t => t ≠ 30 ∧ t ≠ 65 ∧ t ≠ 26 ∧ t ≠ 34 ∧ t ≠ 3)) : TbM W' base n t where
  e := h.e.typed hg fun g e => by
    obtain ⟨t, cs, hB, hp⟩ := ht g e
    exact ⟨t, cs, hB, hp.1, hp.2.1⟩
  kb := blk_typed h.kb hg (ht.imp fun t h => h.2.2.1)
  k := fun s hs => own_typed (h.k s hs) hg (ht.imp fun t h => h.2.2.2.1)
  o := blk_typed h.o hg (ht.imp fun t h => h.2.2.2.2)
  ne := h.ne
  nk := h.nk
  no := h.no
  ze := h.ze
  zk := h.zk
  zo := h.zo
theorem TbM.ext (h : TbM W base n t) (hE : Ext W W') : TbM W' base n t := h.typed (grownBy_ext (row := none) hE) (TyRow.none _ _)
theorem TbM.set_ord (h : TbM W base n t) {q : Nat} (hq : q < n) (x : Nat) : TbM (W.setCell ⟨t.go, q, none⟩ (.int .i64 x)) base n { t with os := t.os.set q x } := by
  have hg := grown_set1 W t.go q (.int .i64 x)
  refine ⟨h.e.typed hg fun g e => ?_, blk_typed h.kb hg (TyRow.blk h.o (by decide)), fun s hs => own_typed (h.k s hs) hg (TyRow.blk h.o (by decide)), ?_, h.ne, h.nk, by simp [h.no], h.ze, h.zk, h.zo⟩
  · injection e with e; subst e; exact ⟨_, _, h.o, by decide, by decide⟩
  · have := Blk.setAt h.o (f := Nv) (s := 1) (by omega) Nv.len (j := q) (by rw [h.no]; exact hq) x
    simpa [World.setCells, Nv] using this
theorem TbM.set_kn (h : TbM W base n t) {q : Nat} (hq : q < n) {A : Option Addr} {c : Nat} {l : List Kn} (hl : KnOwn W base A c l) : TbM (W.setCell ⟨t.gk, q, none⟩ (.slice A l.length c)) base n { t with K := t.K.set q ⟨A, c, l⟩ } := by
  have hg := grown_set1 W t.gk q (.slice A l.length c)
  refine ⟨h.e.typed hg fun g e => ?_, ?_, fun s hs => ?_, blk_typed h.o hg (TyRow.blk h.kb (by decide)), h.ne, by simp [h.nk], h.no, h.ze, h.zk, h.zo⟩
  · injection e with e; subst e; exact ⟨_, _, h.kb, by decide, by decide⟩
  · have := Blk.setAt h.kb (f := Gr.cells) (s := 1) (by omega) Gr.len (j := q) (by rw [h.nk]; exact hq) ⟨A, c, l⟩
    simpa [World.setCells, Gr.cells] using this
  · rcases mem_set hs with rfl | hs
    · exact own_typed hl hg (TyRow.blk h.kb (by decide))
    · exact own_typed (h.k s hs) hg (TyRow.blk h.kb (by decide))
theorem TbM.push_ev {W9 : World} (h : TbM W base n t) {q : Nat} {s : Gr Ev} (hs : t.R[q]? = some s) {g9 c9 : Nat} {x : Ev} (hown : W9.ownsRow base 30 7 (.slice (some ⟨g9, 0, none⟩) (s.l.length + 1) c9) (s.l ++ [x]).length ((s.l ++ [x]).flatMap Ev.cells))
    (hg : W.grownBy W9 (Gr.val s).ownBlock) (hd : (Gr.val s).ownBlock = some g9 ∨ g9 = W.heap.size) :
    TbM (W9.setCell ⟨t.ge, q, none⟩ (.slice (some ⟨g9, 0, none⟩) (s.l.length + 1) c9)) base n { t with R := t.R.set q ⟨some ⟨g9, 0, none⟩, c9, s.l ++ [x]⟩ } := by
  have hr := h.e.r q s hs
  have hg2 := grown_set1 W9 t.ge q (.slice (some ⟨g9, 0, none⟩) (s.l.length + 1) c9)
  have hbe : Blk W9 t.ge 65 (t.R.flatMap Gr.cells).toArray := blk_typed h.e.b hg (TyRow.own hr (by decide))
  refine ⟨h.e.push (by decide) hs hown hg hd, ?_, fun s hs => ?_, ?_, by simp [h.ne], h.nk, h.no, h.ze, h.zk, h.zo⟩
  · exact blk_typed (blk_typed h.kb hg (TyRow.own hr (by decide))) hg2 (TyRow.blk hbe (by decide))
  · exact own_typed (own_typed (h.k s hs) hg (TyRow.own hr (by decide))) hg2 (TyRow.blk hbe (by decide))
  · exact blk_typed (blk_typed h.o hg (TyRow.own hr (by decide))) hg2 (TyRow.blk hbe (by decide))
theorem TbM.cellE (h : TbM W base n t) {q : Nat} {s : Gr Ev} (hs : t.R[q]? = some s) : W.cell? ⟨t.ge, q, none⟩ = some (.slice s.A s.l.length s.c) := h.e.cell hs
theorem TbM.cellK (h : TbM W base n t) {q : Nat} {s : Gr Kn} (hs : t.K[q]? = some s) : W.cell? ⟨t.gk, q, none⟩ = some (.slice s.A s.l.length s.c) := by
  have := Blk.tabAt h.kb Gr.len hs (j := 0) (by omega) (u := Gr.val s) rfl
  simpa using this
theorem TbM.cellO (h : TbM W base n t) {q x : Nat} (hs : t.os[q]? = some x) : W.cell? ⟨t.go, q, none⟩ = some (.int .i64 x) := by
  have := Blk.tabAt h.o Nv.len hs (j := 0) (by omega) (u := .int .i64 x) rfl
  simpa using this
end
section
variable {W W' : World} {base sz : Nat} {tF : TypeId} {cs : MgR → List Value} {A : Option Addr} {c : Nat} {F : List MgR} {row : Option Nat}
theorem FlM.typed (h : FlM cs sz tF W base A c F) (hg : W.grownBy W' row) (ht : TyRow W row (fun t => t ≠ tF ∧ t ≠ 34)) : FlM cs sz tF W' base A c F :=
  ⟨own_typed h.r hg (ht.imp fun _ h => h.1), fun x hx => own_typed (h.k x hx) hg (ht.imp fun _ h => h.2)⟩
theorem FlM.ext (h : FlM cs sz tF W base A c F) (hE : Ext W W') : FlM cs sz tF W' base A c F := h.typed (grownBy_ext (row := none) hE) (TyRow.none _ _)
end
/-- a computation of the code -/
structure Cp where
  t : Tb
  A : Option Addr
  c : Nat
  F : List MgR
def Cp.st (p : Cp) : Cm := ⟨p.t.os, p.F.map MgR.m, p.t.R.map Gr.l, p.t.K.map Gr.l⟩
structure CpM (W : World) (base g n : Nat) (f : Int) (p : Cp) : Prop where
  b : Blk W g 85 #[.int .i64 f, .slice (some ⟨p.t.ge, 0, none⟩) n n, .slice (some ⟨p.t.gk, 0, none⟩) n n, .slice (some ⟨p.t.go, 0, none⟩) n n, .slice p.A p.F.length p.c]
  t : TbM W base n p.t
  f : FlM MgR.cells 6 104 W base p.A p.c p.F
  z : base ≤ g
section
variable {W W' : World} {base g n : Nat} {f : Int} {p : Cp}
theorem CpM.ext (h : CpM W base g n f p) (hE : Ext W W') : CpM W' base g n f p := ⟨h.b.ext hE, h.t.ext hE, h.f.ext hE, h.z⟩
theorem CpM.cells (h : CpM W base g n f p) : W.cell? ⟨g, 0, none⟩ = some (.int .i64 f) ∧ W.cell? ⟨g, 1, none⟩ = some (.slice (some ⟨p.t.ge, 0, none⟩) n n) ∧ W.cell? ⟨g, 2, none⟩ = some (.slice (some ⟨p.t.gk, 0, none⟩) n n) ∧ W.cell? ⟨g, 3, none⟩ = some (.slice (some ⟨p.t.go, 0, none⟩) n n) ∧ W.cell? ⟨g, 4, none⟩ = some (.slice p.A p.F.length p.c) :=
  ⟨(h.b.cell 0).trans rfl, (h.b.cell 1).trans rfl, (h.b.cell 2).trans rfl, (h.b.cell 3).trans rfl, (h.b.cell 4).trans rfl⟩
theorem CpM.set_ord (h : CpM W base g n f p) {q : Nat} (hq : q < n) (x : Nat) : CpM (W.setCell ⟨p.t.go, q, none⟩ (.int .i64 x)) base g n f { p with t := { p.t with os := p.t.os.set q x } } := by
  have hg := grown_set1 W p.t.go q (.int .i64 x)
  exact ⟨blk_typed h.b hg (TyRow.blk h.t.o (by decide)), h.t.set_ord hq x, h.f.typed hg (TyRow.blk h.t.o (by decide)), h.z⟩
theorem CpM.set_kn (h : CpM W base g n f p) {q : Nat} (hq : q < n) {A : Option Addr} {c : Nat} {l : List Kn} (hl : KnOwn W base A c l) : CpM (W.setCell ⟨p.t.gk, q, none⟩ (.slice A l.length c)) base g n f { p with t := { p.t with K := p.t.K.set q ⟨A, c, l⟩ } } := by
  have hg := grown_set1 W p.t.gk q (.slice A l.length c)
  exact ⟨blk_typed h.b hg (TyRow.blk h.t.kb (by decide)), h.t.set_kn hq hl, h.f.typed hg (TyRow.blk h.t.kb (by decide)), h.z⟩
theorem CpM.push_ev {W9 : World} (h : CpM W base g n f p) {q : Nat} {s : Gr Ev} (hs : p.t.R[q]? = some s) {g9 c9 : Nat} {x : Ev} (hown : W9.ownsRow base 30 7 (.slice (some ⟨g9, 0, none⟩) (s.l.length + 1) c9) (s.l ++ [x]).length ((s.l ++ [x]).flatMap Ev.cells))
    (hg : W.grownBy W9 (Gr.val s).ownBlock) (hd : (Gr.val s).ownBlock = some g9 ∨ g9 = W.heap.size) :
    CpM (W9.setCell ⟨p.t.ge, q, none⟩ (.slice (some ⟨g9, 0, none⟩) (s.l.length + 1) c9)) base g n f { p with t := { p.t with R := p.t.R.set q ⟨some ⟨g9, 0, none⟩, c9, s.l ++ [x]⟩ } } := by
  have hr := h.t.e.r q s hs
  have hg2 := grown_set1 W9 p.t.ge q (.slice (some ⟨g9, 0, none⟩) (s.l.length + 1) c9)
  have hbe : Blk W9 p.t.ge 65 (p.t.R.flatMap Gr.cells).toArray := blk_typed h.t.e.b hg (TyRow.own hr (by decide))
  exact ⟨blk_typed (blk_typed h.b hg (TyRow.own hr (by decide))) hg2 (TyRow.blk hbe (by decide)), h.t.push_ev hs hown hg hd, (h.f.typed hg (TyRow.own hr (by decide))).typed hg2 (TyRow.blk hbe (by decide)), h.z⟩
/-- the flight changed, and its slice is stored -/
theorem CpM.set_fl {W9 : World} {row : Option Nat} (h : CpM W base g n f p) (hg : W.grownBy W9 row) (ht : TyRow W row (fun t => t = 104)) {A : Option Addr} {c : Nat} {F : List MgR} (hf : FlM MgR.cells 6 104 W9 base A c F) :
    CpM (W9.setCell ⟨g, 4, none⟩ (.slice A F.length c)) base g n f { p with A := A, c := c, F := F } := by
  have hg2 := grown_set1 W9 g 4 (.slice A F.length c)
  have hb9 := blk_typed h.b hg (ht.imp fun t e => by subst e; decide)
  refine ⟨?_, (h.t.typed hg (ht.imp fun t e => by subst e; decide)).typed hg2 (TyRow.blk hb9 (by decide)), hf.typed hg2 (TyRow.blk hb9 (by decide)), h.z⟩
  have := Blk.set1 hb9 (o := 4) (.slice A F.length c)
  simpa using this
/-- as `set_fl`, the block's first world written out -/
theorem CpM.start {W : World} {base ge gk go g n : Nat} {f : Int} (hb : Blk W g 85 #[.int .i64 f, .slice (some ⟨ge, 0, none⟩) n n, .slice (some ⟨gk, 0, none⟩) n n, .slice (some ⟨go, 0, none⟩) n n, .slice none 0 0])
    (he : Blk W ge 65 ((List.replicate n (⟨none, 0, []⟩ : Gr Ev)).flatMap Gr.cells).toArray) (hk : Blk W gk 26 ((List.replicate n (⟨none, 0, []⟩ : Gr Kn)).flatMap Gr.cells).toArray) (ho : Blk W go 3 ((List.replicate n 0).flatMap Nv).toArray)
    (z1 : base ≤ g) (z2 : base ≤ ge) (z3 : base ≤ gk) (z4 : base ≤ go) : CpM W base g n f ⟨⟨ge, gk, go, List.replicate n ⟨none, 0, []⟩, List.replicate n ⟨none, 0, []⟩, List.replicate n 0⟩, none, 0, []⟩ :=
  ⟨hb, ⟨GOwn.start he, hk, fun s hs => by rw [(List.mem_replicate.1 hs).2]; exact own_nilv _ _ _ _, ho, by simp, by simp, by simp, z2, z3, z4⟩, ⟨own_nilv _ _ _ _, by simp⟩, z1⟩
end
end Go.Proofs.Ytfnnoncdocghjaa
