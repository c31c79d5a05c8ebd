/- The walk of CommitReplicated. No statement of the seat is proved here. -/
import Derived.Test.YtcljdkjlfciacaaStocks
import Derived.Test.YtcljdkjlfciacaaStables
import Derived.Test.YtcljdkjlfciacaaRepCode
import Derived.Test.YtcljdkjlfciacaaRepRef
namespace Go.Proofs.Ytcljdkjlfciacaa
open Go.RowKit
set_option linter.unusedVariables false

theorem bytesInt : Try.prog.bytesOf 3 = 8 := by kernel_rfl
theorem bytesDet : Try.prog.bytesOf 72 = 72 := by kernel_rfl
theorem bytesDets : Try.prog.bytesOf 44 = 24 := by kernel_rfl
theorem open_ints_sized {H : Type} {enc : TypeId × Value → H} {w : World} {base : Nat} {spare : Nat → Bool} {held : Bool} {a : Option Addr} {len cap : Nat} {d : DataW H} {p : List MemPlace} (h : DataW.Trod enc Try.prog w base spare held 28 (.slice a len cap) d p) (hz : ∀ n ∈ d.weights Try.prog 28, n ≤ reachBytes) :
    ∃ l : List Int, len = l.length ∧ IntSeg w a l ∧ len ≤ cap ∧ cap ≤ maxLen ∧ (∀ c ∈ l, InI64 c) ∧ l.length * 8 ≤ reachBytes := by
  obtain ⟨fuel, hf⟩ := h
  obtain ⟨css, hl, hs, h1, h2, hc, hz1⟩ := open_seg_sized 1 Try.underlying28 (by kernel_rfl) (by omega) (show DataW.trod enc Try.prog w base spare held fuel 28 [.slice a len cap] = some (d, p) from hf) hz
  obtain ⟨l, rfl, hb⟩ := lift_all' Iv InI64 css (fun cs hcs => by
    obtain ⟨_, n, y, hy, _⟩ := hc cs hcs
    obtain ⟨z, rfl, _, hz⟩ := DataW.trod_int Try.underlying3 hy
    exact ⟨z, rfl, inI_of hz⟩)
  rw [List.length_map] at hl
  subst hl
  refine ⟨l, rfl, ?_, h1, h2, hb, by rw [bytesInt] at hz1; exact hz1⟩
  show Seg w 1 a l.length (l.flatMap Iv)
  rw [List.flatMap_def]
  exact hs

theorem det_of {H : Type} {enc : TypeId × Value → H} {w : World} {base : Nat} {spare : Nat → Bool} {held : Bool} {n : Nat} {cs : List Value} {y : DataW H × List MemPlace} (hl : cs.length = 9) (hy : DataW.trod enc Try.prog w base spare held n 72 cs = some y) :
    ∃ d : Dt, cs = d.cells ∧ d.ok := by
  obtain ⟨z0, e0, g0⟩ := leaf_int (n := 4) (j := 0) Try.underlying3 hy (by kernel_rfl)
  obtain ⟨z1, e1, g1⟩ := leaf_int (n := 4) (j := 1) Try.underlying3 hy (by kernel_rfl)
  obtain ⟨z2, e2, g2⟩ := leaf_int (n := 4) (j := 2) Try.underlying3 hy (by kernel_rfl)
  obtain ⟨z3, e3, g3⟩ := leaf_int (n := 4) (j := 3) Try.underlying3 hy (by kernel_rfl)
  obtain ⟨z4, e4, g4⟩ := leaf_int (n := 4) (j := 4) Try.underlying3 hy (by kernel_rfl)
  obtain ⟨z5, e5, g5⟩ := leaf_int (n := 4) (j := 5) Try.underlying3 hy (by kernel_rfl)
  obtain ⟨z6, e6, g6⟩ := leaf_int (n := 4) (j := 6) Try.underlying3 hy (by kernel_rfl)
  obtain ⟨z7, e7, g7⟩ := leaf_int (n := 4) (j := 7) Try.underlying3 hy (by kernel_rfl)
  obtain ⟨z8, e8, g8⟩ := leaf_int (n := 4) (j := 8) Try.underlying3 hy (by kernel_rfl)
  refine ⟨⟨z0, z1, ⟨z2, z3, z4, z5, z6, z7, z8⟩⟩, List.ext_getElem? fun j => ?_, inI_of g0, inI_of g1, inI_of g2, inI_of g3, inI_of g4, inI_of g5, inI_of g6, inI_of g7, inI_of g8⟩
  rcases j with _ | _ | _ | _ | _ | _ | _ | _ | _ | j
  · exact e0
  · exact e1
  · exact e2
  · exact e3
  · exact e4
  · exact e5
  · exact e6
  · exact e7
  · exact e8
  · rw [List.getElem?_eq_none (by omega), List.getElem?_eq_none (by simp [Dt.cells])]


theorem open_detss_sized {H : Type} {enc : TypeId × Value → H} {w : World} {base : Nat} {spare : Nat → Bool} {held : Bool} {a : Option Addr} {len cap : Nat} {d : DataW H} {p : List MemPlace} (h : DataW.Trod enc Try.prog w base spare held 43 (.slice a len cap) d p) (hz : ∀ n ∈ d.weights Try.prog 43, n ≤ reachBytes) :
    ∃ G : List (Gr Dt), len = G.length ∧ GSeg Dt.cells 9 w a G ∧ len ≤ cap ∧ cap ≤ maxLen ∧ (∀ r ∈ G, ∀ d ∈ r.l, d.ok) ∧ G.length * 24 ≤ reachBytes ∧ ∀ r ∈ G, r.l.length * 72 ≤ reachBytes := by
  obtain ⟨fuel, hf⟩ := h
  obtain ⟨css, hl, hs, h1, h2, hc, hz1⟩ := open_seg_sized 1 Try.underlying43 (by kernel_rfl) (by omega) (show DataW.trod enc Try.prog w base spare held fuel 43 [.slice a len cap] = some (d, p) from hf) hz
  obtain ⟨G, rfl, hok⟩ := lift_all' Gr.cells (fun r : Gr Dt => (Seg w 9 r.A r.l.length (r.l.flatMap Dt.cells) ∧ r.l.length ≤ r.c ∧ r.c ≤ maxLen) ∧ (∀ d ∈ r.l, d.ok) ∧ r.l.length * 72 ≤ reachBytes) css (fun cs hcs => by
    obtain ⟨hl1, n, y, hy, hzy⟩ := hc cs hcs
    have hsl : ∃ A m c, cs = [.slice A m c] := by
      rcases Go.Deep.open_slice Try.underlying44 hy with ⟨hcs, _⟩ | ⟨a', len', cap', m, n, D, Pl, hcs, _⟩
      · exact ⟨_, _, _, hcs⟩
      · exact ⟨_, _, _, hcs⟩
    obtain ⟨A, m, c, rfl⟩ := hsl
    obtain ⟨dss, hl2, hs2, h3, h4, hc2, hz2⟩ := open_seg_sized 9 Try.underlying44 (by kernel_rfl) (by omega) hy hzy
    obtain ⟨ds, rfl, hdo⟩ := lift_all' Dt.cells Dt.ok dss (fun cs2 hcs2 => by
      obtain ⟨hl9, n2, y2, hy2, _⟩ := hc2 cs2 hcs2
      exact det_of hl9 hy2)
    rw [List.length_map] at hl2
    subst hl2
    rw [bytesDet] at hz2
    exact ⟨⟨A, c, ds⟩, rfl, ⟨by rw [List.flatMap_def]; exact hs2, h3, h4⟩, hdo, hz2⟩)
  rw [List.length_map] at hl
  subst hl
  refine ⟨G, rfl, ⟨?_, fun r hr => (hok r hr).1⟩, h1, h2, fun r hr => (hok r hr).2.1, by rw [bytesDets] at hz1; exact hz1, fun r hr => (hok r hr).2.2⟩
  show Seg w 1 a G.length (G.flatMap Gr.cells)
  rw [List.flatMap_def]
  exact hs
/-- the size of the logs -/
def gz : List (Gr Dt) → Int → Int
  | [], n => n
  | r :: G, n => if n ≤ 60 then gz G (n + (r.l.length : Int)) else n
theorem gz_big {G : List (Gr Dt)} {n : Int} (h : ¬ n ≤ 60) : gz G n = n := by
  cases G with
  | nil => rfl
  | cons r G => rw [gz, if_neg h]
theorem gz_drop {G : List (Gr Dt)} {j : Nat} (hj : j < G.length) {n : Int} (hn : n ≤ 60) : gz (G.drop j) n = gz (G.drop (j + 1)) (n + (G[j].l.length : Int)) := by rw [List.drop_eq_getElem_cons hj, gz, if_pos hn]
theorem gz_small : ∀ (G : List (Gr Dt)) (n : Int), ¬ 60 < gz G n → n ≤ 60
  | G, n, h => by
    by_cases hn : n ≤ 60
    · exact hn
    · rw [gz_big hn] at h; omega
theorem gz_each : ∀ (G : List (Gr Dt)) (n : Int), 0 ≤ n → ¬ 60 < gz G n → ∀ r ∈ G, r.l.length ≤ 60
  | [], _, _, _ => fun r hr => by cases hr
  | r :: G, n, h0, h => fun r' hr' => by
    have hn := gz_small _ _ h
    rw [gz, if_pos hn] at h
    have h1 := gz_small _ _ h
    rcases List.mem_cons.1 hr' with rfl | hr'
    · omega
    · exact gz_each G _ (by omega) h r' hr'
theorem own_cellI {w : World} {b g c n : Nat} {X : List Int} (h : w.ownsRow b 3 1 (.slice (some ⟨g, 0, none⟩) n c) n (X.flatMap Iv)) (hl : X.length = n) {s : Nat} (hs : s < n) : w.cell? ⟨g, s, none⟩ = some (.int .i64 (elX X s)) := by
  have hi : X[s]? = some (elX X s) := by unfold elX; rw [List.getD_eq_getElem?_getD, List.getElem?_eq_getElem (by omega)]; rfl
  have h1 := h.cellAt (s * 1 + 0) (by omega)
  rw [flat_get Iv 1 Iv.len X s 0 _ hi (by omega)] at h1
  simpa [Iv] using h1
theorem own_setI {w : World} {b g c n : Nat} {X : List Int} (h : w.ownsRow b 3 1 (.slice (some ⟨g, 0, none⟩) n c) n (X.flatMap Iv)) (hl : X.length = n) {s : Nat} (hs : s < n) (v : Int) : (w.setCell ⟨g, s, none⟩ (.int .i64 v)).ownsRow b 3 1 (.slice (some ⟨g, 0, none⟩) n c) n ((X.set s v).flatMap Iv) := by
  have h2 := (h.stored (s * 1 + 0) (.int .i64 v)).1
  rw [flat_set1 Iv 1 (by omega) Iv.len X s v (by omega) 0 (by omega) _ (by simp [Iv])] at h2
  simpa using h2
theorem own_setI' {w : World} {b g c n : Nat} {X : List Int} (h : w.ownsRow b 3 1 (.slice (some ⟨g, 0, none⟩) n c) n (X.flatMap Iv)) (hl : X.length = n) {s : Nat} (hs : s < n) (v : Int) : (w.setCell ⟨g, s, none⟩ (.int .i64 v)).ownsRow b 3 1 (.slice (some ⟨g, 0, none⟩) n c) n ((X.set s v).flatMap Iv) := own_setI h hl hs v
/-- the state behind the cut -/
structure LnAt (c : Nat) (bs : List Int) (k : Nat) (w : World) (base gl : Nat) (R : List Rw) (gx cx n : Nat) (X : List Int) (W : World) : Prop where
  d : Drew c bs k w W
  l : LinOwn W base gl R
  x : W.ownsRow w.heap.size 3 1 (.slice (some ⟨gx, 0, none⟩) n cx) n (X.flatMap Iv)
section
variable {c : Nat} {bs : List Int} {k : Nat} {w : World} {base gl : Nat} {R : List Rw} {gx cx n : Nat} {X : List Int} {W W' : World}
theorem LnAt.ext (h : LnAt c bs k w base gl R gx cx n X W) (hE : Ext W W') : LnAt c bs k w base gl R gx cx n X W' := ⟨h.d.post hE, h.l.ext hE, own_ext h.x hE⟩
theorem LnAt.draw (h : LnAt c bs k w base gl R gx cx n X W) (hD : Drew c bs k w W') (hg : W.grownBy W' (some c)) (hc : c < w.heap.size) (hb : w.heap.size ≤ base) (hl : w.heap.size ≤ gl) : LnAt c bs k w base gl R gx cx n X W' := ⟨hD, h.l.low hg (by omega) (by omega), own_keptc h.x hg hc⟩
theorem LnAt.set (h : LnAt c bs k w base gl R gx cx n X W) (hX : X.length = n) {q : Nat} (hq : q < n) (hc : c < w.heap.size) (v : Int) : LnAt c bs k w base gl R gx cx n (X.set q v) (W.setCell ⟨gx, q, none⟩ (.int .i64 v)) := by
  obtain ⟨cs, hB⟩ := own_blk h.x (g := gx) rfl
  have hgx := (h.x.lt gx rfl).1
  exact ⟨h.d.grown (grown_set1 _ _ _ _) (fun r e => by injection e; omega) hc, h.l.typed (grown_set1 _ _ _ _) (fun e => by subst e; exact absurd (blk_type h.l.b hB) (by decide)) hB (by decide), own_setI' h.x hX hq v⟩
end
def N1 (w : World) (G : List (Gr Dt)) (N0 : Int) (g : Nat) (nv iv : Value) (wr : World) : Prop :=
  ∃ (j : Nat) (N : Int), j ≤ G.length ∧ nv = .int .i64 N ∧ iv = .int .i64 j ∧ g = G.length - j ∧ Ext w wr ∧ 0 ≤ N ∧ N ≤ 1000000000000000 ∧ Hid (gz (G.drop j) N = gz G N0)
def N2 (c : Nat) (bs : List Int) (k : Nat) (w : World) (base gl : Nat) (R : List Rw) (gx cx n : Nat) (g : Nat) (iv : Value) (wr : World) : Prop :=
  ∃ (q : Nat) (X : List Int), q ≤ n ∧ iv = .int .i64 q ∧ g = n - q ∧ LnAt c bs k w base gl R gx cx n X wr ∧ Hid (X.length = n)
set_option maxRecDepth 100000 in
set_option maxHeartbeats 3200000 in
theorem repl_walk (a0 : Option Addr) (cap0 : Nat) (R0 : List Rw) (a1 : Option Addr) (cap1 : Nat) (F : List Int) (a2 : Option Addr) (cap2 : Nat) (G : List (Gr Dt)) (x3 : Int) (a4 : Option Addr) (cap4 : Nat) (bs : List Int) (w : World)
    (h0 : LinSeg w a0 R0 ∧ R0.length ≤ cap0 ∧ cap0 ≤ maxLen ∧ (∀ r ∈ R0, ∀ e ∈ r.es, e.ok) ∧ R0.length * 24 ≤ reachBytes ∧ ∀ r ∈ R0, r.es.length * 56 ≤ reachBytes)
    (h1 : IntSeg w a1 F ∧ F.length ≤ cap1 ∧ cap1 ≤ maxLen ∧ (∀ c ∈ F, InI64 c) ∧ F.length * 8 ≤ reachBytes)
    (h2 : GSeg Dt.cells 9 w a2 G ∧ G.length ≤ cap2 ∧ cap2 ≤ maxLen ∧ (∀ r ∈ G, ∀ d ∈ r.l, d.ok) ∧ G.length * 24 ≤ reachBytes ∧ ∀ r ∈ G, r.l.length * 72 ≤ reachBytes) (hx3 : (Lit.int .i64 x3).wf = true)
    (h4 : Seg w 1 a4 bs.length (bs.map (Value.int .u8)) ∧ bs.length ≤ cap4 ∧ cap4 ≤ maxLen ∧ ∀ b ∈ bs, 0 ≤ b ∧ b < 256) :
    Calls Try.prog 5 #[.slice a0 R0.length cap0, .slice a1 F.length cap1, .slice a2 G.length cap2, .int .i64 x3, .slice a4 bs.length cap4] w fun e w' => e = .returned (.bool true) ∧ Below w.heap.size w w' := by
  obtain ⟨hs0, hc0, hm0, hok0, -, hz0⟩ := h0
  obtain ⟨hs1, hc1, hm1, -, hz1⟩ := h1
  obtain ⟨hs2, hc2, hm2, hok2, hz2, hz3⟩ := h2
  obtain ⟨hb, hb1, hb2, hb3⟩ := h4
  have HB3 := Lib.hid hb3
  have HS0 := Lib.hid hs0
  have HS1 := Lib.hid hs1
  have HS2 := Lib.hid hs2
  have HB := Lib.hid hb
  have HZ0 := Lib.hid hz0
  have HZ3 := Lib.hid hz3
  have HOK0 := Lib.hid hok0
  have HOK2 := Lib.hid hok2
  clear hb3 hs0 hb hs1 hs2 hz0 hz3 hok0 hok2 hx3
  have hm0' := hm0
  have hm1' := hm1
  have hm2' := hm2
  have hb2' := hb2
  unfold maxLen at hm0' hm1' hm2' hb2'
  unfold reachBytes at hz1 hz2
  have hw0 : IntKind.i64.wrap ((F.length : Int) + (G.length : Int)) = (F.length : Int) + (G.length : Int) := IntWalk.i64_in _ (by omega)
  go_enter Try.func5, Try.ntmps5
  go_upto_region 3 with fail
  go_loopg [11, 12] G.length (fun g nv iv wr => N1 w G ((F.length : Int) + (G.length : Int)) g nv iv wr)
  case atStart => exact ⟨0, _, Nat.zero_le _, rfl, rfl, rfl, Ext.refl w, by omega, by omega, (rfl : gz (G.drop 0) _ = _)⟩
  case round =>
    rename World => w1
    obtain ⟨j, N, hj, rfl, rfl, rfl, hE, hN0, hN1, HN⟩ := hrel
    by_cases hgo : j < G.length ∧ N ≤ 60
    · obtain ⟨hlt, hN60⟩ := hgo
      obtain ⟨b, o, rfl, p0⟩ := (HS2.out.ext hE).at_ hlt
      have h72 := HZ3.out _ (List.getElem_mem hlt)
      unfold reachBytes at h72
      have hst := gz_drop hlt hN60
      have hj0 : (0 : Int) ≤ (j : Int) := by omega
      have hj1 : (j : Int) < (G.length : Int) := by omega
      have dN : decide (N ≤ 60) = true := decide_eq_true hN60
      rw [HN.out] at hst
      generalize G[j] = r at *
      have hw2 : IntKind.i64.wrap (N + (r.l.length : Int)) = N + (r.l.length : Int) := IntWalk.i64_in _ (by omega)
      have HST := Lib.hid hst
      clear hst HN
      go_wp2_with fail
      go_roundg (G.length - (j + 1))
      case measure => omega
      case rel => exact ⟨j + 1, N + (r.l.length : Int), by omega, rfl, by go_num, rfl, hE, by omega, by omega, (HST.out.symm : gz (G.drop (j + 1)) _ = _)⟩
    · have HGZ : Hid (gz G ((F.length : Int) + (G.length : Int)) = N) := by
        show _ = _
        rw [← HN.out]
        by_cases h60 : N ≤ 60
        · rw [List.drop_eq_nil_of_le (by omega)]; rfl
        · exact gz_big h60
      clear HN
      by_cases hlt : j < G.length
      · have dN : decide (N ≤ 60) = false := decide_eq_false (by omega)
        have dj : decide ((j : Int) < (G.length : Int)) = true := decide_eq_true (by omega)
        go_wp2_with fail
        refine (awake_any w1).mono ?_
        rintro e w2 ⟨rfl, hE1⟩
        go_wp2_with fail
        refine (size_any a0 cap0 R0 w2 (HS0.out.ext (hE.trans hE1)) hc0 hm0).mono ?_
        rintro e w3 ⟨rfl, hE2⟩
        have hE2' := (hE.trans hE1).trans hE2
        clear hE hE1 hE2
        by_cases hz : 60 < szL R0 (R0.length : Int)
        · have dz : decide (60 < szL R0 (R0.length : Int)) = true := decide_eq_true hz
          go_wp2_with fail
          refine (size_any a0 cap0 R0 w3 (HS0.out.ext hE2') hc0 hm0).mono ?_
          rintro e w4 ⟨rfl, hE3⟩
          go_wp2_with fail
          go_ret
          exact ⟨rfl, hE2'.trans hE3⟩
        have dz : decide (60 < szL R0 (R0.length : Int)) = false := decide_eq_false hz
        by_cases hn : 60 < N
        · have dn : decide (60 < N) = true := decide_eq_true hn
          go_wp2_with fail
          refine (size_any a0 cap0 R0 w3 (HS0.out.ext hE2') hc0 hm0).mono ?_
          rintro e w4 ⟨rfl, hE3⟩
          go_wp2_with fail
          go_ret
          exact ⟨rfl, hE2'.trans hE3⟩
        have dn : decide (60 < N) = false := decide_eq_false hn
        have hR0 : R0.length ≤ 1000 := by have := szL_small hz; omega
        have HR60 := Lib.hid (szL_each R0 (R0.length : Int) (by omega) HZ0.out hz)
        have hgn : ¬ 60 < gz G ((F.length : Int) + (G.length : Int)) := by rw [HGZ.out]; exact hn
        have HG60 := Lib.hid (gz_each G _ (by omega) hgn)
        have hG60 := gz_small _ _ hgn
        clear hz hn hgn
        go_wp2_with fail
        refine (new_any a4 cap4 bs 250 w3 (HB.out.ext hE2') hb1 hb2 (by omega) HB3.out).mono ?_
        rintro e w4 ⟨rfl, hC3, hE3⟩
        obtain ⟨c, hcw⟩ : ∃ c, w3.heap.size = c := ⟨_, rfl⟩
        rw [hcw] at hC3
        have hc0' : w.heap.size ≤ c := by have := hE2'.size; omega
        have hE3' := hE2'.trans hE3
        have hc3 : c < w4.heap.size := hC3.lt
        try rw [hcw]
        clear hcw hE3 hE2' dz dn
        go_wp2_with fail
        refine (scene_any c _ 0 w4 hC3).mono ?_
        rintro e w5 ⟨base, gl, p, R, rfl, hn2, hn4, hb4, hgl4, hL4, hRl, hrl, hrk, hM4, hO4, hD4⟩
        obtain ⟨A0, c0, Ls, A1, c1, Ks, v2, As⟩ := p
        obtain ⟨A2, c2, hv2, _, _, _⟩ := own_slice hM4.a
        dsimp only at hv2
        subst hv2
        dsimp only at hn2 hn4 hRl hrl
        have hSc : ScAt c (bs.take 250) 0 w4 base gl ⟨A0, c0, Ls, A1, c1, Ks, .slice A2 As.length c2, As⟩ R w5 := ⟨hD4, hL4, hM4⟩
        have HRl := Lib.hid hRl
        have HRK := Lib.hid hrk
        have HO := Lib.hid hO4
        have HR24 : Hid (∀ s ∈ R, s.es.length ≤ 24) := fun s hs => by
          obtain ⟨q, hq⟩ := List.mem_iff_getElem?.1 hs
          have h1 := hrl q s hq
          have h2 := (hO4.lb q (by have := (List.getElem?_eq_some_iff.1 hq).1; show q < Ls.length; omega)).2
          dsimp only at h1 h2
          omega
        clear hL4 hM4 hD4 hrl hRl hO4 hC3 hrk
        have hX5 := (Ext.refl w5).allocs (.cells #[.slice A0 Ls.length c0, .slice A1 Ks.length c1, .slice A2 As.length c2] 32)
        have hB5 := Blk.new w5 32 #[.slice A0 Ls.length c0, .slice A1 Ks.length c1, .slice A2 As.length c2]
        have hc4 : c < w5.heap.size := by have := hSc.d.1.size; omega
        have hSc5 := hSc.ext hX5
        obtain ⟨w6, hw6⟩ : ∃ w6, w5.alloc (.cells #[.slice A0 Ls.length c0, .slice A1 Ks.length c1, .slice A2 As.length c2] 32) = w6 := ⟨_, rfl⟩
        obtain ⟨g5, hg5⟩ : ∃ g5, w5.heap.size = g5 := ⟨_, rfl⟩
        go_upto_region 10 with fail
        rw [hw6] at hB5 hSc5
        try rw [hw6]
        rw [hg5] at hB5 hc4
        try rw [hg5]
        clear hX5 hw6 hSc hg5
        obtain ⟨⟨x0, x1, x2⟩, _, _, _⟩ := blk3 hB5
        have HSc5 := Lib.hid hSc5
        clear hSc5 hB5
        go_wp2_with fail
        refine (cut_any c (bs.take 250) 0 w4 w6 A0 c0 Ls _ _ HSc5.out.d HSc5.out.m.l HSc5.out.m.lf hc3 hn4 (fun q hq => by have := HO.out.lb q hq; dsimp only at this; omega) ⟨rfl, rfl⟩).mono ?_
        rintro e w7 ⟨v7, X7, rfl, hO7, ⟨hX7, -⟩, hD7, hg7⟩
        have hO7' := hO7
        rw [hX7] at hO7'
        obtain ⟨gx, cx, rfl, _, _⟩ := hO7'.form (by omega)
        have HLn7 : Hid (LnAt c (bs.take 250) 0 w4 base gl R gx cx Ls.length X7 w7) := ⟨hD7, HSc5.out.l.low hg7 (by omega) (by omega), own_base hO7' HSc5.out.d.1.size⟩
        have HX7 := Lib.hid hX7
        clear hO7 hO7' hX7 hD7 hg7 x0 x1 x2 HSc5 HO
        go_wp2_with fail
        refine (next_on HLn7.out.d (Ext.refl _) 4 (by omega) (by omega)).mono ?_
        rintro e w8 ⟨k, rfl, ⟨hk0, hk1⟩, hD8, hg8⟩
        have HLn8 := Lib.hid (HLn7.out.draw hD8 hg8 hc3 hb4 hgl4)
        clear hD8 hg8 HLn7
        obtain ⟨f, hf⟩ : ∃ f, k - 1 = f := ⟨_, rfl⟩
        have hwf : IntKind.i64.wrap (k - 1) = f := by rw [hf]; exact IntWalk.i64_in _ (by omega)
        clear hf
        go_upto_region 12 with fail
        go_loopg [18] Ls.length (fun g iv wr => N2 c (bs.take 250) 0 w4 base gl R gx cx Ls.length g iv wr)
        case atStart => exact ⟨0, X7, Nat.zero_le _, rfl, rfl, HLn8.out, HX7⟩
        case round =>
          clear HLn8 HX7
          rename World => w9
          obtain ⟨q, X, hq, rfl, rfl, hLn, HX⟩ := hrel
          have HLn := Lib.hid hLn
          clear hLn
          by_cases hlt : q < Ls.length
          · have hq0 : (0 : Int) ≤ (q : Int) := by omega
            have hq1 : (q : Int) < (Ls.length : Int) := by omega
            go_upto_region 14 with fail
            refine wp_region_sched (by kernel_rfl) 11 [(0, true), (1, true), (2, true), (4, true), (5, true), (6, true), (7, true), (3, false), (8, true), (9, true), (10, true), (11, false)] (fun w' => w'.cell? ⟨gx, q, none⟩ = some (.int .i64 (elX X q)) ∧ True) (by kernel_rfl) (fun _ _ dd _ _ h => by cases dd <;> exact h) ⟨own_cellI (HLn.out.ext (Below.drew (Ext.refl w9))).x HX.out hlt, trivial⟩ (fun hHeld => ?_)
            iterate 7 ((refine sched_read (v := ?_) rfl (Or.inl ⟨by rfl, ?_⟩) hHeld ?_; rotate_left 1; · (intro w' hSw; obtain ⟨t0, t1⟩ := hSw; go_simp; (first | done | with_reducible rfl))); (try simp only [Act.put, List.setIfInBounds_toArray, List.set_cons_zero, List.set_cons_succ]))
            refine sched_eff rfl (fun K hK => ?_)
            go_simp
            refine (next_on HLn.out.d (Below.drew (Ext.refl w9)) 2 (by omega) (by omega)).mono ?_
            rintro e w10 ⟨r10, rfl, ⟨hr0, hr1⟩, hD10, hg10⟩
            have HLn10 := Lib.hid ((HLn.out.ext (Below.drew (Ext.refl w9))).draw hD10 hg10 hc3 hb4 hgl4)
            clear hD10 hg10
            go_wp2_with fail
            refine hK.out _ _ ⟨own_cellI HLn10.out.x HX.out hlt, trivial⟩ (fun hHeld => ?_)
            clear hK K
            try simp only [Act.put, List.setIfInBounds_toArray, List.set_cons_zero, List.set_cons_succ]
            iterate 3 ((refine sched_read (v := ?_) rfl (Or.inl ⟨by rfl, ?_⟩) hHeld ?_; rotate_left 1; · (intro w' hSw; obtain ⟨t0, t1⟩ := hSw; go_simp; (first | done | with_reducible rfl))); (try simp only [Act.put, List.setIfInBounds_toArray, List.set_cons_zero, List.set_cons_succ]))
            have py := own_cellI HLn10.out.x HX.out hlt
            have pf := HLn10.out.x.frozenAt q
            refine sched_tail rfl (by decide) (fun K hK => ?_)
            go_simp
            refine hK.out _ _ ?_
            clear hK K
            refine sched_done ?_
            have HSET := Lib.hid (fun v => HLn10.out.set HX.out hlt hc3 v)
            clear py pf HLn
            go_wp2_with fail
            go_roundg (Ls.length - (q + 1))
            case measure => omega
            case rel => exact ⟨q + 1, _, by omega, by go_num, rfl, HSET.out _, by show _ = _; rw [List.length_set]; exact HX.out⟩
          · obtain rfl : q = Ls.length := by omega
            go_wp2_with fail
            refine (stocks_any c (bs.take 250) 0 w4 w9 Ls.length gl R HLn.out.d hc3 HRl.out (by omega) hn4 (fun W' hg => (HLn.out.l.low hg (by omega) (by omega)).seg) HR24.out HRK.out).mono ?_
            rintro e w10 ⟨g1, g2, Gs, Kw, rfl, hSk, hSo⟩
            have HSk := Lib.hid hSk
            have HSo := Lib.hid hSo
            have hL10 := HLn.out.l.low hSk.g (by omega) (by omega)
            have hI10 := Seg.of_own (own_keptc HLn.out.x hSk.g hc3)
            have HL10 := Lib.hid hL10
            have HI10 : Hid (IntSeg w10 (some ⟨gx, 0, none⟩) X) := by show IntSeg _ _ _; unfold IntSeg; rw [HX.out]; exact hI10
            have hE10 := hSk.d.ext hE3' hc0'
            obtain ⟨_, _, _, hxc, hxm⟩ : ∃ A c, Value.slice (some ⟨gx, 0, none⟩) Ls.length cx = .slice A Ls.length c ∧ Ls.length ≤ cx ∧ cx ≤ maxLen := by
              obtain ⟨A, c, e, _, h5, h6⟩ := own_slice HLn.out.x
              injection e with e1 e2 e3
              subst e3
              exact ⟨_, _, rfl, h5, h6⟩
            clear hSk hSo hL10 hI10 HLn
            have hn0 : (searchL (evsL R0) (mtR (limL (evsL R0) F G [] x3))).length ≤ 1000 := by rw [searchL_len, evsL_len]; exact hR0
            have hn1 : (searchL (evsL R) (mtR (limL (evsL R) X Gs Kw f))).length ≤ 1000 := by rw [searchL_len, evsL_len, HRl.out]; omega
            have hr0 : ∀ r ∈ R0, r.es.length ≤ 1000 := fun r hr => by have := HR60.out r hr; omega
            have hg0 : ∀ r ∈ G, r.l.length ≤ 1000 := fun r hr => by have := HG60.out r hr; omega
            have HR0' := Lib.hid hr0
            have HG0' := Lib.hid hg0
            clear hr0 hg0
            go_wp2_with fail
            refine (replicated_code a0 cap0 R0 a1 cap1 F a2 cap2 G none 0 [] x3 _ (HS0.out.ext hE10) hR0 HR0'.out HOK0.out (HS1.out.ext hE10) hc1 hm1 (HS2.out.ext hE10) (by omega) HG0'.out HOK2.out GSeg.nil (by show (0 : Nat) ≤ 1000; omega)).mono ?_
            rintro e w11 ⟨B1, d1, rfl, hI1, hl1, hl1', hE11⟩
            have hE11' := hE10.trans hE11
            have HSk11 := Lib.hid (HSk.out.ext hE11)
            have HL11 := Lib.hid (HL10.out.ext hE11)
            have HI11 := Lib.hid (HI10.out.ext hE11)
            clear hE10 hE11 HSk HL10 HI10
            go_wp2_with fail
            have hr := replicated_ref a0 cap0 R0 a1 cap1 F a2 cap2 G none 0 [] x3 _ (HS0.out.ext hE11') hR0 HR0'.out (HS1.out.ext hE11') hc1 hm1 (HS2.out.ext hE11') (by omega) HG0'.out GSeg.nil (by show (0 : Nat) ≤ 1000; omega)
            rw [← rep_same] at hr
            refine hr.mono ?_
            clear hr
            rintro e w12 ⟨B2, d2, rfl, hI2, hl2, hl2', hE12⟩
            have hE12' := hE11'.trans hE12
            have HSk12 := Lib.hid (HSk11.out.ext hE12)
            have HL12 := Lib.hid (HL11.out.ext hE12)
            have HI12 := Lib.hid (HI11.out.ext hE12)
            have hI1' := hI1.ext hE12
            clear hE11' hE12 HSk11 HL11 HI11 hI1
            go_wp2_with fail
            refine (same_ints B1 B2 d1 d2 _ _ hI1' hI2 hn0).mono ?_
            rintro e w13 ⟨rfl, hE13⟩
            have hE13' := hE12'.trans hE13
            have HSk13 := Lib.hid (HSk12.out.ext hE13)
            have HL13 := Lib.hid (HL12.out.ext hE13)
            have HI13 := Lib.hid (HI12.out.ext hE13)
            clear hE12' hE13 HSk12 HL12 HI12 hI1' hI2
            have hRn : R.length ≤ 1000 := by have := HRl.out; omega
            have hxl : X.length = Ls.length := HX.out
            go_wp2_with fail
            have hp := replicated_code (some ⟨gl, 0, none⟩) Ls.length R (some ⟨gx, 0, none⟩) cx X (some ⟨g1, 0, none⟩) Ls.length Gs (some ⟨g2, 0, none⟩) Ls.length Kw f w13 HL13.out.seg hRn (fun r hr => by have := HR24.out r hr; omega) HRK.out HI13.out (by rw [hxl]; exact hxc) hxm HSk13.out.lg.seg (by rw [HSk13.out.n1]; omega) (fun r hr => (HSo.out.g r hr).1) (fun r hr => (HSo.out.g r hr).2) HSk13.out.kn.seg (by rw [HSk13.out.n2]; omega)
            rw [HRl.out, hxl, HSk13.out.n1, HSk13.out.n2] at hp
            refine hp.mono ?_
            clear hp
            rintro e w14 ⟨B3, d3, rfl, hI3, hl3, hl3', hE14⟩
            have hE14' := hE13'.trans hE14
            have HSk14 := Lib.hid (HSk13.out.ext hE14)
            have HL14 := Lib.hid (HL13.out.ext hE14)
            have HI14 := Lib.hid (HI13.out.ext hE14)
            clear hE13' hE14 HSk13 HL13 HI13
            go_wp2_with fail
            have hp := replicated_ref (some ⟨gl, 0, none⟩) Ls.length R (some ⟨gx, 0, none⟩) cx X (some ⟨g1, 0, none⟩) Ls.length Gs (some ⟨g2, 0, none⟩) Ls.length Kw f w14 HL14.out.seg hRn (fun r hr => by have := HR24.out r hr; omega) HI14.out (by rw [hxl]; exact hxc) hxm HSk14.out.lg.seg (by rw [HSk14.out.n1]; omega) (fun r hr => (HSo.out.g r hr).1) HSk14.out.kn.seg (by rw [HSk14.out.n2]; omega)
            rw [HRl.out, hxl, HSk14.out.n1, HSk14.out.n2, ← rep_same] at hp
            refine hp.mono ?_
            clear hp
            rintro e w15 ⟨B4, d4, rfl, hI4, hl4, hl4', hE15⟩
            have hE15' := hE14'.trans hE15
            have hI3' := hI3.ext hE15
            clear hE14' hE15 HSk14 HL14 HI14 hI3 hxl
            go_wp2_with fail
            refine (same_ints B3 B4 d3 d4 _ _ hI3' hI4 hn1).mono ?_
            rintro e w16 ⟨rfl, hE16⟩
            go_wp2_with fail
            go_ret
            exact ⟨rfl, hE15'.trans hE16⟩
      · have dj : decide ((j : Int) < (G.length : Int)) = false := decide_eq_false (by omega)
        go_wp2_with fail
        refine (awake_any w1).mono ?_
        rintro e w2 ⟨rfl, hE1⟩
        go_wp2_with fail
        refine (size_any a0 cap0 R0 w2 (HS0.out.ext (hE.trans hE1)) hc0 hm0).mono ?_
        rintro e w3 ⟨rfl, hE2⟩
        have hE2' := (hE.trans hE1).trans hE2
        clear hE hE1 hE2
        by_cases hz : 60 < szL R0 (R0.length : Int)
        · have dz : decide (60 < szL R0 (R0.length : Int)) = true := decide_eq_true hz
          go_wp2_with fail
          refine (size_any a0 cap0 R0 w3 (HS0.out.ext hE2') hc0 hm0).mono ?_
          rintro e w4 ⟨rfl, hE3⟩
          go_wp2_with fail
          go_ret
          exact ⟨rfl, hE2'.trans hE3⟩
        have dz : decide (60 < szL R0 (R0.length : Int)) = false := decide_eq_false hz
        by_cases hn : 60 < N
        · have dn : decide (60 < N) = true := decide_eq_true hn
          go_wp2_with fail
          refine (size_any a0 cap0 R0 w3 (HS0.out.ext hE2') hc0 hm0).mono ?_
          rintro e w4 ⟨rfl, hE3⟩
          go_wp2_with fail
          go_ret
          exact ⟨rfl, hE2'.trans hE3⟩
        have dn : decide (60 < N) = false := decide_eq_false hn
        have hR0 : R0.length ≤ 1000 := by have := szL_small hz; omega
        have HR60 := Lib.hid (szL_each R0 (R0.length : Int) (by omega) HZ0.out hz)
        have hgn : ¬ 60 < gz G ((F.length : Int) + (G.length : Int)) := by rw [HGZ.out]; exact hn
        have HG60 := Lib.hid (gz_each G _ (by omega) hgn)
        have hG60 := gz_small _ _ hgn
        clear hz hn hgn
        go_wp2_with fail
        refine (new_any a4 cap4 bs 250 w3 (HB.out.ext hE2') hb1 hb2 (by omega) HB3.out).mono ?_
        rintro e w4 ⟨rfl, hC3, hE3⟩
        obtain ⟨c, hcw⟩ : ∃ c, w3.heap.size = c := ⟨_, rfl⟩
        rw [hcw] at hC3
        have hc0' : w.heap.size ≤ c := by have := hE2'.size; omega
        have hE3' := hE2'.trans hE3
        have hc3 : c < w4.heap.size := hC3.lt
        try rw [hcw]
        clear hcw hE3 hE2' dz dn
        go_wp2_with fail
        refine (scene_any c _ 0 w4 hC3).mono ?_
        rintro e w5 ⟨base, gl, p, R, rfl, hn2, hn4, hb4, hgl4, hL4, hRl, hrl, hrk, hM4, hO4, hD4⟩
        obtain ⟨A0, c0, Ls, A1, c1, Ks, v2, As⟩ := p
        obtain ⟨A2, c2, hv2, _, _, _⟩ := own_slice hM4.a
        dsimp only at hv2
        subst hv2
        dsimp only at hn2 hn4 hRl hrl
        have hSc : ScAt c (bs.take 250) 0 w4 base gl ⟨A0, c0, Ls, A1, c1, Ks, .slice A2 As.length c2, As⟩ R w5 := ⟨hD4, hL4, hM4⟩
        have HRl := Lib.hid hRl
        have HRK := Lib.hid hrk
        have HO := Lib.hid hO4
        have HR24 : Hid (∀ s ∈ R, s.es.length ≤ 24) := fun s hs => by
          obtain ⟨q, hq⟩ := List.mem_iff_getElem?.1 hs
          have h1 := hrl q s hq
          have h2 := (hO4.lb q (by have := (List.getElem?_eq_some_iff.1 hq).1; show q < Ls.length; omega)).2
          dsimp only at h1 h2
          omega
        clear hL4 hM4 hD4 hrl hRl hO4 hC3 hrk
        have hX5 := (Ext.refl w5).allocs (.cells #[.slice A0 Ls.length c0, .slice A1 Ks.length c1, .slice A2 As.length c2] 32)
        have hB5 := Blk.new w5 32 #[.slice A0 Ls.length c0, .slice A1 Ks.length c1, .slice A2 As.length c2]
        have hc4 : c < w5.heap.size := by have := hSc.d.1.size; omega
        have hSc5 := hSc.ext hX5
        obtain ⟨w6, hw6⟩ : ∃ w6, w5.alloc (.cells #[.slice A0 Ls.length c0, .slice A1 Ks.length c1, .slice A2 As.length c2] 32) = w6 := ⟨_, rfl⟩
        obtain ⟨g5, hg5⟩ : ∃ g5, w5.heap.size = g5 := ⟨_, rfl⟩
        go_upto_region 10 with fail
        rw [hw6] at hB5 hSc5
        try rw [hw6]
        rw [hg5] at hB5 hc4
        try rw [hg5]
        clear hX5 hw6 hSc hg5
        obtain ⟨⟨x0, x1, x2⟩, _, _, _⟩ := blk3 hB5
        have HSc5 := Lib.hid hSc5
        clear hSc5 hB5
        go_wp2_with fail
        refine (cut_any c (bs.take 250) 0 w4 w6 A0 c0 Ls _ _ HSc5.out.d HSc5.out.m.l HSc5.out.m.lf hc3 hn4 (fun q hq => by have := HO.out.lb q hq; dsimp only at this; omega) ⟨rfl, rfl⟩).mono ?_
        rintro e w7 ⟨v7, X7, rfl, hO7, ⟨hX7, -⟩, hD7, hg7⟩
        have hO7' := hO7
        rw [hX7] at hO7'
        obtain ⟨gx, cx, rfl, _, _⟩ := hO7'.form (by omega)
        have HLn7 : Hid (LnAt c (bs.take 250) 0 w4 base gl R gx cx Ls.length X7 w7) := ⟨hD7, HSc5.out.l.low hg7 (by omega) (by omega), own_base hO7' HSc5.out.d.1.size⟩
        have HX7 := Lib.hid hX7
        clear hO7 hO7' hX7 hD7 hg7 x0 x1 x2 HSc5 HO
        go_wp2_with fail
        refine (next_on HLn7.out.d (Ext.refl _) 4 (by omega) (by omega)).mono ?_
        rintro e w8 ⟨k, rfl, ⟨hk0, hk1⟩, hD8, hg8⟩
        have HLn8 := Lib.hid (HLn7.out.draw hD8 hg8 hc3 hb4 hgl4)
        clear hD8 hg8 HLn7
        obtain ⟨f, hf⟩ : ∃ f, k - 1 = f := ⟨_, rfl⟩
        have hwf : IntKind.i64.wrap (k - 1) = f := by rw [hf]; exact IntWalk.i64_in _ (by omega)
        clear hf
        go_upto_region 12 with fail
        go_loopg [18] Ls.length (fun g iv wr => N2 c (bs.take 250) 0 w4 base gl R gx cx Ls.length g iv wr)
        case atStart => exact ⟨0, X7, Nat.zero_le _, rfl, rfl, HLn8.out, HX7⟩
        case round =>
          clear HLn8 HX7
          rename World => w9
          obtain ⟨q, X, hq, rfl, rfl, hLn, HX⟩ := hrel
          have HLn := Lib.hid hLn
          clear hLn
          by_cases hlt : q < Ls.length
          · have hq0 : (0 : Int) ≤ (q : Int) := by omega
            have hq1 : (q : Int) < (Ls.length : Int) := by omega
            go_upto_region 14 with fail
            refine wp_region_sched (by kernel_rfl) 11 [(0, true), (1, true), (2, true), (4, true), (5, true), (6, true), (7, true), (3, false), (8, true), (9, true), (10, true), (11, false)] (fun w' => w'.cell? ⟨gx, q, none⟩ = some (.int .i64 (elX X q)) ∧ True) (by kernel_rfl) (fun _ _ dd _ _ h => by cases dd <;> exact h) ⟨own_cellI (HLn.out.ext (Below.drew (Ext.refl w9))).x HX.out hlt, trivial⟩ (fun hHeld => ?_)
            iterate 7 ((refine sched_read (v := ?_) rfl (Or.inl ⟨by rfl, ?_⟩) hHeld ?_; rotate_left 1; · (intro w' hSw; obtain ⟨t0, t1⟩ := hSw; go_simp; (first | done | with_reducible rfl))); (try simp only [Act.put, List.setIfInBounds_toArray, List.set_cons_zero, List.set_cons_succ]))
            refine sched_eff rfl (fun K hK => ?_)
            go_simp
            refine (next_on HLn.out.d (Below.drew (Ext.refl w9)) 2 (by omega) (by omega)).mono ?_
            rintro e w10 ⟨r10, rfl, ⟨hr0, hr1⟩, hD10, hg10⟩
            have HLn10 := Lib.hid ((HLn.out.ext (Below.drew (Ext.refl w9))).draw hD10 hg10 hc3 hb4 hgl4)
            clear hD10 hg10
            go_wp2_with fail
            refine hK.out _ _ ⟨own_cellI HLn10.out.x HX.out hlt, trivial⟩ (fun hHeld => ?_)
            clear hK K
            try simp only [Act.put, List.setIfInBounds_toArray, List.set_cons_zero, List.set_cons_succ]
            iterate 3 ((refine sched_read (v := ?_) rfl (Or.inl ⟨by rfl, ?_⟩) hHeld ?_; rotate_left 1; · (intro w' hSw; obtain ⟨t0, t1⟩ := hSw; go_simp; (first | done | with_reducible rfl))); (try simp only [Act.put, List.setIfInBounds_toArray, List.set_cons_zero, List.set_cons_succ]))
            have py := own_cellI HLn10.out.x HX.out hlt
            have pf := HLn10.out.x.frozenAt q
            refine sched_tail rfl (by decide) (fun K hK => ?_)
            go_simp
            refine hK.out _ _ ?_
            clear hK K
            refine sched_done ?_
            have HSET := Lib.hid (fun v => HLn10.out.set HX.out hlt hc3 v)
            clear py pf HLn
            go_wp2_with fail
            go_roundg (Ls.length - (q + 1))
            case measure => omega
            case rel => exact ⟨q + 1, _, by omega, by go_num, rfl, HSET.out _, by show _ = _; rw [List.length_set]; exact HX.out⟩
          · obtain rfl : q = Ls.length := by omega
            go_wp2_with fail
            refine (stocks_any c (bs.take 250) 0 w4 w9 Ls.length gl R HLn.out.d hc3 HRl.out (by omega) hn4 (fun W' hg => (HLn.out.l.low hg (by omega) (by omega)).seg) HR24.out HRK.out).mono ?_
            rintro e w10 ⟨g1, g2, Gs, Kw, rfl, hSk, hSo⟩
            have HSk := Lib.hid hSk
            have HSo := Lib.hid hSo
            have hL10 := HLn.out.l.low hSk.g (by omega) (by omega)
            have hI10 := Seg.of_own (own_keptc HLn.out.x hSk.g hc3)
            have HL10 := Lib.hid hL10
            have HI10 : Hid (IntSeg w10 (some ⟨gx, 0, none⟩) X) := by show IntSeg _ _ _; unfold IntSeg; rw [HX.out]; exact hI10
            have hE10 := hSk.d.ext hE3' hc0'
            obtain ⟨_, _, _, hxc, hxm⟩ : ∃ A c, Value.slice (some ⟨gx, 0, none⟩) Ls.length cx = .slice A Ls.length c ∧ Ls.length ≤ cx ∧ cx ≤ maxLen := by
              obtain ⟨A, c, e, _, h5, h6⟩ := own_slice HLn.out.x
              injection e with e1 e2 e3
              subst e3
              exact ⟨_, _, rfl, h5, h6⟩
            clear hSk hSo hL10 hI10 HLn
            have hn0 : (searchL (evsL R0) (mtR (limL (evsL R0) F G [] x3))).length ≤ 1000 := by rw [searchL_len, evsL_len]; exact hR0
            have hn1 : (searchL (evsL R) (mtR (limL (evsL R) X Gs Kw f))).length ≤ 1000 := by rw [searchL_len, evsL_len, HRl.out]; omega
            have hr0 : ∀ r ∈ R0, r.es.length ≤ 1000 := fun r hr => by have := HR60.out r hr; omega
            have hg0 : ∀ r ∈ G, r.l.length ≤ 1000 := fun r hr => by have := HG60.out r hr; omega
            have HR0' := Lib.hid hr0
            have HG0' := Lib.hid hg0
            clear hr0 hg0
            go_wp2_with fail
            refine (replicated_code a0 cap0 R0 a1 cap1 F a2 cap2 G none 0 [] x3 _ (HS0.out.ext hE10) hR0 HR0'.out HOK0.out (HS1.out.ext hE10) hc1 hm1 (HS2.out.ext hE10) (by omega) HG0'.out HOK2.out GSeg.nil (by show (0 : Nat) ≤ 1000; omega)).mono ?_
            rintro e w11 ⟨B1, d1, rfl, hI1, hl1, hl1', hE11⟩
            have hE11' := hE10.trans hE11
            have HSk11 := Lib.hid (HSk.out.ext hE11)
            have HL11 := Lib.hid (HL10.out.ext hE11)
            have HI11 := Lib.hid (HI10.out.ext hE11)
            clear hE10 hE11 HSk HL10 HI10
            go_wp2_with fail
            have hr := replicated_ref a0 cap0 R0 a1 cap1 F a2 cap2 G none 0 [] x3 _ (HS0.out.ext hE11') hR0 HR0'.out (HS1.out.ext hE11') hc1 hm1 (HS2.out.ext hE11') (by omega) HG0'.out GSeg.nil (by show (0 : Nat) ≤ 1000; omega)
            rw [← rep_same] at hr
            refine hr.mono ?_
            clear hr
            rintro e w12 ⟨B2, d2, rfl, hI2, hl2, hl2', hE12⟩
            have hE12' := hE11'.trans hE12
            have HSk12 := Lib.hid (HSk11.out.ext hE12)
            have HL12 := Lib.hid (HL11.out.ext hE12)
            have HI12 := Lib.hid (HI11.out.ext hE12)
            have hI1' := hI1.ext hE12
            clear hE11' hE12 HSk11 HL11 HI11 hI1
            go_wp2_with fail
            refine (same_ints B1 B2 d1 d2 _ _ hI1' hI2 hn0).mono ?_
            rintro e w13 ⟨rfl, hE13⟩
            have hE13' := hE12'.trans hE13
            have HSk13 := Lib.hid (HSk12.out.ext hE13)
            have HL13 := Lib.hid (HL12.out.ext hE13)
            have HI13 := Lib.hid (HI12.out.ext hE13)
            clear hE12' hE13 HSk12 HL12 HI12 hI1' hI2
            have hRn : R.length ≤ 1000 := by have := HRl.out; omega
            have hxl : X.length = Ls.length := HX.out
            go_wp2_with fail
            have hp := replicated_code (some ⟨gl, 0, none⟩) Ls.length R (some ⟨gx, 0, none⟩) cx X (some ⟨g1, 0, none⟩) Ls.length Gs (some ⟨g2, 0, none⟩) Ls.length Kw f w13 HL13.out.seg hRn (fun r hr => by have := HR24.out r hr; omega) HRK.out HI13.out (by rw [hxl]; exact hxc) hxm HSk13.out.lg.seg (by rw [HSk13.out.n1]; omega) (fun r hr => (HSo.out.g r hr).1) (fun r hr => (HSo.out.g r hr).2) HSk13.out.kn.seg (by rw [HSk13.out.n2]; omega)
            rw [HRl.out, hxl, HSk13.out.n1, HSk13.out.n2] at hp
            refine hp.mono ?_
            clear hp
            rintro e w14 ⟨B3, d3, rfl, hI3, hl3, hl3', hE14⟩
            have hE14' := hE13'.trans hE14
            have HSk14 := Lib.hid (HSk13.out.ext hE14)
            have HL14 := Lib.hid (HL13.out.ext hE14)
            have HI14 := Lib.hid (HI13.out.ext hE14)
            clear hE13' hE14 HSk13 HL13 HI13
            go_wp2_with fail
            have hp := replicated_ref (some ⟨gl, 0, none⟩) Ls.length R (some ⟨gx, 0, none⟩) cx X (some ⟨g1, 0, none⟩) Ls.length Gs (some ⟨g2, 0, none⟩) Ls.length Kw f w14 HL14.out.seg hRn (fun r hr => by have := HR24.out r hr; omega) HI14.out (by rw [hxl]; exact hxc) hxm HSk14.out.lg.seg (by rw [HSk14.out.n1]; omega) (fun r hr => (HSo.out.g r hr).1) HSk14.out.kn.seg (by rw [HSk14.out.n2]; omega)
            rw [HRl.out, hxl, HSk14.out.n1, HSk14.out.n2, ← rep_same] at hp
            refine hp.mono ?_
            clear hp
            rintro e w15 ⟨B4, d4, rfl, hI4, hl4, hl4', hE15⟩
            have hE15' := hE14'.trans hE15
            have hI3' := hI3.ext hE15
            clear hE14' hE15 HSk14 HL14 HI14 hI3 hxl
            go_wp2_with fail
            refine (same_ints B3 B4 d3 d4 _ _ hI3' hI4 hn1).mono ?_
            rintro e w16 ⟨rfl, hE16⟩
            go_wp2_with fail
            go_ret
            exact ⟨rfl, hE15'.trans hE16⟩
end Go.Proofs.Ytcljdkjlfciacaa
