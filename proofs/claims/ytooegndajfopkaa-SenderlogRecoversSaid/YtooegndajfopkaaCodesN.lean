/- The maker of inputs: choices out of a list of bytes. No statement of the seat is proved here. -/
import Derived.Test.YtooegndajfopkaaProg
import Derived.Test.YtooegndajfopkaaBase
import Derived.OpenShut
namespace Go.Proofs.Ytooegndajfopkaa
open Go.RowKit
set_option linter.unusedVariables false

/-- block c holds a list of choices of which k are used up -/
def Codes (w : World) (c : Nat) (bs : List Int) (k : Nat) : Prop :=
  ∃ A cap, w.heap[c]? = some (.cells #[.slice A bs.length cap, .int .i64 k] 57 (0, 0)) ∧ Seg w 1 A bs.length (bs.map (Value.int .u8)) ∧
    (0 < bs.length → ∀ ad, A = some ad → ad.block < c) ∧ k ≤ bs.length ∧ bs.length ≤ 1000 ∧ ∀ b ∈ bs, 0 ≤ b ∧ b < 256

theorem Codes.grown {w w' : World} {c : Nat} {bs : List Int} {k : Nat} {row : Option Nat} (h : Codes w c bs k) (hg : w.grownBy w' row) (hr : ∀ r, row = some r → c < r) : Codes w' c bs k := by
  obtain ⟨A, cap, hb, hs, ha, hk, hn, hv⟩ := h
  have hlt := (Array.getElem?_eq_some_iff.1 hb).1
  refine ⟨A, cap, ?_, hs.grown hg fun h0 ad hA e => ?_, ha, hk, hn, hv⟩
  · rw [hg.block c hlt (fun e => by have := hr c e.symm; omega)]; exact hb
  · have := hr _ e.symm; have := ha h0 ad hA; omega
theorem Codes.ext {w w' : World} {c : Nat} {bs : List Int} {k : Nat} (h : Codes w c bs k) (hg : Ext w w') : Codes w' c bs k :=
  h.grown (row := none) ⟨hg.os, hg.tape, hg.output, hg.size, fun k hk _ => hg.block k hk⟩ (by simp)
theorem Codes.lt {w : World} {c : Nat} {bs : List Int} {k : Nat} (h : Codes w c bs k) : c < w.heap.size := by
  obtain ⟨A, cap, hb, _⟩ := h
  exact (Array.getElem?_eq_some_iff.1 hb).1
theorem Codes.le {w : World} {c : Nat} {bs : List Int} {k : Nat} (h : Codes w c bs k) : k ≤ bs.length := by
  obtain ⟨A, cap, _, _, _, hk, _⟩ := h
  exact hk

theorem cells2 {w : World} {c : Nat} {u v : Value} {t : TypeId} (h : w.heap[c]? = some (.cells #[u, v] t (0, 0))) :
    w.cell? ⟨c, 0, none⟩ = some u ∧ w.cell? ⟨c, 1, none⟩ = some v ∧ w.frozen? ⟨c, 1, none⟩ = false := by
  simp [World.cell?, World.frozen?, h]

set_option maxHeartbeats 400000 in
theorem left_any (c : Nat) (bs : List Int) (k : Nat) (w : World) (h : Codes w c bs k) :
    Calls Try.prog 20 #[.pointer (some ⟨c, 0, none⟩)] w fun e w' => e = .returned (.bool (decide (k < bs.length))) ∧ ∃ n, w' = w.drewN n := by
  obtain ⟨A, cap, hb, hs, ha, hk, hn, hv⟩ := h
  obtain ⟨h0, h1, _⟩ := cells2 hb
  clear hb hv ha
  go_enter Try.func20, Try.ntmps20
  go_wp2
  go_quiet (fail)
  go_wp2
  go_ret
  exact ⟨rfl, _, rfl⟩

/-- a step of the maker: block c alone was written, a choice was used if there was one -/
def Drew (c : Nat) (bs : List Int) (k : Nat) (w w' : World) : Prop :=
  w.grownBy w' (some c) ∧ ∃ k', Codes w' c bs k' ∧ k ≤ k' ∧ (k < bs.length → k < k')
theorem grownBy_trans {a b d : World} {row : Option Nat} (h : a.grownBy b row) (h' : b.grownBy d row) : a.grownBy d row :=
  ⟨h'.os.trans h.os, h'.tape.trans h.tape, h'.output.trans h.output, Nat.le_trans h.size h'.size, fun k hk hne => (h'.block k (Nat.lt_of_lt_of_le hk h.size) hne).trans (h.block k hk hne)⟩
theorem grownBy_ext {a b : World} {row : Option Nat} (h : Ext a b) : a.grownBy b row := ⟨h.os, h.tape, h.output, h.size, fun k hk _ => h.block k hk⟩

/-- a number out of a list of choices -/
def SomeInt (P : Int → Prop) (R : World → Prop) (e : Ending) (w' : World) : Prop := ∃ r : Int, e = .returned (.int .i64 r) ∧ P r ∧ R w'

theorem codes_set {w : World} {c : Nat} {A : Option Addr} {cap n k : Nat} (hb : w.heap[c]? = some (.cells #[.slice A n cap, .int .i64 k] 57 (0, 0))) (x : Value) (a b : Nat) :
    (((w.drewN a).setCell ⟨c, 1, none⟩ x).drewN b).heap[c]? = some (.cells #[.slice A n cap, x] 57 (0, 0)) := by
  simp [World.setCell, World.drewN, Array.getElem?_modify, hb]
theorem codes_grown (w : World) (c : Nat) (x : Value) (a b : Nat) : w.grownBy (((w.drewN a).setCell ⟨c, 1, none⟩ x).drewN b) (some c) := by
  refine ⟨rfl, rfl, rfl, by simp [World.setCell, World.drewN], fun k hk hne => ?_⟩
  have : k ≠ c := fun e => hne (by rw [e])
  exact Below.heap_setCell (w.drewN a) ⟨c, 1, none⟩ x k this

theorem wp_mod (x : Int) (n : Int) (h0 : 0 ≤ x) (hn : 0 < n) : 0 ≤ x % n ∧ x % n < n := ⟨Int.emod_nonneg _ (by omega), Int.emod_lt_of_pos _ hn⟩

set_option maxHeartbeats 800000 in
theorem next_any' (c : Nat) (bs : List Int) (k : Nat) (w : World) (h : Codes w c bs k) (n : Int) (h1n : 1 ≤ n) (hn2 : n ≤ 256) :
    Calls Try.prog 21 #[.pointer (some ⟨c, 0, none⟩), .int .i64 n] w (SomeInt (fun r => 0 ≤ r ∧ r < n) (Drew c bs k w)) := by
  have hC := Lib.hid h
  obtain ⟨A, cap, hb, hs, ha, hk, hn, hv⟩ := h
  by_cases hlt : k < bs.length
  · obtain ⟨h0, h1, hf⟩ := cells2 hb
    have hd : decide (k < bs.length) = true := by simp [hlt]
    have HD := Lib.hid hd
    obtain ⟨b, off, rfl, hbl, hc⟩ := hs.2 (by omega)
    have hbc : b < c := ha (by omega) _ rfl
    have hce := hc k (.int .u8 bs[k]) (by simp [hlt])
    have hvb := hv bs[k] (List.getElem_mem hlt)
    obtain ⟨hv1, hv2⟩ := hvb
    have HB := Lib.hid hb
    have HS := Lib.hid hs
    have HA := Lib.hid ha
    have HV := Lib.hid hv
    have HC := Lib.hid hc
    clear hb hv ha hs hc hd
    go_enter Try.func21, Try.ntmps21
    go_wp2_with fail
    refine (left_any c bs k _ hC.out).mono ?_
    rintro e w1 ⟨rfl, a, rfl⟩
    rw [HD.out]
    go_wp2
    go_quiet (fail)
    go_wp2
    go_ret
    exact ⟨_, rfl, wp_mod _ _ hv1 (by omega), codes_grown w c _ a nq, k + 1, ⟨_, cap, codes_set HB.out _ a nq,
      (HS.out.grown (codes_grown w c (.int .i64 ((k : Int) + 1)) a nq) (fun h0 ad hA e => by have := HA.out h0 ad hA; injection e; omega)), HA.out, hlt, hn, HV.out⟩, by omega, fun _ => by omega⟩
  · have hd : decide (k < bs.length) = false := by simp [hlt]
    have HD := Lib.hid hd
    clear hb hv ha hs hd
    go_enter Try.func21, Try.ntmps21
    go_wp2_with fail
    refine (left_any c bs k _ hC.out).mono ?_
    rintro e w1 ⟨rfl, a, rfl⟩
    rw [HD.out]
    go_wp2
    go_ret
    exact ⟨0, rfl, ⟨Int.le_refl 0, by omega⟩, grownBy_ext (Ext.drewn w a), k, hC.out.ext (Ext.drewn w a), Nat.le_refl _, fun h => absurd h hlt⟩

/-- Go's rest of x and n, made at least 0 -/
def modv (x n : Int) : Int := if x.tmod n < 0 then x.tmod n + n else x.tmod n
theorem tmod_bd (x n : Int) (h : 1 ≤ n) : -n < x.tmod n ∧ x.tmod n < n := by
  by_cases hx : 0 ≤ x
  · rw [Int.tmod_eq_emod_of_nonneg hx]
    have := Int.emod_nonneg x (show n ≠ 0 by omega)
    have := Int.emod_lt_of_pos x (show 0 < n by omega)
    omega
  · have e : x.tmod n = -((-x).tmod n) := by rw [Int.neg_tmod]; omega
    rw [e, Int.tmod_eq_emod_of_nonneg (show 0 ≤ -x by omega)]
    have := Int.emod_nonneg (-x) (show n ≠ 0 by omega)
    have := Int.emod_lt_of_pos (-x) (show 0 < n by omega)
    omega
theorem modv_bd (x n : Int) (h : 1 ≤ n) : 0 ≤ modv x n ∧ modv x n < n := by
  have := tmod_bd x n h
  unfold modv
  split <;> omega

set_option maxHeartbeats 400000 in
theorem mod_any (x n : Int) (w : World) (h1 : 1 ≤ n) (h2 : n ≤ 1099511627776) :
    Calls Try.prog 13 #[.int .i64 x, .int .i64 n] w fun e w' => e = .returned (.int .i64 (modv x n)) ∧ w = w' := by
  have hb := tmod_bd x n h1
  obtain ⟨hb1, hb2⟩ := hb
  by_cases hneg : x.tmod n < 0
  all_goals
    have HM : Hid (modv x n = if x.tmod n < 0 then x.tmod n + n else x.tmod n) := rfl
    go_enter Try.func13, Try.ntmps13
    go_wp2
    go_ret
  · exact ⟨ret_int (by rw [HM.out, if_pos hneg]), rfl⟩
  · exact ⟨ret_int (by rw [HM.out, if_neg (by omega)]), rfl⟩

theorem Seg.take {w : World} {A : Option Addr} {n m : Nat} {xs : List Value} (h : Seg w 1 A n xs) (hm : m ≤ n) : Seg w 1 A m (xs.take m) := by
  refine ⟨by rw [List.length_take, h.1]; omega, fun h0 => ?_⟩
  obtain ⟨b, off, hA, hb, hc⟩ := h.2 (by omega)
  refine ⟨b, off, hA, hb, fun j u hu => hc j u ?_⟩
  rw [List.getElem?_take] at hu
  split at hu
  · exact hu
  · cases hu

/-- the list of choices that a call of New makes -/
def NewPost (w : World) (bs : List Int) (e : Ending) (w' : World) : Prop := e = .returned (.pointer (some ⟨w.heap.size, 0, none⟩)) ∧ Codes w' w.heap.size bs 0 ∧ Ext w w'

theorem codes_new {w : World} {A : Option Addr} {bs : List Int} {cap : Nat} (hs : Seg w 1 A bs.length (bs.map (Value.int .u8))) (hn : bs.length ≤ 1000) (hv : ∀ b ∈ bs, 0 ≤ b ∧ b < 256) :
    Codes (w.alloc (.cells #[.slice A bs.length cap, .int .i64 0] 57)) w.heap.size bs 0 :=
  ⟨A, cap, heap_alloc_new w _, hs.alloc _, fun h0 ad hA => by obtain ⟨b, off, hA', hb, _⟩ := hs.2 h0; rw [hA'] at hA; injection hA with hA; subst hA; exact hb, Nat.zero_le _, hn, hv⟩

set_option maxHeartbeats 400000 in
theorem new_any (A : Option Addr) (cap : Nat) (bs : List Int) (most : Nat) (w : World) (hs : Seg w 1 A bs.length (bs.map (Value.int .u8))) (hcap : bs.length ≤ cap) (hcap2 : cap ≤ maxLen) (hm : most ≤ 1000) (hv : ∀ b ∈ bs, 0 ≤ b ∧ b < 256) :
    Calls Try.prog 11 #[.slice A bs.length cap, .int .i64 most] w (NewPost w (bs.take most)) := by
  unfold maxLen at hcap2
  have HN : Hid (∀ ws : World, ∀ cs : List Int, cs.length = (bs.take most).length → cs = bs.take most → Codes (w.alloc (.cells #[.slice A cs.length cap, .int .i64 0] 57)) w.heap.size cs 0) := by
    intro _ cs _ hcs
    subst hcs
    refine codes_new ?_ (by simp; omega) (fun b hb' => hv b (List.mem_of_mem_take hb'))
    have := hs.take (m := (bs.take most).length) (by simp; omega)
    rw [List.length_take] at this
    rw [List.length_take]
    rw [List.map_take, show (bs.map (Value.int .u8)).take most = (bs.map (Value.int .u8)).take (min most bs.length) from by rw [List.take_eq_take_iff]; simp]
    exact this
  have HV := Lib.hid hv
  have HS := Lib.hid hs
  clear hv hs
  by_cases hlt : most < bs.length
  · have HL : Hid ((bs.take most).length = most) := by unfold Hid; simp; omega
    go_enter Try.func11, Try.ntmps11
    go_wp2
    go_ret
    refine ⟨rfl, ?_, (Ext.refl w).allocs _⟩
    have := HN.out w (bs.take most) rfl rfl
    rw [HL.out] at this
    exact this
  · have HL : Hid (bs.take most = bs) := by unfold Hid; rw [List.take_of_length_le]; omega
    go_enter Try.func11, Try.ntmps11
    go_wp2
    go_ret
    refine ⟨rfl, ?_, (Ext.refl w).allocs _⟩
    have := HN.out w (bs.take most) rfl rfl
    rw [HL.out] at this ⊢
    exact this

theorem Drew.pre {c : Nat} {bs : List Int} {k : Nat} {w w0 w1 : World} (h : Ext w w0) (h1 : Drew c bs k w0 w1) : Drew c bs k w w1 :=
  ⟨grownBy_trans (grownBy_ext h) h1.1, h1.2⟩
theorem Drew.post {c : Nat} {bs : List Int} {k : Nat} {w w0 w1 : World} (h1 : Drew c bs k w w0) (h : Ext w0 w1) : Drew c bs k w w1 := by
  obtain ⟨hg, k', hk, hr⟩ := h1
  exact ⟨grownBy_trans hg (grownBy_ext h), k', hk.ext h, hr⟩
theorem Drew.alloc {c : Nat} {bs : List Int} {k : Nat} {w w0 : World} (h : Drew c bs k w w0) (o : Obj) : Drew c bs k w (w0.alloc o) := h.post ((Ext.refl _).allocs o)
theorem Drew.trans {c : Nat} {bs : List Int} {k k' : Nat} {w w0 w1 : World} (hg : w.grownBy w0 (some c)) (hk : k ≤ k') (hl : k < bs.length → k < k') (h : Drew c bs k' w0 w1) : Drew c bs k w w1 := by
  obtain ⟨hg', k2, hc, h1, h2⟩ := h
  exact ⟨grownBy_trans hg hg', k2, hc, by omega, fun h => by have := hl h; omega⟩

def InI64 (r : Int) : Prop := -9223372036854775808 ≤ r ∧ r ≤ 9223372036854775807
theorem grown_new {w w1 : World} {o : Obj} {c : Nat} (hg : (w.alloc o).grownBy w1 (some c)) (hc : c < w.heap.size) : w1.heap[w.heap.size]? = some o := by
  rw [hg.block w.heap.size (by simp) (by intro e; injection e; omega)]
  exact heap_alloc_new w o

theorem Drew.start {c : Nat} {bs : List Int} {k : Nat} {w : World} (h : Codes w c bs k) (w' : World) (he : Ext w w') : w.grownBy w' (some c) ∧ Codes w' c bs k := ⟨grownBy_ext he, h.ext he⟩
theorem Drew.set {c : Nat} {bs : List Int} {k : Nat} {w w' : World} (h : Drew c bs k w w') {b o : Nat} (hw : w.heap.size ≤ b) (hc : c < w.heap.size) (v : Value) : Drew c bs k w (w'.setCell ⟨b, o, none⟩ v) := by
  obtain ⟨hg, k', hk, hr⟩ := h
  have hg1 : w'.grownBy (w'.setCell ⟨b, o, none⟩ v) (some b) := ⟨rfl, rfl, rfl, by simp [World.setCell], fun j _ hne => Below.heap_setCell _ _ _ _ (fun e => hne (by rw [e]))⟩
  refine ⟨⟨rfl.trans hg.os, rfl.trans hg.tape, rfl.trans hg.output, Nat.le_trans hg.size hg1.size, fun j hj hne => ?_⟩, k', hk.grown hg1 (fun r hr => by injection hr; omega), hr⟩
  rw [← hg.block j hj hne]
  exact hg1.block j (Nat.lt_of_lt_of_le hj hg.size) (fun e => by injection e; omega)

/-- a row of the call's own was written or grew -/
theorem Drew.grown {c : Nat} {bs : List Int} {k : Nat} {w w' w2 : World} {row : Option Nat} (h : Drew c bs k w w') (hg1 : w'.grownBy w2 row) (hr : ∀ r, row = some r → w.heap.size ≤ r) (hc : c < w.heap.size) : Drew c bs k w w2 := by
  obtain ⟨hg, k', hk, hk2⟩ := h
  refine ⟨⟨hg1.os.trans hg.os, hg1.tape.trans hg.tape, hg1.output.trans hg.output, Nat.le_trans hg.size hg1.size, fun j hj hne => ?_⟩, k', hk.grown hg1 (fun r h => by have := hr r h; omega), hk2⟩
  rw [← hg.block j hj hne]
  exact hg1.block j (Nat.lt_of_lt_of_le hj hg.size) (fun e => by have := hr j e.symm; omega)
theorem Drew.own {c : Nat} {bs : List Int} {k : Nat} {w w' w2 : World} {e : TypeId} {size n : Nat} {v : Value} {xs : List Value} (h : Drew c bs k w w') (ho : w'.ownsRow w.heap.size e size v n xs) (hg1 : w'.grownBy w2 v.ownBlock) (hc : c < w.heap.size) : Drew c bs k w w2 :=
  h.grown hg1 (fun r hr => (ho.lt r hr).1) hc

theorem next_on {c : Nat} {bs : List Int} {k : Nat} {w w1 w1' : World} (h : Drew c bs k w w1) (he : Ext w1 w1') (n : Int) (h1n : 1 ≤ n) (hn2 : n ≤ 256) :
    Calls Try.prog 21 #[.pointer (some ⟨c, 0, none⟩), .int .i64 n] w1' (SomeInt (fun r => 0 ≤ r ∧ r < n) (fun w2 => Drew c bs k w w2 ∧ w1'.grownBy w2 (some c))) := by
  obtain ⟨hg, k1, hC, hk, hl⟩ := h.post he
  refine (next_any' c bs k1 w1' hC n h1n hn2).mono ?_
  rintro e w2 ⟨r, rfl, hr, hD⟩
  exact ⟨r, rfl, hr, Drew.trans hg hk hl hD, hD.1⟩

/-- a block that is known whole -/
def Blk (w : World) (g : Nat) (t : TypeId) (cs : Array Value) : Prop := w.heap[g]? = some (.cells cs t (0, 0))
theorem Blk.lt {w : World} {g : Nat} {t : TypeId} {cs : Array Value} (h : Blk w g t cs) : g < w.heap.size := (Array.getElem?_eq_some_iff.1 h).1
theorem Blk.cell {w : World} {g : Nat} {t : TypeId} {cs : Array Value} (h : Blk w g t cs) (i : Nat) : w.cell? ⟨g, i, none⟩ = cs[i]? := by
  unfold Blk at h; simp [World.cell?, h]
theorem Blk.frozen {w : World} {g : Nat} {t : TypeId} {cs : Array Value} (h : Blk w g t cs) (i : Nat) : w.frozen? ⟨g, i, none⟩ = false := by
  unfold Blk at h; simp [World.frozen?, h]
theorem Blk.new (w : World) (t : TypeId) (cs : Array Value) : Blk (w.alloc (.cells cs t)) w.heap.size t cs := heap_alloc_new w _
theorem Blk.grown {w w' : World} {g c : Nat} {t : TypeId} {cs : Array Value} (h : Blk w g t cs) (hg : w.grownBy w' (some c)) (hne : c < g) : Blk w' g t cs :=
  (hg.block g h.lt (fun e => by injection e; omega)).trans h
theorem Blk.ext {w w' : World} {g : Nat} {t : TypeId} {cs : Array Value} (h : Blk w g t cs) (hg : Ext w w') : Blk w' g t cs := (hg.block g h.lt).trans h

/-! ### arguments -/
section
variable {H : Type} {enc : TypeId × Value → H} {w : World} {base : Nat} {spare : Nat → Bool} {held : Bool}
theorem u8_bd {z : Int} (h : (Lit.int .u8 z).wf = true) : 0 ≤ z ∧ z < 256 := by
  have := Go.bounds_u8 h
  omega
theorem open_bytes {a : Option Addr} {len cap : Nat} {d : DataW H} {p : List MemPlace} (h : DataW.Trod enc Try.prog w base spare held 23 (.slice a len cap) d p) :
    ∃ bs : List Int, len = bs.length ∧ Seg w 1 a bs.length (bs.map (Value.int .u8)) ∧ len ≤ cap ∧ cap ≤ maxLen ∧ ∀ b ∈ bs, 0 ≤ b ∧ b < 256 := by
  obtain ⟨fuel, hf⟩ := h
  obtain ⟨css, hl, hs, h1, h2, hc⟩ := open_seg 1 Try.underlying23 (by kernel_rfl) (by omega) (show DataW.trod enc Try.prog w base spare held fuel 23 [.slice a len cap] = some (d, p) from hf)
  obtain ⟨bs, rfl, hb⟩ := lift_all' (fun z : Int => [Value.int .u8 z]) (fun z => 0 ≤ z ∧ z < 256) css (fun cs hcs => by
    obtain ⟨_, n, y, hy⟩ := hc cs hcs
    obtain ⟨z, rfl, _, hz⟩ := DataW.trod_int Try.underlying5 hy
    exact ⟨z, rfl, u8_bd hz⟩)
  rw [List.length_map] at hl
  subst hl
  refine ⟨bs, rfl, ?_, h1, h2, hb⟩
  have e : (bs.map fun z : Int => [Value.int .u8 z]).flatten = bs.map (Value.int .u8) := by
    clear hs hb h1 hf hc
    induction bs with
    | nil => rfl
    | cons b bs ih => simpa using ih
  rw [e] at hs
  exact hs
end
end Go.Proofs.Ytooegndajfopkaa
