/- The walk of the law DeterminantGrows. -/
import Derived.Test.YthadaahemhamdaaAwake27t
import Derived.Test.YthadaahemhamdaaScene27
import Derived.Test.YthadaahemhamdaaArgs27
import Derived.Test.YthadaahemhamdaaGrows1
namespace Go.Proofs.Ythadaahemhamdaa
open Go.RowKit
set_option linter.unusedVariables false

/-- append of a slice of numbers -/
theorem wpList_catI {ops : Array Oper} {rest : List Oper} {o : Oper} {ac : Act} {Q : Exit → Act → World → Prop} (w : World) (hgd : o.guard = none) (s x : Operand) (ho : o.op = .call { callee := .builtin .append, args := #[s, x], argTypes := #[23, 23] })
    (base : Nat) (v : Value) (a b : List Int) (hs : ac.eval s = v) (hown : w.ownsRow base 3 1 v a.length (a.flatMap Iv)) (B : Option Addr) (c : Nat) (hx : ac.eval x = .slice B b.length c) (hb : IntSeg w B b) (hl : a.length + b.length ≤ 2000) (hbase : base ≤ w.heap.size)
    (h : ∀ v' w', w'.ownsRow base 3 1 v' (a ++ b).length ((a ++ b).flatMap Iv) → w.grownBy w' v.ownBlock → wpList Try.prog ops Q rest (ac.put o.dst v') w') : wpList Try.prog ops Q (o :: rest) ac w := by
  refine wpList_plain hgd fun K hK => ?_
  obtain ⟨i0, hi, hz0, hz1, hz2⟩ := info_parts (show (Try.prog.info? 3).map (fun i => (i.zero, i.size, i.bytes)) = some (some (.int .i64 0), 1, 8) by kernel_rfl)
  have hr : ∃ v' w', (Builtin.append_ #[23, 23] o.type #[v, .slice B b.length c]).run Try.prog w = .ok v' w' ∧ w'.ownsRow base 3 1 v' (a ++ b).length ((a ++ b).flatMap Iv) ∧ w.grownBy w' v.ownBlock := by
    cases B with
    | none =>
      have hl0 : b = [] := by
        cases b with
        | nil => rfl
        | cons x b =>
          obtain ⟨_, _, h, _⟩ := hb.2 (by simp)
          cases h
      subst hl0
      obtain ⟨A, cA, rfl, _, hle, _⟩ := own_slice hown
      refine ⟨_, _, run_append_nothing w _ _ o.type _ i0 Try.underlying23 hi A a.length cA hle _ (Src.ofNil w Try.underlying23 c), by rw [List.append_nil]; exact hown, ext_grown (Ext.refl w) _⟩
    | some ad =>
      have hnews : ∀ k u, (b.flatMap Iv)[k]? = some u → w.cell? (ad.add k) = some u := by
        intro k u hu
        have hk := (List.getElem?_eq_some_iff.1 hu).1
        rw [flat_len Iv 1 Iv.len] at hk
        obtain ⟨x, off, h, _, hc⟩ := hb.2 (by omega)
        injection h with h
        subst h
        have hadd : (⟨x, off, none⟩ : Addr).add k = ⟨x, off + k, none⟩ := by unfold Addr.add; split <;> simp_all
        rw [hadd]
        exact hc k u hu
      obtain ⟨v', w', hr, h2, h3, _, _⟩ := run_append_own_at (P := Try.prog) w base _ o.type _ i0 _ 1 8 Try.underlying23 hi hz0 hz1 hz2 rfl (by omega) v a.length _ hown ad b.length c (b.flatMap Iv) (flat_len Iv 1 Iv.len b) hnews (fun u hu => by obtain ⟨z, _, hz⟩ := List.mem_flatMap.1 hu; exact Iv.one z u hz) (by unfold maxLen; omega) (by omega) hbase
      exact ⟨v', w', hr, by rw [List.length_append, List.flatMap_append]; exact h2, h3⟩
  obtain ⟨v', w', hr, h2, h3⟩ := hr
  unfold Oper.wp execOp
  simp only [ho, resolve, invoke, builtin, Sem.run_bind, Sem.run_pure, Result.andThen_ok, List.map_toArray, List.map_cons, List.map_nil, hs, hx, hr]
  exact hK _ _ (h v' w' h2 h3)
set_option maxRecDepth 100000 in
set_option maxHeartbeats 1600000 in
theorem grows_walk (a0 : Option Addr) (cap0 : Nat) (bs : List Int) (a1 : Option Addr) (cap1 : Nat) (more : List Dt) (x2 : Int) (w : World)
    (h0 : Seg w 1 a0 bs.length (bs.map (Value.int .u8)) ∧ bs.length ≤ cap0 ∧ cap0 ≤ maxLen ∧ ∀ b ∈ bs, 0 ≤ b ∧ b < 256) (h1 : DtSeg w a1 more ∧ more.length ≤ cap1 ∧ cap1 ≤ maxLen ∧ ∀ d ∈ more, d.ok) (hx2 : (Lit.int .i64 x2).wf = true) :
    Calls Try.prog 7 #[.slice a0 bs.length cap0, .slice a1 more.length cap1, .int .i64 x2] w fun e w' => e = .returned (.bool true) ∧ Below w.heap.size w w' := by
  obtain ⟨hs0, hc0, hm0, hok0⟩ := h0
  obtain ⟨hs1, hc1, hm1, hok1⟩ := h1
  have O0 := Lib.hid hok0
  have O1 := Lib.hid hok1
  clear hok0 hok1 hx2
  have hm1' := hm1
  unfold maxLen at hm1'
  by_cases l1 : 60 < more.length
  · have d1 : decide ((60 : Int) < (more.length : Int)) = true := decide_eq_true (by omega)
    go_enter Try.func7, Try.ntmps7
    go_wp2_with fail
    refine (awake_any w).mono ?_
    rintro e w1 ⟨rfl, hE⟩
    go_wp2_with fail
    go_ret
    exact ⟨rfl, hE⟩
  have d1 : decide ((60 : Int) < (more.length : Int)) = false := decide_eq_false (by omega)
  go_enter Try.func7, Try.ntmps7
  go_wp2_with fail
  refine (awake_any w).mono ?_
  rintro e w1 ⟨rfl, hE1⟩
  go_wp2_with fail
  refine (scene_any a0 cap0 bs w1 (hs0.ext hE1) hc0 hm0 O0.out).mono ?_
  rintro e w2 ⟨p, es, ck, st, Ae, Ac, As, ce, cc, cs, rfl, he, hc, hst, hp, _, ok1, ok2, ok3, n1, n2, n3, _, _, hE2⟩
  have P1 := Lib.hid ok1
  have P2 := Lib.hid ok2
  have P3 := Lib.hid ok3
  have HP := Lib.hid hp
  have hX2 := Ext.trans hE1 hE2
  have hmr := hs1.ext hX2
  clear ok1 ok2 ok3 hp hE1 hE2 hs0 hs1 O0
  go_wp2_with fail
  refine (rest_sl Ae Ac As ce cc cs p es ck st w2 he hc hst HP.out P1.out P2.out P3.out (by omega) (by omega) (by omega)).mono ?_
  rintro e w3 ⟨v3, rfl, hown3, hE3⟩
  obtain ⟨A3, c3, rfl, hs3, _, _⟩ := own_slice hown3
  have he3 := he.ext hE3
  have hc3 := hc.ext hE3
  have hst3 := hst.ext hE3
  have hmr3 := hmr.ext hE3
  have hX3 := Ext.trans hX2 hE3
  clear hown3 hE3 hX2 he hc hst hmr
  have hn1 : (es.length : Int) ≤ 12 := by omega
  go_wp2_with fail
  refine (mod_any x2 ((es.length : Int) + 1) w3 (by omega) (by omega)).mono ?_
  rintro e w' ⟨rfl, rfl⟩
  have hk := modv_bd x2 ((es.length : Int) + 1) (by omega)
  generalize modv x2 ((es.length : Int) + 1) = k at *
  have HG := Lib.hid (grow_all p es ck st more k hk)
  have hkI : InI64 k := by unfold InI64; omega
  have hr1 := restTo_len ck st (linV p es) (es.length + 1)
  have hr2 := restTo_len (ck ++ [k]) (stockV (st ++ more)) (linV p es) (es.length + 1)
  have hr1' : (restV p es ck st).length ≤ 13 := by unfold restV; omega
  have hr2' : (restV p es (ck ++ [k]) (stockV (st ++ more))).length ≤ 13 := by unfold restV; omega
  have hsl := stock_lenG (st ++ more)
  rw [List.length_append] at hsl
  have HOK : Hid (∀ d ∈ stockV (st ++ more), d.ok) := fun d hd => by
    rcases List.mem_append.1 ((stock_mem _ d).1 hd) with h | h
    · exact P3.out d h
    · exact O1.out d h
  have HCK : Hid (∀ c ∈ ck ++ [k], InI64 c) := fun c hc => by
    rcases List.mem_append.1 hc with h | h
    · exact P2.out c h
    · rw [List.mem_singleton.1 h]; exact hkI
  have HM := Lib.hid (fun W h h' => merge_any As a1 cs cap1 st more W h h' (by omega) (by omega))
  clear hr1 hr2 hk hkI
  obtain ⟨SS, hSS⟩ : ∃ SS, stockV (st ++ more) = SS := ⟨_, rfl⟩
  rw [hSS] at HG hr2' hsl HOK HM
  clear hSS
  obtain ⟨CK, hCK⟩ : ∃ CK, ck ++ [k] = CK := ⟨_, rfl⟩
  have HCKE := Lib.hid hCK
  have hCKl : CK.length ≤ 15 := by rw [← hCK, List.length_append]; simp; omega
  rw [hCK] at HG hr2' HCK
  clear hCK
  have HNIL := Lib.hid (own_nil w3 w3.heap.size 3 1 Iv)
  go_wp2_with (at_builtin; first | (refine wpList_catI w3 rfl _ _ rfl w3.heap.size _ [] ck rfl HNIL.out Ac cc rfl hc3 (by simp; omega) (Nat.le_refl _) ?_; intro vA wA hownA hgA; have hszA := hgA.size) | (refine wpList_push Iv 1 8 Iv.len Iv.one (by omega) rfl _ _ _ rfl w3.heap.size 3 Try.underlying23 (by kernel_rfl) vA ([] ++ ck) k rfl hownA rfl (by unfold maxLen; simp; omega) (by simp; omega) hszA ?_; intro vB wB hownB hgB))
  have hEA : Ext w3 wA := Ext.of_grown (v := .slice none 0 0) rfl hgA
  have hEB : Ext w3 wB := Ext.own hEA hownA (Nat.le_refl _) hgB
  rw [List.nil_append, HCKE.out] at hownB
  obtain ⟨AB, cB, rfl, hsB, _, _⟩ := own_slice hownB
  clear hownB hownA hgA hgB hEA HNIL
  refine (HM.out wB (hst3.ext hEB) (hmr3.ext hEB)).mono ?_
  rintro e w5 ⟨A5, c5, rfl, hs5, _, _, hE5⟩
  have hEB5 := Ext.trans hEB hE5
  have HRS := Lib.hid (rest_sl Ae AB A5 ce cB c5 p es CK SS w5 (he3.ext hEB5) (hsB.ext hE5) hs5 HP.out P1.out HCK.out HOK.out (by omega) (by omega) (by omega))
  generalize restV p es CK SS = R2 at *
  generalize restV p es ck st = R1 at *
  go_wp2_with fail
  refine HRS.out.mono ?_
  rintro e w6 ⟨v6, rfl, hown6, hE6⟩
  obtain ⟨A6, c6, rfl, hs6, _, _⟩ := own_slice hown6
  have hE36 := Ext.trans hEB5 hE6
  clear hown6
  go_wp2_with fail
  refine (part_all A3 A6 c3 c6 R1 R2 w6 (hs3.ext hE36) hs6 (by omega) (by omega) HG.out.1).mono ?_
  rintro e w7 ⟨rfl, hE7⟩
  have hB := Blk.new w7 3 #[.int .i64 k]
  have hs1 : IntSeg (w7.alloc (.cells #[.int .i64 k] 3)) (some ⟨w7.heap.size, 0, none⟩) [k] := by
    refine ⟨rfl, fun _ => ⟨w7.heap.size, 0, rfl, hB.lt, fun j u hu => ?_⟩⟩
    rw [Nat.zero_add, hB.cell]
    simpa [Iv] using hu
  have HPA := Lib.hid (part_all (some ⟨w7.heap.size, 0, none⟩) A6 1 c6 [k] R2 (w7.alloc (.cells #[.int .i64 k] 3)) hs1 ((hs6.ext hE7).alloc _) (by simp) (by omega) (fun x hx => by rw [List.mem_singleton.1 hx]; exact HG.out.2))
  clear hB hs1
  go_wp2_with fail
  refine HPA.out.mono ?_
  rintro e w8 ⟨rfl, hE8⟩
  go_wp2_with fail
  go_ret
  exact ⟨rfl, Ext.trans hX3 (Ext.trans hE36 (Ext.trans hE7 (Ext.trans ((Ext.refl w7).allocs _) hE8)))⟩
end Go.Proofs.Ythadaahemhamdaa
