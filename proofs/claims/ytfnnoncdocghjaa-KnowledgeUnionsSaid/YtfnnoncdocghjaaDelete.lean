/- slices.Delete of one message. No statement of the seat is proved here. -/
import Derived.Test.YtfnnoncdocghjaaCmpMem
import Derived.StillTailTactics
namespace Go.Proofs.Ytfnnoncdocghjaa
open Go.RowKit
set_option linter.unusedVariables false
set_option linter.unusedSimpArgs false
set_option maxRecDepth 100000

abbrev zeroMg : Value := .agg #[.int .i64 0, .int .i64 0, .int .i64 0, .int .i64 0, .int .i64 0, .slice none 0 0]
theorem info_mg : (Try.prog.info? 104).map (fun i => (i.zero, i.size, i.bytes)) = some (some zeroMg, 6, 64) := by kernel_rfl
theorem run_pre_mg (w : World) (g n cap hi : Nat) (hh : hi ≤ cap) (hc : 0 < cap) : (Instr.slice 83 (.slice (some ⟨g, 0, none⟩) n cap) none (some (.int .i64 (hi : Int))) none).run Try.prog w = .ok (.slice (some ⟨g, 0, none⟩) hi cap) w := by
  obtain ⟨i0, hi0, hz0, hz1, hz2⟩ := info_parts info_mg
  have h3 : (hi : Int) ≤ (cap : Int) := by omega
  have h4 : (0 : Int) ≤ (hi : Int) := by omega
  simp [Instr.slice, Instr.sliceBounds, run_underlying Try.underlying83, go_sem, sizeOf, typeInfo, hi0, h3, h4]
def sufA (g cap lo : Nat) : Addr := if cap = lo then ⟨g, 0, none⟩ else ⟨g, lo * 6, none⟩
theorem run_suf_mg (w : World) (g n cap lo m : Nat) (li : Int) (hli : li = lo) (hh : n = lo + m) (hc : n ≤ cap) : (Instr.slice 83 (.slice (some ⟨g, 0, none⟩) n cap) (some (.int .i64 li)) none none).run Try.prog w = .ok (.slice (some (sufA g cap lo)) m (cap - lo)) w := by
  subst hli
  obtain ⟨i0, hi0, hz0, hz1, hz2⟩ := info_parts info_mg
  have h5 : (0 : Int) ≤ (lo : Int) := by omega
  have h6 : (lo : Int) ≤ (n : Int) := by omega
  have h7 : n - lo = m := by omega
  unfold sufA
  by_cases he : cap = lo
  · simp [Instr.slice, Instr.sliceBounds, run_underlying Try.underlying83, go_sem, sizeOf, typeInfo, hi0, h5, h6, he, h7]
  · simp [Instr.slice, Instr.sliceBounds, run_underlying Try.underlying83, go_sem, sizeOf, typeInfo, hi0, h5, h6, he, hz1, h7]
theorem run_mid_mg (w : World) (g n cap lo hi : Nat) (li hj : Int) (hli : li = lo) (hhj : hj = hi) (hh : lo ≤ hi) (hc : hi ≤ cap) (hlt : lo < cap) : (Instr.slice 83 (.slice (some ⟨g, 0, none⟩) n cap) (some (.int .i64 li)) (some (.int .i64 hj)) none).run Try.prog w = .ok (.slice (some ⟨g, lo * 6, none⟩) (hi - lo) (cap - lo)) w := by
  subst hli hhj
  obtain ⟨i0, hi0, hz0, hz1, hz2⟩ := info_parts info_mg
  have h3 : (hi : Int) ≤ (cap : Int) := by omega
  have h5 : (0 : Int) ≤ (lo : Int) := by omega
  have h6 : (lo : Int) ≤ (hi : Int) := by omega
  have he : ¬ cap = lo := by omega
  simp [Instr.slice, Instr.sliceBounds, run_underlying Try.underlying83, go_sem, sizeOf, typeInfo, hi0, h3, h5, h6, he, hz1]
  intro h; omega
theorem run_three_mg (w : World) (g n cap lo hi mx : Nat) (li hj mj : Int) (hli : li = lo) (hhj : hj = hi) (hmj : mj = mx) (hh : lo ≤ hi) (h2 : hi ≤ mx) (hc : mx ≤ cap) : ∃ v, (Instr.slice 83 (.slice (some ⟨g, 0, none⟩) n cap) (some (.int .i64 li)) (some (.int .i64 hj)) (some (.int .i64 mj))).run Try.prog w = .ok v w := by
  subst hli hhj hmj
  obtain ⟨i0, hi0, hz0, hz1, hz2⟩ := info_parts info_mg
  have h3 : (mx : Int) ≤ (cap : Int) := by omega
  have h4 : (0 : Int) ≤ (mx : Int) := by omega
  have h5 : (0 : Int) ≤ (lo : Int) := by omega
  have h6 : (lo : Int) ≤ (hi : Int) := by omega
  have h7 : (hi : Int) ≤ (mx : Int) := by omega
  have h8 : (0 : Int) ≤ (hi : Int) := by omega
  simp [Instr.slice, Instr.sliceBounds, run_underlying Try.underlying83, go_sem, sizeOf, typeInfo, hi0, h3, h4, h5, h6, h7, h8, hz1]
  rw [if_pos h2, if_pos hh]
  exact ⟨_, rfl⟩
theorem run_append_mg (w : World) (ty : TypeId) (g cap i m : Nat) (cur : Array Value) (F : List MgR) (hh : w.heap[g]? = some (.cells cur 104 (0, 0))) (hs : cur.size = cap * 6) (hl : F.length = i + 1 + m) (hc : F.length ≤ cap) (ht : cur.toList.take (F.length * 6) = F.flatMap MgR.cells)
    (A : Addr) (c : Nat) (hA : 0 < m → A = ⟨g, (i + 1) * 6, none⟩) :
    ∃ cur' : Array Value, (Builtin.append_ #[83, 83] ty #[.slice (some ⟨g, 0, none⟩) i cap, .slice (some A) m c]).run Try.prog w = .ok (.slice (some ⟨g, 0, none⟩) (i + m) cap) (w.setRow g cur') ∧ cur'.size = cap * 6 ∧ cur'.toList.take ((i + m) * 6) = (F.eraseIdx i).flatMap MgR.cells := by
  obtain ⟨i0, hi0, hz0, hz1, hz2⟩ := info_parts info_mg
  have hfl := flat_len MgR.cells 6 MgR.len F
  have hnl : ((F.drop (i + 1)).flatMap MgR.cells).length = m * i0.size := by rw [flat_len MgR.cells 6 MgR.len, List.length_drop, hz1, hl]; omega
  have hcur : ∀ q, q < F.length * 6 → cur[q]? = (F.flatMap MgR.cells)[q]? := fun q hq => by
    rw [← ht, List.getElem?_take_of_lt hq, Array.getElem?_toList]
  have hfd : ∀ k, k ≤ F.length → F.flatMap MgR.cells = (F.take k).flatMap MgR.cells ++ (F.drop k).flatMap MgR.cells := fun k _ => by rw [← List.flatMap_append, List.take_append_drop]
  have hr := run_append_room (P := Try.prog) w 83 ty 104 i0 Try.underlying83 hi0 g i cap cur hh A m c ((F.drop (i + 1)).flatMap MgR.cells) hnl (fun j u hu => by
    have hj := (List.getElem?_eq_some_iff.1 hu).1
    rw [hnl, hz1] at hj
    have hm : 0 < m := by omega
    rw [hA hm]
    have ha : (⟨g, (i + 1) * 6, none⟩ : Addr).add j = ⟨g, (i + 1) * 6 + j, none⟩ := by unfold Addr.add; split <;> simp_all
    rw [ha]
    simp only [World.cell?, hh]
    rw [hcur _ (by omega), hfd (i + 1) (by omega), List.getElem?_append_right (by rw [flat_len MgR.cells 6 MgR.len, List.length_take]; omega), flat_len MgR.cells 6 MgR.len, List.length_take, Nat.min_eq_left (by omega), show (i + 1) * 6 + j - (i + 1) * 6 = j by omega]
    simpa using hu) (fun u hu => by
    obtain ⟨x, _, hx⟩ := List.mem_flatMap.1 hu
    exact MgR.one x u hx) (by omega) (by rw [hnl, hz1, hs]; omega)
  refine ⟨_, hr, ?_, ?_⟩
  · rw [hz1] at hnl ⊢
    simp only [List.size_toArray, List.length_append, List.length_take, List.length_drop, Array.length_toList, hnl, hs]
    omega
  · rw [hz1] at hnl ⊢
    have e1 : cur.toList.take (i * 6) = (F.take i).flatMap MgR.cells := by
      have e2 : cur.toList.take (i * 6) = (cur.toList.take (F.length * 6)).take (i * 6) := by rw [List.take_take, Nat.min_eq_left (by omega)]
      rw [e2, ht, hfd i (by omega)]
      have hA : ((F.take i).flatMap MgR.cells).length = i * 6 := by rw [flat_len MgR.cells 6 MgR.len, List.length_take, Nat.min_eq_left (by omega)]
      rw [← hA]; exact List.take_left
    have hlen : (cur.toList.take (i * 6) ++ (F.drop (i + 1)).flatMap MgR.cells).length = (i + m) * 6 := by rw [List.length_append, List.length_take, Array.length_toList, hnl, hs]; omega
    rw [List.toList_toArray, ← hlen, List.take_left, e1, ← List.flatMap_append, List.eraseIdx_eq_take_drop_succ]
theorem run_clear_mg (w : World) (ty : TypeId) (g k c : Nat) (hc : ∀ j, j < 6 → (w.cell? ⟨g, k * 6 + j, none⟩).isSome = true) (hf : ∀ j, j < 6 → w.frozen? ⟨g, k * 6 + j, none⟩ = false) :
    ∃ zs : List Value, zs.length = 6 ∧ (Builtin.clear_ #[83] ty #[.slice (some ⟨g, k * 6, none⟩) 1 c]).run Try.prog w = .ok (.tuple #[]) (w.setCells g (k * 6) zs) := by
  obtain ⟨i0, hi, hz0, hz1, hz2⟩ := info_parts info_mg
  have hv : ∀ w, (zeroValue 104).run Try.prog w = .ok zeroMg w := fun w => by simp [zeroValue, typeInfo, hi, hz0]
  have hzl : (Builtin.zeroCells zeroMg.cells 1).toList.length = 6 := by simp [Builtin.zeroCells, Value.cells]
  have ho : ∀ u ∈ (Builtin.zeroCells zeroMg.cells 1).toList, u.oneCell' = true := by
    intro u hu
    unfold Builtin.zeroCells at hu
    simp only [Array.toList_map, List.mem_map] at hu
    obtain ⟨i, _, rfl⟩ := hu
    generalize hq : i % zeroMg.cells.size = q
    have hlt : q < 6 := by rw [← hq]; exact Nat.mod_lt _ (by decide)
    have : q = 0 ∨ q = 1 ∨ q = 2 ∨ q = 3 ∨ q = 4 ∨ q = 5 := by omega
    rcases this with rfl | rfl | rfl | rfl | rfl | rfl <;> rfl
  generalize hzs : (Builtin.zeroCells zeroMg.cells 1).toList = zs at ho hzl
  have hst := run_storeCells_cells (P := Try.prog) g (k * 6) zs 0 w (fun j hj => by rw [Nat.add_zero]; exact hc j (by omega)) (fun j hj => by rw [Nat.add_zero]; exact hf j (by omega)) ho
  simp only [Nat.add_zero] at hst
  exact ⟨zs, hzl, by simp [Builtin.clear_, run_underlying Try.underlying83, hv, hzs, hst]⟩
theorem grown_setRow (w : World) (g : Nat) (cs : Array Value) : w.grownBy (w.setRow g cs) (some g) := ⟨rfl, rfl, rfl, by simp, fun k _ hne => setRow_other w g k cs (fun e => hne (by rw [e]))⟩
theorem take_setAll (vs xs : List Value) (o k : Nat) (h : k ≤ o) : (setAll xs o vs).take k = xs.take k := by
  apply List.ext_getElem?
  intro q
  rw [List.getElem?_take, List.getElem?_take]
  by_cases hq : q < k
  · rw [if_pos hq, if_pos hq, setAll_get, if_neg (by omega)]
  · rw [if_neg hq, if_neg hq]
theorem step_append_run {P : Program} {w w' : World} {ops : Array Oper} {o : Oper} {a : Act} {K : Act → World → Prop} {Q : Exit → Act → World → Prop} {E : Prop} (hgd : o.guard = none) (so xo : Operand) (t : TypeId)
    (ho : o.op = .call { callee := .builtin .append, args := #[so, xo], argTypes := #[t, t] }) (s x v : Value) (hs : a.eval so = s) (hx : a.eval xo = x) (hr : (Builtin.append_ #[t, t] o.type #[s, x]).run P w = .ok v w') (h : K (a.put o.dst v) w') :
    if Region.wanted o (yielded ops a.tmps) = true then Oper.wp P o a w K Q else E := by
  have hw : Region.wanted o (yielded ops a.tmps) = true := by simp [Region.wanted, hgd]
  rw [if_pos hw]
  unfold Oper.wp execOp
  simp only [ho, resolve, invoke, builtin, Sem.run_bind, Sem.run_pure, Result.andThen_ok, List.map_toArray, List.map_cons, List.map_nil, hs, hx, hr]
  exact h
set_option maxHeartbeats 1600000 in
theorem delete_any (W : World) (base g cap i m : Nat) (F : List MgR) (h : FlM MgR.cells 6 104 W base (some ⟨g, 0, none⟩) cap F) (hl : F.length = i + 1 + m) (hn : F.length ≤ 256) :
    Calls Try.prog 66 #[.slice (some ⟨g, 0, none⟩) F.length cap, .int .i64 i, .int .i64 ((i : Int) + 1)] W (fun e w' => e = .returned (.slice (some ⟨g, 0, none⟩) (i + m) cap) ∧ FlM MgR.cells 6 104 w' base (some ⟨g, 0, none⟩) cap (F.eraseIdx i) ∧ W.grownBy w' (some g)) := by
  obtain ⟨cur, hb, hh, hc, hcm, hs, ht⟩ : ∃ cur : Array Value, base ≤ g ∧ W.heap[g]? = some (.cells cur 104 (0, 0)) ∧ F.length ≤ cap ∧ cap ≤ maxLen ∧ cur.size = cap * 6 ∧ cur.toList.take (F.length * 6) = F.flatMap MgR.cells := by
    rcases h.r.2 with ⟨hv, _⟩ | ⟨g', cap', cur, hv, h1, h2, h3, h4, h5, h6⟩
    · injection hv with hv; cases hv
    · injection hv with hv _ hv2
      injection hv with hv
      injection hv with hv
      subst hv hv2
      exact ⟨cur, h1, h2, h3, h4, h5, h6⟩
  have H := Lib.hid h
  have hhd : W.drew.heap[g]? = some (.cells cur 104 (0, 0)) := hh
  obtain ⟨v3, r3⟩ := run_three_mg W g F.length cap i (i + 1) F.length i ((i : Int) + 1) F.length rfl (by omega) rfl (by omega) (by omega) hc
  have r1 := fun w => run_pre_mg w g F.length cap i (by omega) (by omega)
  have r2 := fun w => run_suf_mg w g F.length cap (i + 1) m ((i : Int) + 1) (by omega) (by omega) hc
  obtain ⟨cur1, r4, hs1, ht1⟩ := run_append_mg W.drew 83 g cap i m cur F hhd hs hl hc ht (sufA g cap (i + 1)) (cap - (i + 1)) (fun h0 => by unfold sufA; rw [if_neg (by omega)])
  have hW1 : (W.drew.setRow g cur1).heap[g]? = some (.cells cur1 104 (0, 0)) := setRow_heap W.drew g cur cur1 _ _ hhd
  have hG1 : W.grownBy (W.drew.setRow g cur1) (some g) := grownBy_trans (grownBy_ext (Below.drew (Ext.refl W))) (grown_setRow W.drew g cur1)
  generalize W.drew.setRow g cur1 = W1 at r4 hW1 hG1
  have r5 := run_mid_mg W1 g (i + m) cap (i + m) F.length ((i : Int) + m) F.length (by omega) rfl (by omega) hc (by omega)
  rw [show F.length - (i + m) = 1 by omega] at r5
  obtain ⟨zs, hz6, r6⟩ := run_clear_mg W1 0 g (i + m) (cap - (i + m)) (fun j hj => by simp only [World.cell?, hW1]; rw [Array.getElem?_eq_getElem (by rw [hs1]; omega)]; rfl) (fun j hj => by simp [World.frozen?, hW1])
  have hE : (W1.setCells g ((i + m) * 6) zs).heap[g]? = some (.cells (setAll cur1.toList ((i + m) * 6) zs).toArray 104 (0, 0)) := heap_sets zs _ W1 cur1.toList (by simpa using hW1)
  have hG2 : W.grownBy (W1.setCells g ((i + m) * 6) zs) (some g) := grownBy_trans hG1 (grownRow_sets W1 g _ zs)
  have hel : (F.eraseIdx i).length = i + m := by rw [List.length_eraseIdx, if_pos (by omega)]; omega
  have HR : Hid (FlM MgR.cells 6 104 (W1.setCells g ((i + m) * 6) zs) base (some ⟨g, 0, none⟩) cap (F.eraseIdx i)) := by
    refine ⟨⟨flat_len MgR.cells 6 MgR.len _, .inr ⟨g, cap, _, rfl, hb, hE, by omega, hcm, by rw [List.size_toArray, setAll_len, Array.length_toList]; exact hs1, ?_⟩⟩, fun x hx => own_typed (H.out.k x (List.mem_of_mem_eraseIdx hx)) hG2 (TyRow.own (v := .slice (some ⟨g, 0, none⟩) F.length cap) H.out.r (by decide))⟩
    rw [List.toList_toArray, hel, take_setAll _ _ _ _ (Nat.le_refl _)]
    exact ht1
  have HG := Lib.hid hG2
  clear hE hG1 hG2 hhd hh
  have hFm : F.length - (i + 1) = m := by omega
  have hic : i ≤ cap := by omega
  have hq1 : (0 : Int) ≤ (i : Int) + 1 := by omega
  have hq0 : (i : Int) ≤ (i : Int) + 1 := by omega
  have hq2 : (i : Int) + 1 ≤ (F.length : Int) := by omega
  have HL := Lib.hid hl
  clear hl r1 r2
  by_cases hce : cap = i + 1
  · subst hce
    rw [show sufA g (i + 1) (i + 1) = ⟨g, 0, none⟩ by unfold sufA; rw [if_pos rfl]] at r4
    have hcc : i + 1 - (i + 1) = 0 := by omega
    rw [hcc] at r4
    clear hcc
    go_enter Try.func66, Try.ntmps66
    go_wp2_with fail
    refine wp_region_sched (by kernel_rfl) 6 [(0, true), (1, true), (2, true), (3, true), (4, true), (5, true), (6, false), (7, false)] (fun _ => True) (by kernel_rfl) (fun _ _ dd _ _ h => by cases dd <;> exact h) trivial (fun hHeld => ?_)
    iterate 6 ((refine sched_read (v := ?_) rfl (Or.inl ⟨by rfl, ?_⟩) hHeld ?_; rotate_left 1; · (intro w' hSw; go_simp; (first | done | with_reducible rfl))); (try simp only [Act.put, List.setIfInBounds_toArray, List.set_cons_zero, List.set_cons_succ]))
    refine sched_tail rfl (by decide) (fun K hK => ?_)
    refine step_append_run rfl _ _ _ rfl _ _ _ rfl rfl r4 ?_
    refine hK.out _ _ ?_
    clear hK K
    try simp only [Act.put, List.setIfInBounds_toArray, List.set_cons_zero, List.set_cons_succ]
    refine sched_tail rfl (by decide) (fun K hK => ?_)
    go_simp
    refine hK.out _ _ ?_
    clear hK K
    try simp only [Act.put, List.setIfInBounds_toArray, List.set_cons_zero, List.set_cons_succ]
    refine sched_done ?_
    go_wp2_with fail
    go_ret
    exact ⟨rfl, HR.out, HG.out⟩
  · rw [show sufA g cap (i + 1) = ⟨g, (i + 1) * 6, none⟩ by unfold sufA; rw [if_neg hce]] at r4
    go_enter Try.func66, Try.ntmps66
    go_wp2_with fail
    refine wp_region_sched (by kernel_rfl) 6 [(0, true), (1, true), (2, true), (3, true), (4, true), (5, true), (6, false), (7, false)] (fun _ => True) (by kernel_rfl) (fun _ _ dd _ _ h => by cases dd <;> exact h) trivial (fun hHeld => ?_)
    iterate 6 ((refine sched_read (v := ?_) rfl (Or.inl ⟨by rfl, ?_⟩) hHeld ?_; rotate_left 1; · (intro w' hSw; go_simp; (first | done | with_reducible rfl))); (try simp only [Act.put, List.setIfInBounds_toArray, List.set_cons_zero, List.set_cons_succ]))
    refine sched_tail rfl (by decide) (fun K hK => ?_)
    refine step_append_run rfl _ _ _ rfl _ _ _ rfl rfl r4 ?_
    refine hK.out _ _ ?_
    clear hK K
    try simp only [Act.put, List.setIfInBounds_toArray, List.set_cons_zero, List.set_cons_succ]
    refine sched_tail rfl (by decide) (fun K hK => ?_)
    go_simp
    refine hK.out _ _ ?_
    clear hK K
    try simp only [Act.put, List.setIfInBounds_toArray, List.set_cons_zero, List.set_cons_succ]
    refine sched_done ?_
    go_wp2_with fail
    go_ret
    exact ⟨rfl, HR.out, HG.out⟩
end Go.Proofs.Ytfnnoncdocghjaa
