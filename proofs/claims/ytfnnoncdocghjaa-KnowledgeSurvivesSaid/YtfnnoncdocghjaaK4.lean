/- Delete, Recv, Play, AwakeK, Acts, ArgsK, Draw, GrownS28, joined. No statement of the seat is proved here. -/
import Derived.Test.YtfnnoncdocghjaaK3
import Derived.StillTailTactics
import Derived.Laws.ResultCell
import Derived.Test.YtfnnoncdocghjaaK2
import Derived.Lib.QuietBelow
namespace Go.Proofs.Ytfnnoncdocghjaa
open Go.RowKit
set_option linter.unusedVariables false
set_option linter.unusedSimpArgs false
set_option maxRecDepth 100000

abbrev zeroMg : Value := .agg #[.int .i64 0, .int .i64 0, .int .i64 0, .int .i64 0, .int .i64 0, .slice none 0 0]
theorem info_mg : (Try.prog.info? 104).map (fun i => (i.zero, i.size, i.bytes)) = some (some zeroMg, 6, 64) := by kernel_rfl
theorem run_pre_mg (w : World) (g n cap hi : Nat) (hh : hi ≤ cap) (hc : 0 < cap) : (Instr.slice 83 (.slice (some ⟨g, 0, none⟩) n cap) none (some (.int .i64 (hi : Int))) none).run Try.prog w = .ok (.slice (some ⟨g, 0, none⟩) hi cap) w := by
  obtain ⟨i0, hi0, hz0, hz1, hz2⟩ := info_parts info_mg
  have h3 : (hi : Int) ≤ (cap : Int) := by omega
  have h4 : (0 : Int) ≤ (hi : Int) := by omega
  simp [Instr.slice, Instr.sliceBounds, run_underlying Try.underlying83, go_sem, sizeOf, typeInfo, hi0, h3, h4]
def sufA (g cap lo : Nat) : Addr := if cap = lo then ⟨g, 0, none⟩ else ⟨g, lo * 6, none⟩
theorem run_suf_mg (w : World) (g n cap lo m : Nat) (li : Int) (hli : li = lo) (hh : n = lo + m) (hc : n ≤ cap) : (Instr.slice 83 (.slice (some ⟨g, 0, none⟩) n cap) (some (.int .i64 li)) none none).run Try.prog w = .ok (.slice (some (sufA g cap lo)) m (cap - lo)) w := by
  subst hli
  obtain ⟨i0, hi0, hz0, hz1, hz2⟩ := info_parts info_mg
  have h5 : (0 : Int) ≤ (lo : Int) := by omega
  have h6 : (lo : Int) ≤ (n : Int) := by omega
  have h7 : n - lo = m := by omega
  unfold sufA
  by_cases he : cap = lo
  · simp [Instr.slice, Instr.sliceBounds, run_underlying Try.underlying83, go_sem, sizeOf, typeInfo, hi0, h5, h6, he, h7]
  · simp [Instr.slice, Instr.sliceBounds, run_underlying Try.underlying83, go_sem, sizeOf, typeInfo, hi0, h5, h6, he, hz1, h7]
theorem run_mid_mg (w : World) (g n cap lo hi : Nat) (li hj : Int) (hli : li = lo) (hhj : hj = hi) (hh : lo ≤ hi) (hc : hi ≤ cap) (hlt : lo < cap) : (Instr.slice 83 (.slice (some ⟨g, 0, none⟩) n cap) (some (.int .i64 li)) (some (.int .i64 hj)) none).run Try.prog w = .ok (.slice (some ⟨g, lo * 6, none⟩) (hi - lo) (cap - lo)) w := by
  subst hli hhj
  obtain ⟨i0, hi0, hz0, hz1, hz2⟩ := info_parts info_mg
  have h3 : (hi : Int) ≤ (cap : Int) := by omega
  have h5 : (0 : Int) ≤ (lo : Int) := by omega
  have h6 : (lo : Int) ≤ (hi : Int) := by omega
  have he : ¬ cap = lo := by omega
  simp [Instr.slice, Instr.sliceBounds, run_underlying Try.underlying83, go_sem, sizeOf, typeInfo, hi0, h3, h5, h6, he, hz1]
  intro h; omega
theorem run_three_mg (w : World) (g n cap lo hi mx : Nat) (li hj mj : Int) (hli : li = lo) (hhj : hj = hi) (hmj : mj = mx) (hh : lo ≤ hi) (h2 : hi ≤ mx) (hc : mx ≤ cap) : ∃ v, (Instr.slice 83 (.slice (some ⟨g, 0, none⟩) n cap) (some (.int .i64 li)) (some (.int .i64 hj)) (some (.int .i64 mj))).run Try.prog w = .ok v w := by
  subst hli hhj hmj
  obtain ⟨i0, hi0, hz0, hz1, hz2⟩ := info_parts info_mg
  have h3 : (mx : Int) ≤ (cap : Int) := by omega
  have h4 : (0 : Int) ≤ (mx : Int) := by omega
  have h5 : (0 : Int) ≤ (lo : Int) := by omega
  have h6 : (lo : Int) ≤ (hi : Int) := by omega
  have h7 : (hi : Int) ≤ (mx : Int) := by omega
  have h8 : (0 : Int) ≤ (hi : Int) := by omega
  simp [Instr.slice, Instr.sliceBounds, run_underlying Try.underlying83, go_sem, sizeOf, typeInfo, hi0, h3, h4, h5, h6, h7, h8, hz1]
  rw [if_pos h2, if_pos hh]
  exact ⟨_, rfl⟩
theorem run_append_mg (w : World) (ty : TypeId) (g cap i m : Nat) (cur : Array Value) (F : List MgR) (hh : w.heap[g]? = some (.cells cur 104 (0, 0))) (hs : cur.size = cap * 6) (hl : F.length = i + 1 + m) (hc : F.length ≤ cap) (ht : cur.toList.take (F.length * 6) = F.flatMap MgR.cells)
    (A : Addr) (c : Nat) (hA : 0 < m → A = ⟨g, (i + 1) * 6, none⟩) :
    ∃ cur' : Array Value, (Builtin.append_ #[83, 83] ty #[.slice (some ⟨g, 0, none⟩) i cap, .slice (some A) m c]).run Try.prog w = .ok (.slice (some ⟨g, 0, none⟩) (i + m) cap) (w.setRow g cur') ∧ cur'.size = cap * 6 ∧ cur'.toList.take ((i + m) * 6) = (F.eraseIdx i).flatMap MgR.cells := by
  obtain ⟨i0, hi0, hz0, hz1, hz2⟩ := info_parts info_mg
  have hfl := flat_len MgR.cells 6 MgR.len F
  have hnl : ((F.drop (i + 1)).flatMap MgR.cells).length = m * i0.size := by rw [flat_len MgR.cells 6 MgR.len, List.length_drop, hz1, hl]; omega
  have hcur : ∀ q, q < F.length * 6 → cur[q]? = (F.flatMap MgR.cells)[q]? := fun q hq => by
    rw [← ht, List.getElem?_take_of_lt hq, Array.getElem?_toList]
  have hfd : ∀ k, k ≤ F.length → F.flatMap MgR.cells = (F.take k).flatMap MgR.cells ++ (F.drop k).flatMap MgR.cells := fun k _ => by rw [← List.flatMap_append, List.take_append_drop]
  have hr := run_append_room (P := Try.prog) w 83 ty 104 i0 Try.underlying83 hi0 g i cap cur hh A m c ((F.drop (i + 1)).flatMap MgR.cells) hnl (fun j u hu => by
    have hj := (List.getElem?_eq_some_iff.1 hu).1
    rw [hnl, hz1] at hj
    have hm : 0 < m := by omega
    rw [hA hm]
    have ha : (⟨g, (i + 1) * 6, none⟩ : Addr).add j = ⟨g, (i + 1) * 6 + j, none⟩ := by unfold Addr.add; split <;> simp_all
    rw [ha]
    simp only [World.cell?, hh]
    rw [hcur _ (by omega), hfd (i + 1) (by omega), List.getElem?_append_right (by rw [flat_len MgR.cells 6 MgR.len, List.length_take]; omega), flat_len MgR.cells 6 MgR.len, List.length_take, Nat.min_eq_left (by omega), show (i + 1) * 6 + j - (i + 1) * 6 = j by omega]
    simpa using hu) (fun u hu => by
    obtain ⟨x, _, hx⟩ := List.mem_flatMap.1 hu
    exact MgR.one x u hx) (by omega) (by rw [hnl, hz1, hs]; omega)
  refine ⟨_, hr, ?_, ?_⟩
  · rw [hz1] at hnl ⊢
    simp only [List.size_toArray, List.length_append, List.length_take, List.length_drop, Array.length_toList, hnl, hs]
    omega
  · rw [hz1] at hnl ⊢
    have e1 : cur.toList.take (i * 6) = (F.take i).flatMap MgR.cells := by
      have e2 : cur.toList.take (i * 6) = (cur.toList.take (F.length * 6)).take (i * 6) := by rw [List.take_take, Nat.min_eq_left (by omega)]
      rw [e2, ht, hfd i (by omega)]
      have hA : ((F.take i).flatMap MgR.cells).length = i * 6 := by rw [flat_len MgR.cells 6 MgR.len, List.length_take, Nat.min_eq_left (by omega)]
      rw [← hA]; exact List.take_left
    have hlen : (cur.toList.take (i * 6) ++ (F.drop (i + 1)).flatMap MgR.cells).length = (i + m) * 6 := by rw [List.length_append, List.length_take, Array.length_toList, hnl, hs]; omega
    rw [List.toList_toArray, ← hlen, List.take_left, e1, ← List.flatMap_append, List.eraseIdx_eq_take_drop_succ]
theorem run_clear_mg (w : World) (ty : TypeId) (g k c : Nat) (hc : ∀ j, j < 6 → (w.cell? ⟨g, k * 6 + j, none⟩).isSome = true) (hf : ∀ j, j < 6 → w.frozen? ⟨g, k * 6 + j, none⟩ = false) :
    ∃ zs : List Value, zs.length = 6 ∧ (Builtin.clear_ #[83] ty #[.slice (some ⟨g, k * 6, none⟩) 1 c]).run Try.prog w = .ok (.tuple #[]) (w.setCells g (k * 6) zs) := by
  obtain ⟨i0, hi, hz0, hz1, hz2⟩ := info_parts info_mg
  have hv : ∀ w, (zeroValue 104).run Try.prog w = .ok zeroMg w := fun w => by simp [zeroValue, typeInfo, hi, hz0]
  have hzl : (Builtin.zeroCells zeroMg.cells 1).toList.length = 6 := by simp [Builtin.zeroCells, Value.cells]
  have ho : ∀ u ∈ (Builtin.zeroCells zeroMg.cells 1).toList, u.oneCell' = true := by
    intro u hu
    unfold Builtin.zeroCells at hu
    simp only [Array.toList_map, List.mem_map] at hu
    obtain ⟨i, _, rfl⟩ := hu
    generalize hq : i % zeroMg.cells.size = q
    have hlt : q < 6 := by rw [← hq]; exact Nat.mod_lt _ (by decide)
    have : q = 0 ∨ q = 1 ∨ q = 2 ∨ q = 3 ∨ q = 4 ∨ q = 5 := by omega
    rcases this with rfl | rfl | rfl | rfl | rfl | rfl <;> rfl
  generalize hzs : (Builtin.zeroCells zeroMg.cells 1).toList = zs at ho hzl
  have hst := run_storeCells_cells (P := Try.prog) g (k * 6) zs 0 w (fun j hj => by rw [Nat.add_zero]; exact hc j (by omega)) (fun j hj => by rw [Nat.add_zero]; exact hf j (by omega)) ho
  simp only [Nat.add_zero] at hst
  exact ⟨zs, hzl, by simp [Builtin.clear_, run_underlying Try.underlying83, hv, hzs, hst]⟩
theorem grown_setRow (w : World) (g : Nat) (cs : Array Value) : w.grownBy (w.setRow g cs) (some g) := ⟨rfl, rfl, rfl, by simp, fun k _ hne => setRow_other w g k cs (fun e => hne (by rw [e]))⟩
theorem take_setAll (vs xs : List Value) (o k : Nat) (h : k ≤ o) : (setAll xs o vs).take k = xs.take k := by
  apply List.ext_getElem?
  intro q
  rw [List.getElem?_take, List.getElem?_take]
  by_cases hq : q < k
  · rw [if_pos hq, if_pos hq, setAll_get, if_neg (by omega)]
  · rw [if_neg hq, if_neg hq]
theorem step_append_run {P : Program} {w w' : World} {ops : Array Oper} {o : Oper} {a : Act} {K : Act → World → Prop} {Q : Exit → Act → World → Prop} {E : Prop} (hgd : o.guard = none) (so xo : Operand) (t : TypeId)
    (ho : o.op = .call { callee := .builtin .append, args := #[so, xo], argTypes := #[t, t] }) (s x v : Value) (hs : a.eval so = s) (hx : a.eval xo = x) (hr : (Builtin.append_ #[t, t] o.type #[s, x]).run P w = .ok v w') (h : K (a.put o.dst v) w') :
    if Region.wanted o (yielded ops a.tmps) = true then Oper.wp P o a w K Q else E := by
  have hw : Region.wanted o (yielded ops a.tmps) = true := by simp [Region.wanted, hgd]
  rw [if_pos hw]
  unfold Oper.wp execOp
  simp only [ho, resolve, invoke, builtin, Sem.run_bind, Sem.run_pure, Result.andThen_ok, List.map_toArray, List.map_cons, List.map_nil, hs, hx, hr]
  exact h
set_option maxHeartbeats 1600000 in
theorem delete_any (W : World) (base g cap i m : Nat) (F : List MgR) (h : FlM MgR.cells 6 104 W base (some ⟨g, 0, none⟩) cap F) (hl : F.length = i + 1 + m) (hn : F.length ≤ 256) :
    Calls Try.prog 66 #[.slice (some ⟨g, 0, none⟩) F.length cap, .int .i64 i, .int .i64 ((i : Int) + 1)] W (fun e w' => e = .returned (.slice (some ⟨g, 0, none⟩) (i + m) cap) ∧ FlM MgR.cells 6 104 w' base (some ⟨g, 0, none⟩) cap (F.eraseIdx i) ∧ W.grownBy w' (some g)) := by
  obtain ⟨cur, hb, hh, hc, hcm, hs, ht⟩ : ∃ cur : Array Value, base ≤ g ∧ W.heap[g]? = some (.cells cur 104 (0, 0)) ∧ F.length ≤ cap ∧ cap ≤ maxLen ∧ cur.size = cap * 6 ∧ cur.toList.take (F.length * 6) = F.flatMap MgR.cells := by
    rcases h.r.2 with ⟨hv, _⟩ | ⟨g', cap', cur, hv, h1, h2, h3, h4, h5, h6⟩
    · injection hv with hv; cases hv
    · injection hv with hv _ hv2
      injection hv with hv
      injection hv with hv
      subst hv hv2
      exact ⟨cur, h1, h2, h3, h4, h5, h6⟩
  have H := Lib.hid h
  have hhd : W.drew.heap[g]? = some (.cells cur 104 (0, 0)) := hh
  obtain ⟨v3, r3⟩ := run_three_mg W g F.length cap i (i + 1) F.length i ((i : Int) + 1) F.length rfl (by omega) rfl (by omega) (by omega) hc
  have r1 := fun w => run_pre_mg w g F.length cap i (by omega) (by omega)
  have r2 := fun w => run_suf_mg w g F.length cap (i + 1) m ((i : Int) + 1) (by omega) (by omega) hc
  obtain ⟨cur1, r4, hs1, ht1⟩ := run_append_mg W.drew 83 g cap i m cur F hhd hs hl hc ht (sufA g cap (i + 1)) (cap - (i + 1)) (fun h0 => by unfold sufA; rw [if_neg (by omega)])
  have hW1 : (W.drew.setRow g cur1).heap[g]? = some (.cells cur1 104 (0, 0)) := setRow_heap W.drew g cur cur1 _ _ hhd
  have hG1 : W.grownBy (W.drew.setRow g cur1) (some g) := grownBy_trans (grownBy_ext (Below.drew (Ext.refl W))) (grown_setRow W.drew g cur1)
  generalize W.drew.setRow g cur1 = W1 at r4 hW1 hG1
  have r5 := run_mid_mg W1 g (i + m) cap (i + m) F.length ((i : Int) + m) F.length (by omega) rfl (by omega) hc (by omega)
  rw [show F.length - (i + m) = 1 by omega] at r5
  obtain ⟨zs, hz6, r6⟩ := run_clear_mg W1 0 g (i + m) (cap - (i + m)) (fun j hj => by simp only [World.cell?, hW1]; rw [Array.getElem?_eq_getElem (by rw [hs1]; omega)]; rfl) (fun j hj => by simp [World.frozen?, hW1])
  have hE : (W1.setCells g ((i + m) * 6) zs).heap[g]? = some (.cells (setAll cur1.toList ((i + m) * 6) zs).toArray 104 (0, 0)) := heap_sets zs _ W1 cur1.toList (by simpa using hW1)
  have hG2 : W.grownBy (W1.setCells g ((i + m) * 6) zs) (some g) := grownBy_trans hG1 (grownRow_sets W1 g _ zs)
  have hel : (F.eraseIdx i).length = i + m := by rw [List.length_eraseIdx, if_pos (by omega)]; omega
  have HR : Hid (FlM MgR.cells 6 104 (W1.setCells g ((i + m) * 6) zs) base (some ⟨g, 0, none⟩) cap (F.eraseIdx i)) := by
    refine ⟨⟨flat_len MgR.cells 6 MgR.len _, .inr ⟨g, cap, _, rfl, hb, hE, by omega, hcm, by rw [List.size_toArray, setAll_len, Array.length_toList]; exact hs1, ?_⟩⟩, fun x hx => own_typed (H.out.k x (List.mem_of_mem_eraseIdx hx)) hG2 (TyRow.own (v := .slice (some ⟨g, 0, none⟩) F.length cap) H.out.r (by decide))⟩
    rw [List.toList_toArray, hel, take_setAll _ _ _ _ (Nat.le_refl _)]
    exact ht1
  have HG := Lib.hid hG2
  clear hE hG1 hG2 hhd hh
  have hFm : F.length - (i + 1) = m := by omega
  have hic : i ≤ cap := by omega
  have hq1 : (0 : Int) ≤ (i : Int) + 1 := by omega
  have hq0 : (i : Int) ≤ (i : Int) + 1 := by omega
  have hq2 : (i : Int) + 1 ≤ (F.length : Int) := by omega
  have HL := Lib.hid hl
  clear hl r1 r2
  by_cases hce : cap = i + 1
  · subst hce
    rw [show sufA g (i + 1) (i + 1) = ⟨g, 0, none⟩ by unfold sufA; rw [if_pos rfl]] at r4
    have hcc : i + 1 - (i + 1) = 0 := by omega
    rw [hcc] at r4
    clear hcc
    go_enter Try.func66, Try.ntmps66
    go_wp2_with fail
    refine wp_region_sched (by kernel_rfl) 6 [(0, true), (1, true), (2, true), (3, true), (4, true), (5, true), (6, false), (7, false)] (fun _ => True) (by kernel_rfl) (fun _ _ dd _ _ h => by cases dd <;> exact h) trivial (fun hHeld => ?_)
    iterate 6 ((refine sched_read (v := ?_) rfl (Or.inl ⟨by rfl, ?_⟩) hHeld ?_; rotate_left 1; · (intro w' hSw; go_simp; (first | done | with_reducible rfl))); (try simp only [Act.put, List.setIfInBounds_toArray, List.set_cons_zero, List.set_cons_succ]))
    refine sched_tail rfl (by decide) (fun K hK => ?_)
    refine step_append_run rfl _ _ _ rfl _ _ _ rfl rfl r4 ?_
    refine hK.out _ _ ?_
    clear hK K
    try simp only [Act.put, List.setIfInBounds_toArray, List.set_cons_zero, List.set_cons_succ]
    refine sched_tail rfl (by decide) (fun K hK => ?_)
    go_simp
    refine hK.out _ _ ?_
    clear hK K
    try simp only [Act.put, List.setIfInBounds_toArray, List.set_cons_zero, List.set_cons_succ]
    refine sched_done ?_
    go_wp2_with fail
    go_ret
    exact ⟨rfl, HR.out, HG.out⟩
  · rw [show sufA g cap (i + 1) = ⟨g, (i + 1) * 6, none⟩ by unfold sufA; rw [if_neg hce]] at r4
    go_enter Try.func66, Try.ntmps66
    go_wp2_with fail
    refine wp_region_sched (by kernel_rfl) 6 [(0, true), (1, true), (2, true), (3, true), (4, true), (5, true), (6, false), (7, false)] (fun _ => True) (by kernel_rfl) (fun _ _ dd _ _ h => by cases dd <;> exact h) trivial (fun hHeld => ?_)
    iterate 6 ((refine sched_read (v := ?_) rfl (Or.inl ⟨by rfl, ?_⟩) hHeld ?_; rotate_left 1; · (intro w' hSw; go_simp; (first | done | with_reducible rfl))); (try simp only [Act.put, List.setIfInBounds_toArray, List.set_cons_zero, List.set_cons_succ]))
    refine sched_tail rfl (by decide) (fun K hK => ?_)
    refine step_append_run rfl _ _ _ rfl _ _ _ rfl rfl r4 ?_
    refine hK.out _ _ ?_
    clear hK K
    try simp only [Act.put, List.setIfInBounds_toArray, List.set_cons_zero, List.set_cons_succ]
    refine sched_tail rfl (by decide) (fun K hK => ?_)
    go_simp
    refine hK.out _ _ ?_
    clear hK K
    try simp only [Act.put, List.setIfInBounds_toArray, List.set_cons_zero, List.set_cons_succ]
    refine sched_done ?_
    go_wp2_with fail
    go_ret
    exact ⟨rfl, HR.out, HG.out⟩
end Go.Proofs.Ytfnnoncdocghjaa
namespace Go.Proofs.Ytfnnoncdocghjaa
open Go.RowKit
set_option linter.unusedVariables false
set_option maxRecDepth 100000

theorem CpM.row (W : World) (base g n : Nat) (f : Int) (p : Cp) (h : CpM W base g n f p) {i : Nat} {x : MgR} (hx : p.F[i]? = some x) : ∃ gF, p.A = some ⟨gF, 0, none⟩ ∧ base ≤ gF ∧ gF < W.heap.size ∧ ∀ j u, x.cells[j]? = some u → W.cell? ⟨gF, i * 6 + j, none⟩ = some u := by
  have hi := (List.getElem?_eq_some_iff.1 hx).1
  obtain ⟨gF, cap, e, h1, h2⟩ := h.f.r.form (by omega)
  injection e with e1 _ _
  have hr := h.f.r
  rw [e1] at hr
  refine ⟨gF, e1, h1, h2, fun j u hu => ?_⟩
  have hj : j < 6 := by have := (List.getElem?_eq_some_iff.1 hu).1; rw [MgR.len] at this; exact this
  rw [hr.cellAt (i * 6 + j) (by omega), flat_get MgR.cells 6 MgR.len p.F i j x hx hj, hu]
theorem CpPost.ext {W w' : World} {base g n : Nat} {f : Int} {p : Cp} (h : CpM W base g n f p) (hE : Ext W w') (hb : base ≤ W.heap.size) : CpPost W base g n f p.st (.returned (.tuple #[])) w' := ⟨rfl, p, h.ext hE, rfl, hE.mono hb⟩
theorem map_erase {α β : Type} (f : α → β) : ∀ (l : List α) (i : Nat), (l.eraseIdx i).map f = (l.map f).eraseIdx i
  | [], _ => rfl
  | _ :: _, 0 => rfl
  | x :: l, i + 1 => by rw [List.eraseIdx_cons_succ, List.map_cons, List.map_cons, List.eraseIdx_cons_succ, map_erase f l i]
theorem bitV_nat {q : Nat} (hq : q < 32) : bitV (q : Int) = 2 ^ q := by
  unfold bitV
  rw [if_neg (by omega), Int.toNat_natCast]
/-- a determinant is stored, cell by cell -/
def putD (W : World) (g : Nat) (d : Dt) : World := ((((((((W.setCell ⟨g, 0, none⟩ (.int .i64 d.proc)).setCell ⟨g, 1, none⟩ (.int .i64 d.index)).setCell ⟨g, 2, none⟩ (.int .i64 d.ev.kind)).setCell ⟨g, 3, none⟩ (.int .i64 d.ev.inc)).setCell ⟨g, 4, none⟩ (.int .i64 d.ev.frm)).setCell ⟨g, 5, none⟩ (.int .i64 d.ev.sinc)).setCell ⟨g, 6, none⟩ (.int .i64 d.ev.sidx)).setCell ⟨g, 7, none⟩ (.int .i64 d.ev.ord)).setCell ⟨g, 8, none⟩ (.int .i64 d.ev.val)
theorem Blk.put9 {W : World} {g : Nat} {t : TypeId} {a0 a1 a2 a3 a4 a5 a6 a7 a8 : Value} (h : Blk W g t #[a0, a1, a2, a3, a4, a5, a6, a7, a8]) (d : Dt) : Blk (putD W g d) g t d.cells.toArray ∧ W.grownBy (putD W g d) (some g) := by
  refine ⟨?_, ?_⟩
  · have := Blk.sets (w := W) d.cells 0 W [a0, a1, a2, a3, a4, a5, a6, a7, a8] h
    exact this
  · unfold putD
    exact grownBy_trans (grownBy_trans (grownBy_trans (grownBy_trans (grownBy_trans (grownBy_trans (grownBy_trans (grownBy_trans (grown_set1 _ _ _ _) (grown_set1 _ _ _ _)) (grown_set1 _ _ _ _)) (grown_set1 _ _ _ _)) (grown_set1 _ _ _ _)) (grown_set1 _ _ _ _)) (grown_set1 _ _ _ _)) (grown_set1 _ _ _ _)) (grown_set1 _ _ _ _)
theorem Ext.put9 {W0 W : World} (h : Ext W0 W) {g : Nat} (hg : W0.heap.size ≤ g) (d : Dt) : Ext W0 (putD W g d) := by
  unfold putD
  exact ((((((((h.set hg _).set hg _).set hg _).set hg _).set hg _).set hg _).set hg _).set hg _).set hg _
set_option maxHeartbeats 3200000 in
theorem receive_any (W : World) (base g n t : Nat) (f : Int) (p : Cp) (h : CpM W base g n f p) (hw : WF n t p.st) (ht : t ≤ 200) (hn : n ≤ 5) (hb : base ≤ W.heap.size) (o : Int) :
    Calls Try.prog 50 #[.pointer (some ⟨g, 0, none⟩), .int .i64 o] W (CpPost W base g n f (if canRecv p.st o then recvV p.st o.toNat else p.st)) := by
  have H := Lib.hid h
  have hfl : p.F.length ≤ 256 := by have := hw.f256; simpa [Cp.st] using this
  have HW := Lib.hid hw
  obtain ⟨c0, c1, c2, c3, c4⟩ := h.cells
  clear h hw
  by_cases h0 : o < 0
  · have HV : Hid (canRecv p.st o = false) := by
      show _ = _
      have : decide (0 ≤ o) = false := decide_eq_false (by omega)
      unfold canRecv
      rw [this]; rfl
    rw [HV.out, if_neg (by simp)]
    go_enter Try.func50, Try.ntmps50
    go_wp2_with fail
    (try simp only [Exit.inBlock, Exit.then]); refine bodyPost_ret (results_none rfl _ _ _) rfl ?_
    exact CpPost.same H.out
  · by_cases hlt : o < p.F.length
    · obtain ⟨i, rfl⟩ : ∃ i : Nat, o = (i : Int) := ⟨o.toNat, by omega⟩
      have hil : i < p.F.length := by omega
      obtain ⟨x, hx⟩ : ∃ x, p.F[i]? = some x := ⟨_, List.getElem?_eq_getElem hil⟩
      obtain ⟨gF, hA, hgb, hgs, hxc⟩ := CpM.row W base g n f p H.out hx
      rw [hA] at c4
      have q0 : W.cell? ⟨gF, i * 6, none⟩ = some (.int .i64 x.m.frm) := hxc 0 _ rfl
      have q1 := hxc 1 _ rfl
      have q2 := hxc 2 _ rfl
      have q3 := hxc 3 _ rfl
      have q4 := hxc 4 _ rfl
      have q5 := hxc 5 _ rfl
      clear hxc
      obtain ⟨G, hG1, hG2, hG3⟩ := HW.out.g
      have hxm : x.m ∈ p.st.fl := List.mem_map.2 ⟨x, List.mem_of_getElem? hx, rfl⟩
      have hmo := hG3 x.m hxm
      have hqn : x.m.dst < n := hmo.d
      obtain ⟨sk, hsk⟩ : ∃ sk, p.t.K[x.m.dst]? = some sk := ⟨_, List.getElem?_eq_getElem (by rw [H.out.t.nk]; exact hqn)⟩
      obtain ⟨se, hse⟩ : ∃ se, p.t.R[x.m.dst]? = some se := ⟨_, List.getElem?_eq_getElem (by rw [H.out.t.ne]; exact hqn)⟩
      have hcE := H.out.t.cellE hse
      have hkk := hG2 sk.l (List.mem_map.2 ⟨sk, List.mem_of_getElem? hsk, rfl⟩)
      have hkl : sk.l.length ≤ 200 := by have := hkk.len; omega
      have hml : x.m.kn.length ≤ 200 := by have := hmo.k.len; omega
      have HKK : Hid (∀ k ∈ sk.l, okH k.h) := hkk.ok
      have HMK : Hid (∀ k ∈ x.m.kn, okH k.h) := hmo.k.ok
      have hel : se.l.length ≤ 64 := HW.out.el se.l (List.mem_map.2 ⟨se, List.mem_of_getElem? hse, rfl⟩)
      have hfD : p.st.fl.getD i mgD = x.m := by simp [Cp.st, List.getD_eq_getElem?_getD, hx]
      have heD : p.st.ev.getD x.m.dst [] = se.l := by simp [Cp.st, List.getD_eq_getElem?_getD, hse]
      have hkD : p.st.kn.getD x.m.dst [] = sk.l := by simp [Cp.st, List.getD_eq_getElem?_getD, hsk]
      clear hG1 hG2 hG3 hkk hmo hxm
      have hi0 : (0 : Int) ≤ (i : Int) := by omega
      have hi1 : (i : Int) < (p.F.length : Int) := by omega
      have hd0 : (0 : Int) ≤ (x.m.dst : Int) := by omega
      have hd1 : (x.m.dst : Int) < (n : Int) := by omega
      have hE1 : Ext W (W.alloc (.cells #[.int .i64 x.m.frm, .int .i64 x.m.dst, .int .i64 0, .int .i64 x.m.idx, .int .i64 x.m.ord, .slice x.A x.m.kn.length x.c] 104)) := (Ext.refl W).allocs _
      have hB1 : Blk (W.alloc (.cells #[.int .i64 x.m.frm, .int .i64 x.m.dst, .int .i64 0, .int .i64 x.m.idx, .int .i64 x.m.ord, .slice x.A x.m.kn.length x.c] 104)) W.heap.size 104 x.cells.toArray := Blk.new W _ _
      have hC1 := H.out.ext hE1
      obtain ⟨d0, d1, d2, d3, d4⟩ := hC1.cells
      have hcE1 := hC1.t.cellE hse
      rw [hA] at d4
      have hxb := MgR.blk hB1
      obtain ⟨b0, b1, b2, b3, b4, b5⟩ := hxb
      clear hcE
      have HC1 := Lib.hid hC1
      have HB1 := Lib.hid hB1
      have HE1 := Lib.hid hE1
      clear hC1 hB1 hE1
      have HFD := Lib.hid hfD
      have HED := Lib.hid heD
      have HKD := Lib.hid hkD
      have HXI := Lib.hid hx
      have HA := Lib.hid hA
      clear hfD heD hkD hx hA
      by_cases h64 : se.l.length < 64
      · have HV : Hid (canRecv p.st i = true) := canRecv_iff.2 ⟨by omega, by simpa [Cp.st] using hlt, by rw [Int.toNat_natCast, HFD.out, HED.out]; exact h64⟩
        rw [HV.out, if_pos rfl, Int.toNat_natCast]
        have h64' : decide ((64 : Int) ≤ (se.l.length : Int)) = false := decide_eq_false (by omega)
        clear HV
        go_enter Try.func50, Try.ntmps50
        go_upto_region 4 with fail
        obtain ⟨g4, hg4⟩ : ∃ g4, W.heap.size = g4 := ⟨_, rfl⟩
        have HFL : FlM MgR.cells 6 104 (W.alloc (.cells #[.int .i64 x.m.frm, .int .i64 x.m.dst, .int .i64 0, .int .i64 x.m.idx, .int .i64 x.m.ord, .slice x.A x.m.kn.length x.c] 104)) base (some ⟨gF, 0, none⟩) p.c p.F := by rw [← HA.out]; exact HC1.out.f
        have hne4 : gF ≠ g4 := by omega
        clear c0 c1 c2 c3 c4 q0 q1 q2 q3 q4 q5 b0 b1 b2 b3 b4 b5 hcE1
        have HG4 : Hid (base ≤ g4) := by show base ≤ g4; omega
        rw [hg4] at HB1 ⊢
        generalize W.alloc (.cells #[.int .i64 x.m.frm, .int .i64 x.m.dst, .int .i64 0, .int .i64 x.m.idx, .int .i64 x.m.ord, .slice x.A x.m.kn.length x.c] 104) = W1 at HFL HC1 HB1 HE1 d0 d1 d2 d3 d4 ⊢
        obtain ⟨m, hm⟩ : ∃ m, p.F.length = i + 1 + m := ⟨p.F.length - (i + 1), by omega⟩
        have HD := Lib.hid (delete_any W1 base gF p.c i m p.F HFL hm hfl)
        have hel2 : (p.F.eraseIdx i).length = i + m := by rw [List.length_eraseIdx, if_pos (by omega)]; omega
        have HEL := Lib.hid hel2
        have HM := Lib.hid hm
        have HTY : Hid (TyRow W1 (some gF) (fun t => t = 104)) := TyRow.own (v := .slice (some ⟨gF, 0, none⟩) p.F.length p.c) HFL.r rfl
        clear hel2 hm HFL
        go_wp2_with fail
        refine HD.out.mono ?_
        rintro e w2 ⟨rfl, hF2, hg2⟩
        have hb2 := blk_typed HC1.out.b hg2 (HTY.out.imp fun t e => by subst e; decide)
        have hfz2 : w2.frozen? ⟨g, 4, none⟩ = false := hb2.frozen 4
        have hce2 : w2.cell? ⟨g, 4, none⟩ = some (.slice p.A p.F.length p.c) := (hb2.cell 4).trans rfl
        have hC2 := HC1.out.set_fl hg2 HTY.out hF2
        rw [HEL.out] at hC2
        have hB2 : Blk (w2.setCell ⟨g, 4, none⟩ (.slice (some ⟨gF, 0, none⟩) (i + m) p.c)) g4 104 #[.int .i64 x.m.frm, .int .i64 x.m.dst, .int .i64 0, .int .i64 x.m.idx, .int .i64 x.m.ord, .slice x.A x.m.kn.length x.c] := blk_typed ((hg2.block g4 HB1.out.lt (fun e => hne4 (by injection e with e; exact e.symm))).trans HB1.out) (grown_set1 _ _ _ _) (TyRow.blk hb2 (by decide))
        have HL2 : Hid (Below base W (w2.setCell ⟨g, 4, none⟩ (.slice (some ⟨gF, 0, none⟩) (i + m) p.c))) := Below.setCell (Below.trans (HE1.out.mono (by rw [hg4]; exact HG4.out)) (Below.grown (Below.refl base W1) hg2 (Nat.le_trans hb HE1.out.size) (fun k hk => by injection hk with hk; omega))) H.out.z _
        have HXO2' : KnOwn (w2.setCell ⟨g, 4, none⟩ (.slice (some ⟨gF, 0, none⟩) (i + m) p.c)) base x.A x.c x.m.kn := own_typed (own_typed (HC1.out.f.k x (List.mem_of_getElem? HXI.out)) hg2 (HTY.out.imp fun t e => by subst e; decide)) (grown_set1 _ _ _ _) (TyRow.blk hb2 (by decide))
        have HC2 := Lib.hid hC2
        have HB2 := Lib.hid hB2
        clear hC2 hB2 hF2 hg2 hb2 HD HTY d0 d1 d2 d3 d4
        go_upto_region 5 with fail
        generalize w2.setCell ⟨g, 4, none⟩ (.slice (some ⟨gF, 0, none⟩) (i + m) p.c) = W2 at HC2 HB2 HL2 HXO2' ⊢
        have HXO2 : Hid (KnOwn W2 base x.A x.c x.m.kn) := HXO2'
        clear hfz2 hce2 HC1 HB1
        obtain ⟨b0, b1, b2, b3, b4, b5⟩ := MgR.blk (x := x) HB2.out
        have hE3 : Ext W2 (W2.alloc (.cells #[.int .i64 1, .int .i64 0, .int .i64 x.m.frm, .int .i64 0, .int .i64 x.m.idx, .int .i64 x.m.ord, .int .i64 0] 30)) := (Ext.refl W2).allocs _
        have HBe3 : Hid (Blk (W2.alloc (.cells #[.int .i64 1, .int .i64 0, .int .i64 x.m.frm, .int .i64 0, .int .i64 x.m.idx, .int .i64 x.m.ord, .int .i64 0] 30)) W2.heap.size 30 #[.int .i64 1, .int .i64 0, .int .i64 x.m.frm, .int .i64 0, .int .i64 x.m.idx, .int .i64 x.m.ord, .int .i64 0]) := Blk.new W2 _ _
        have HC3 := Lib.hid (HC2.out.ext hE3)
        have HB3 : Hid (Blk (W2.alloc (.cells #[.int .i64 1, .int .i64 0, .int .i64 x.m.frm, .int .i64 0, .int .i64 x.m.idx, .int .i64 x.m.ord, .int .i64 0] 30)) g4 104 #[.int .i64 x.m.frm, .int .i64 x.m.dst, .int .i64 0, .int .i64 x.m.idx, .int .i64 x.m.ord, .slice x.A x.m.kn.length x.c]) := Blk.ext HB2.out hE3
        have HL3 : Hid (Below base W (W2.alloc (.cells #[.int .i64 1, .int .i64 0, .int .i64 x.m.frm, .int .i64 0, .int .i64 x.m.idx, .int .i64 x.m.ord, .int .i64 0] 30))) := Below.trans HL2.out (hE3.mono (Nat.le_trans hb HL2.out.size))
        obtain ⟨g6, hg6⟩ : ∃ g6, W2.heap.size = g6 := ⟨_, rfl⟩
        have hsr := (HC2.out.t.e.r _ se hse)
        have hne6 : (Gr.val se).ownBlock ≠ some g6 := fun e => by have := (hsr.lt g6 e).2; omega
        clear hsr
        have HXO3 : Hid (KnOwn (W2.alloc (.cells #[.int .i64 1, .int .i64 0, .int .i64 x.m.frm, .int .i64 0, .int .i64 x.m.idx, .int .i64 x.m.ord, .int .i64 0] 30)) base x.A x.c x.m.kn) := own_ext HXO2.out hE3
        go_upto_region 6 with fail
        rw [hg6] at HBe3
        generalize W2.alloc (.cells #[.int .i64 1, .int .i64 0, .int .i64 x.m.frm, .int .i64 0, .int .i64 x.m.idx, .int .i64 x.m.ord, .int .i64 0] 30) = W3 at HC3 HB3 HBe3 HL3 HXO3 hE3 ⊢
        clear b0 b1 b2 b3 b4 b5 HC2 HB2 HL2 HXO2' HXO2
        obtain ⟨e, he⟩ : ∃ e : Ev, e = evOf x.m := ⟨_, rfl⟩
        have HEv := Lib.hid he
        have HBe : Hid (Blk W3 g6 30 e.cells.toArray) := by show Blk _ _ _ _; rw [he]; exact HBe3.out
        clear he HBe3
        have hz3 : base ≤ W3.heap.size := Nat.le_trans hb HL3.out.size
        have hz36 : g6 < W3.heap.size := HBe.out.lt
        have HSR := Lib.hid (HC3.out.t.e.r _ se hse)
        have HSS : Hid (∀ W' row, W3.grownBy W' row → (row = none ∨ row = (Gr.val se).ownBlock) → W'.cell? ⟨g, 1, none⟩ = some (.slice (some ⟨p.t.ge, 0, none⟩) n n) ∧ W'.cell? ⟨p.t.ge, x.m.dst, none⟩ = some (.slice se.A se.l.length se.c) ∧ Blk W' g6 30 e.cells.toArray) := fun W' row hW hr => by
          have hty : ∀ t0, t0 ≠ 30 → TyRow W3 row (fun t => t ≠ t0) := fun t0 ht0 => by
            rcases hr with rfl | rfl
            · exact TyRow.none _ _
            · exact TyRow.own HSR.out (Ne.symm ht0)
          refine ⟨((blk_typed HC3.out.b hW (hty _ (by decide))).cell 1).trans rfl, ?_, ?_⟩
          · have h9 := Blk.tabAt (blk_typed HC3.out.t.e.b hW (hty _ (by decide))) Gr.len hse (j := 0) (by omega) (u := Gr.val se) rfl
            simpa using h9
          · refine (hW.block g6 HBe.out.lt (fun e => ?_)).trans HBe.out
            rcases hr with rfl | rfl
            · cases e
            · exact hne6 e.symm
        refine wp_region_sched (by kernel_rfl) 18 [(0, true), (1, true), (2, true), (3, true), (4, true), (5, true), (6, true), (7, true), (8, true), (9, true), (10, true), (11, true), (12, true), (13, true), (14, true), (15, false), (16, false), (17, true), (18, false)] (fun W' => W'.cell? ⟨g, 1, none⟩ = some (.slice (some ⟨p.t.ge, 0, none⟩) n n) ∧ W'.cell? ⟨p.t.ge, x.m.dst, none⟩ = some (.slice se.A se.l.length se.c) ∧ Blk W' g6 30 e.cells.toArray) (by kernel_rfl) (fun _ _ dd _ _ h => by cases dd <;> exact h) (HSS.out _ _ (grownBy_ext (row := none) (Below.drew (Ext.refl W3))) (.inl rfl)) (fun hHeld => ?_)
        iterate 15 ((refine sched_read (v := ?_) rfl (Or.inl ⟨by rfl, ?_⟩) hHeld ?_; rotate_left 1; · (intro w' hSw; obtain ⟨t0, t1, t2⟩ := hSw; obtain ⟨⟨z0, z1, z2, z3, z4, z5, z6⟩, -⟩ := blk7 t2; go_simp; (first | done | with_reducible rfl))); (try simp only [Act.put, List.setIfInBounds_toArray, List.set_cons_zero, List.set_cons_succ]))
        have hEa : Ext W3 (W3.drew.alloc (.cells e.cells.toArray 30)) := Ext.trans (Below.drew (Ext.refl W3)) ((Ext.refl W3.drew).allocs _)
        have HBa : Hid (Blk (W3.drew.alloc (.cells e.cells.toArray 30)) W3.drew.heap.size 30 e.cells.toArray) := Blk.new W3.drew _ _
        have HCa := Lib.hid (HC3.out.ext hEa)
        refine sched_eff rfl (fun K hK => ?_)
        go_simp
        refine hK.out _ (W3.drew.alloc (.cells e.cells.toArray 30)) (HSS.out _ _ (grownBy_ext (row := none) hEa) (.inl rfl)) (fun hHeld => ?_)
        clear hK K
        try simp only [Act.put, List.setIfInBounds_toArray, List.set_cons_zero, List.set_cons_succ]
        refine sched_eff rfl (fun K hK => ?_)
        refine step_push_lies Ev.cells 7 56 Ev.len Ev.one (by omega) (by rfl) _ _ _ (by rfl) base 30 Try.underlying65 (by kernel_rfl) (.slice se.A se.l.length se.c) se.l e W3.drew.heap.size (by rfl) (HCa.out.t.e.r _ se hse) (by rfl) (Seg.ofBlkK HBa.out rfl) (by unfold maxLen; omega) (by omega) (Nat.le_trans hz3 hEa.size) ?_
        intro g9 c9 w9 hown9 hg9 hd9
        have hgr := grownBy_trans (grownBy_ext (row := (Gr.val se).ownBlock) hEa) hg9
        refine hK.out _ _ (HSS.out _ _ hgr (.inr rfl)) (fun hHeld => ?_)
        clear hK K
        try simp only [Act.put, List.setIfInBounds_toArray, List.set_cons_zero, List.set_cons_succ]
        iterate 1 ((refine sched_read (v := ?_) rfl (Or.inl ⟨by rfl, ?_⟩) hHeld ?_; rotate_left 1; · (intro w' hSw; obtain ⟨t0, t1, t2⟩ := hSw; go_simp; (first | done | with_reducible rfl))); (try simp only [Act.put, List.setIfInBounds_toArray, List.set_cons_zero, List.set_cons_succ]))
        have hC9 := HCa.out.push_ev hse hown9 hg9 hd9
        have hty : ∀ t0, t0 ≠ 30 → TyRow W3 (Gr.val se).ownBlock (fun t => t ≠ t0) := fun t0 ht0 => TyRow.own HSR.out (Ne.symm ht0)
        have hbe9 := blk_typed HC3.out.t.e.b hgr (hty _ (by decide))
        have hfz9 : w9.frozen? ⟨p.t.ge, x.m.dst, none⟩ = false := hbe9.frozen _
        have hce9 : w9.cell? ⟨p.t.ge, x.m.dst, none⟩ = some (.slice se.A se.l.length se.c) := hHeld.2.1
        have hsx := grown_set1 w9 p.t.ge x.m.dst (.slice (some ⟨g9, 0, none⟩) (se.l.length + 1) c9)
        have hB9 : Blk (w9.setCell ⟨p.t.ge, x.m.dst, none⟩ (.slice (some ⟨g9, 0, none⟩) (se.l.length + 1) c9)) g4 104 #[.int .i64 x.m.frm, .int .i64 x.m.dst, .int .i64 0, .int .i64 x.m.idx, .int .i64 x.m.ord, .slice x.A x.m.kn.length x.c] := blk_typed (blk_typed HB3.out hgr (hty _ (by decide))) hsx (TyRow.blk hbe9 (by decide))
        have hBe9 : Blk (w9.setCell ⟨p.t.ge, x.m.dst, none⟩ (.slice (some ⟨g9, 0, none⟩) (se.l.length + 1) c9)) g6 30 e.cells.toArray := blk_typed hHeld.2.2 hsx (TyRow.blk hbe9 (by decide))
        have hXO9 : KnOwn (w9.setCell ⟨p.t.ge, x.m.dst, none⟩ (.slice (some ⟨g9, 0, none⟩) (se.l.length + 1) c9)) base x.A x.c x.m.kn := own_typed (own_typed HXO3.out hgr (hty _ (by decide))) hsx (TyRow.blk hbe9 (by decide))
        have hL9 : Below base W (w9.setCell ⟨p.t.ge, x.m.dst, none⟩ (.slice (some ⟨g9, 0, none⟩) (se.l.length + 1) c9)) := Below.setCell (Below.trans HL3.out (Below.grown (Below.refl base W3) hgr hz3 (fun k hk => (HSR.out.lt k hk).1))) H.out.t.ze _
        have HC4 := Lib.hid hC9
        have HB4 := Lib.hid hB9
        have HBe4 := Lib.hid hBe9
        have HXO4 := Lib.hid hXO9
        have HL4 := Lib.hid hL9
        clear hC9 hB9 hBe9 hXO9 hL9 hown9 hg9 hd9 hgr hsx hbe9 hty HSS HSR HBa HCa hEa HC3 HB3 HBe HL3 HXO3 hE3
        refine sched_tail rfl (by decide) (fun K hK => ?_)
        go_simp
        refine hK.out _ (w9.setCell ⟨p.t.ge, x.m.dst, none⟩ (.slice (some ⟨g9, 0, none⟩) (se.l.length + 1) c9)) ?_
        clear hK K
        refine sched_done ?_
        clear hHeld hfz9 hce9
        generalize w9.setCell ⟨p.t.ge, x.m.dst, none⟩ (.slice (some ⟨g9, 0, none⟩) (se.l.length + 1) c9) = W4 at HC4 HB4 HBe4 HXO4 HL4 ⊢
        obtain ⟨R4, hR4⟩ : ∃ R4, p.t.R.set x.m.dst ⟨some ⟨g9, 0, none⟩, c9, se.l ++ [e]⟩ = R4 := ⟨_, rfl⟩
        have hs4 : R4[x.m.dst]? = some ⟨some ⟨g9, 0, none⟩, c9, se.l ++ [e]⟩ := by rw [← hR4, List.getElem?_set, if_pos rfl, if_pos (by rw [H.out.t.ne]; exact hqn)]
        have HR4 := Lib.hid hR4
        have HC4' : CpM W4 base g n f ⟨⟨p.t.ge, p.t.gk, p.t.go, R4, p.t.K, p.t.os⟩, some ⟨gF, 0, none⟩, p.c, p.F.eraseIdx i⟩ := by rw [← hR4]; exact HC4.out
        obtain ⟨so, hso⟩ : ∃ so, p.t.os[x.m.dst]? = some so := ⟨_, List.getElem?_eq_getElem (by rw [H.out.t.no]; exact hqn)⟩
        have hcO4 := HC4'.t.cellO hso
        have hfO4 := HC4'.t.o.frozen x.m.dst
        obtain ⟨d0, d1, d2, d3, d4⟩ := HC4'.cells
        have hsx4 := grown_set1 W4 p.t.go x.m.dst (.int .i64 0)
        have HC5 : Hid (CpM (W4.setCell ⟨p.t.go, x.m.dst, none⟩ (.int .i64 0)) base g n f ⟨⟨p.t.ge, p.t.gk, p.t.go, R4, p.t.K, p.t.os.set x.m.dst 0⟩, some ⟨gF, 0, none⟩, p.c, p.F.eraseIdx i⟩) := HC4'.set_ord hqn 0
        have HB5 := Lib.hid (blk_typed HB4.out hsx4 (TyRow.blk HC4'.t.o (by decide)))
        have HBe5 := Lib.hid (blk_typed HBe4.out hsx4 (TyRow.blk HC4'.t.o (by decide)))
        have HXO5 := Lib.hid (own_typed HXO4.out hsx4 (TyRow.blk HC4'.t.o (by decide)))
        have HL5 : Hid (Below base W (W4.setCell ⟨p.t.go, x.m.dst, none⟩ (.int .i64 0))) := Below.setCell HL4.out H.out.t.zo _
        clear hR4 hsx4 HC4 HC4' HB4 HBe4 HXO4 HL4
        go_upto_region 8 with fail
        generalize W4.setCell ⟨p.t.go, x.m.dst, none⟩ (.int .i64 0) = W5 at HC5 HB5 HBe5 HXO5 HL5 ⊢
        clear d0 d1 d2 d3 d4 hcO4 hfO4
        have hcE5 : ∀ W', Ext W5 W' → W'.cell? ⟨g, 1, none⟩ = some (.slice (some ⟨p.t.ge, 0, none⟩) n n) ∧ W'.cell? ⟨p.t.ge, x.m.dst, none⟩ = some (.slice (some ⟨g9, 0, none⟩) (se.l.length + 1) c9) ∧ Blk W' g6 30 e.cells.toArray := fun W' hW => by
          have h9 := HC5.out.ext hW
          refine ⟨h9.cells.2.1, ?_, Blk.ext HBe5.out hW⟩
          have h10 := h9.t.cellE hs4
          rw [show (se.l ++ [e]).length = se.l.length + 1 by simp] at h10
          exact h10
        have HS5 := Lib.hid hcE5
        clear hcE5
        obtain ⟨d, hd⟩ : ∃ d : Dt, d = ⟨x.m.dst, (se.l.length : Int) + 1, e⟩ := ⟨_, rfl⟩
        have HDt := Lib.hid hd
        clear hd
        refine wp_region_sched (by kernel_rfl) 13 [(0, true), (1, true), (2, true), (3, true), (4, true), (5, true), (6, true), (7, true), (8, true), (9, true), (10, true), (11, true), (12, false), (13, false)] (fun W' => W'.cell? ⟨g, 1, none⟩ = some (.slice (some ⟨p.t.ge, 0, none⟩) n n) ∧ W'.cell? ⟨p.t.ge, x.m.dst, none⟩ = some (.slice (some ⟨g9, 0, none⟩) (se.l.length + 1) c9) ∧ Blk W' g6 30 e.cells.toArray) (by kernel_rfl) (fun _ _ dd _ _ h => by cases dd <;> exact h) (HS5.out _ (Below.drew (Ext.refl W5))) (fun hHeld => ?_)
        iterate 12 ((refine sched_read (v := ?_) rfl (Or.inl ⟨by rfl, ?_⟩) hHeld ?_; rotate_left 1; · (intro w' hSw; obtain ⟨t0, t1, t2⟩ := hSw; obtain ⟨⟨z0, z1, z2, z3, z4, z5, z6⟩, -⟩ := blk7 t2; go_simp; (first | done | with_reducible rfl))); (try simp only [Act.put, List.setIfInBounds_toArray, List.set_cons_zero, List.set_cons_succ]))
        have hE6 : Ext W5 (W5.drew.alloc (.cells #[.int .i64 0, .int .i64 0, .int .i64 0, .int .i64 0, .int .i64 0, .int .i64 0, .int .i64 0, .int .i64 0, .int .i64 0] 32)) := Ext.trans (Below.drew (Ext.refl W5)) ((Ext.refl W5.drew).allocs _)
        have hBz : Blk (W5.drew.alloc (.cells #[.int .i64 0, .int .i64 0, .int .i64 0, .int .i64 0, .int .i64 0, .int .i64 0, .int .i64 0, .int .i64 0, .int .i64 0] 32)) W5.drew.heap.size 32 #[.int .i64 0, .int .i64 0, .int .i64 0, .int .i64 0, .int .i64 0, .int .i64 0, .int .i64 0, .int .i64 0, .int .i64 0] := Blk.new W5.drew _ _
        obtain ⟨g7, hg7⟩ : ∃ g7, W5.heap.size = g7 := ⟨_, rfl⟩
        have hg7' : W5.drew.heap.size = g7 := hg7
        rw [hg7'] at hBz
        refine sched_eff rfl (fun K hK => ?_)
        go_simp
        refine hK.out _ (W5.drew.alloc (.cells #[.int .i64 0, .int .i64 0, .int .i64 0, .int .i64 0, .int .i64 0, .int .i64 0, .int .i64 0, .int .i64 0, .int .i64 0] 32)) (HS5.out _ hE6) (fun hHeld => ?_)
        clear hK K
        try simp only [Act.put, List.setIfInBounds_toArray, List.set_cons_zero, List.set_cons_succ]
        have hz5 : base ≤ W5.heap.size := Nat.le_trans hb HL5.out.size
        have hz7 : W5.heap.size ≤ g7 := by omega
        have HC6' := HC5.out.ext hE6
        have HB6' := Blk.ext HB5.out hE6
        have HXO6' := own_ext HXO5.out hE6
        generalize W5.drew.alloc (.cells #[.int .i64 0, .int .i64 0, .int .i64 0, .int .i64 0, .int .i64 0, .int .i64 0, .int .i64 0, .int .i64 0, .int .i64 0] 32) = Wz at hE6 hBz hHeld HC6' HB6' HXO6' ⊢
        have hput := Blk.put9 hBz d
        obtain ⟨hp1, hp2⟩ := hput
        have hpE := Ext.put9 hE6 hz7 d
        have HC6 : Hid (CpM (putD Wz g7 d) base g n f ⟨⟨p.t.ge, p.t.gk, p.t.go, R4, p.t.K, p.t.os.set x.m.dst 0⟩, some ⟨gF, 0, none⟩, p.c, p.F.eraseIdx i⟩) := HC5.out.ext hpE
        have HB6 : Hid (Blk (putD Wz g7 d) g4 104 #[.int .i64 x.m.frm, .int .i64 x.m.dst, .int .i64 0, .int .i64 x.m.idx, .int .i64 x.m.ord, .slice x.A x.m.kn.length x.c]) := Blk.ext HB5.out hpE
        have HBd6 := Lib.hid hp1
        have HXO6 := Lib.hid (own_ext HXO5.out hpE)
        have HL6 : Hid (Below base W (putD Wz g7 d)) := Below.trans HL5.out (hpE.mono hz5)
        have hzc := blk9 (d := ⟨0, 0, ⟨0, 0, 0, 0, 0, 0, 0⟩⟩) hBz
        have hzf := blk9f hBz
        obtain ⟨x0, x1, x2, x3, x4, x5, x6, x7, x8⟩ := hzc
        obtain ⟨y0, y1, y2, y3, y4, y5, y6, y7, y8⟩ := hzf
        clear hp1 hp2 hpE HC6' HB6' HXO6' HC5 HB5 HBe5 HXO5 HL5 hE6 hHeld
        refine sched_tail rfl (by decide) (fun K hK => ?_)
        go_simp
        refine hK.out _ (putD Wz g7 ⟨x.m.dst, (se.l.length : Int) + 1, e⟩) ?_
        clear hK K
        rw [← HDt.out]
        clear x0 x1 x2 x3 x4 x5 x6 x7 x8 y0 y1 y2 y3 y4 y5 y6 y7 y8 hBz
        refine sched_done ?_
        generalize putD Wz g7 d = W6 at HC6 HB6 HBd6 HXO6 HL6 ⊢
        have hcS6 : ∀ W', Ext W6 W' → W'.cell? ⟨g, 2, none⟩ = some (.slice (some ⟨p.t.gk, 0, none⟩) n n) ∧ W'.cell? ⟨p.t.gk, x.m.dst, none⟩ = some (.slice sk.A sk.l.length sk.c) ∧ W'.cell? ⟨g4, 5, none⟩ = some (.slice x.A x.m.kn.length x.c) := fun W' hW => by
          have h9 := HC6.out.ext hW
          exact ⟨h9.cells.2.2.1, h9.t.cellK hsk, (MgR.blk (x := x) (Blk.ext HB6.out hW)).2.2.2.2.2⟩
        have HS6 := Lib.hid hcS6
        clear hcS6
        go_upto_region 9 with fail
        refine wp_region_sched (by kernel_rfl) 12 [(0, true), (1, true), (2, true), (3, true), (4, true), (5, true), (6, true), (7, true), (8, true), (9, true), (10, true), (11, false), (12, false)] (fun W' => W'.cell? ⟨g, 2, none⟩ = some (.slice (some ⟨p.t.gk, 0, none⟩) n n) ∧ W'.cell? ⟨p.t.gk, x.m.dst, none⟩ = some (.slice sk.A sk.l.length sk.c) ∧ W'.cell? ⟨g4, 5, none⟩ = some (.slice x.A x.m.kn.length x.c)) (by kernel_rfl) (fun _ _ dd _ _ h => by cases dd <;> exact h) (HS6.out _ (Below.drew (Ext.refl W6))) (fun hHeld => ?_)
        iterate 11 ((refine sched_read (v := ?_) rfl (Or.inl ⟨by rfl, ?_⟩) hHeld ?_; rotate_left 1; · (intro w' hSw; obtain ⟨t0, t1, t2⟩ := hSw; go_simp; (first | done | with_reducible rfl))); (try simp only [Act.put, List.setIfInBounds_toArray, List.set_cons_zero, List.set_cons_succ]))
        have hE6d : Ext W6 W6.drew := Below.drew (Ext.refl W6)
        have HMG := Lib.hid (merge_code sk.A x.A sk.c x.c sk.l x.m.kn x.m.dst W6.drew (Seg.of_own (own_ext (HC6.out.t.k sk (List.mem_of_getElem? hsk)) hE6d)) (Seg.of_own (own_ext HXO6.out hE6d)) (by omega) (by omega) (fun k hk => by rcases List.mem_append.1 hk with hk | hk; exact HKK.out k hk; exact HMK.out k hk))
        refine sched_eff rfl (fun K hK => ?_)
        go_simp
        refine HMG.out.mono ?_
        rintro e9 w7 ⟨v, rfl, hown, hE⟩
        obtain ⟨A7, c7, rfl, -, -, -⟩ := own_slice hown
        have hE67 : Ext W6 w7 := Ext.trans hE6d hE
        refine hK.out _ _ (HS6.out _ hE67) (fun hHeld => ?_)
        clear hK K HMG
        try simp only [Act.put, List.setIfInBounds_toArray, List.set_cons_zero, List.set_cons_succ]
        have HC7 := Lib.hid (HC6.out.ext hE67)
        have HBd7 := Lib.hid (Blk.ext HBd6.out hE67)
        have HL7 : Hid (Below base W w7) := Below.trans HL6.out (hE67.mono (Nat.le_trans hb HL6.out.size))
        have HO7 : Hid (KnOwn w7 base A7 c7 (mergeV (bitV x.m.dst) sk.l x.m.kn)) := own_base hown (Nat.le_trans hb HL6.out.size)
        clear hown hE hE67 hE6d HC6 HB6 HBd6 HXO6 HL6
        refine sched_tail rfl (by decide) (fun K hK => ?_)
        go_simp
        refine hK.out _ _ ?_
        clear hK K hHeld
        try simp only [Act.put, List.setIfInBounds_toArray, List.set_cons_zero, List.set_cons_succ]
        refine sched_done ?_
        have hmok : ∀ k ∈ mergeV (bitV x.m.dst) sk.l x.m.kn, okH k.h := by
          intro k hk
          obtain ⟨y, hy, rfl⟩ := List.mem_map.1 hk
          refine orB_ok ?_ ((memV_of _ (fun k hk => by rcases List.mem_append.1 hk with hk | hk; exact HKK.out k hk; exact HMK.out k hk)).ok y hy)
          rw [bitV_nat (by omega)]
          exact okH_pow (by omega)
        have hmlen : (mergeV (bitV x.m.dst) sk.l x.m.kn).length ≤ 400 := by
          unfold mergeV
          rw [List.length_map]
          have := memV_len (sk.l ++ x.m.kn)
          rw [List.length_append] at this
          omega
        have HMO := Lib.hid hmok
        have HML := Lib.hid hmlen
        obtain ⟨M, hM⟩ : ∃ M, mergeV (bitV x.m.dst) sk.l x.m.kn = M := ⟨_, rfl⟩
        have HMe := Lib.hid hM
        rw [hM] at HO7 HMO HML ⊢
        clear hM hmok hmlen
        have hcS7 : ∀ W', Ext w7 W' → W'.cell? ⟨g, 2, none⟩ = some (.slice (some ⟨p.t.gk, 0, none⟩) n n) ∧ Blk W' g7 32 d.cells.toArray := fun W' hW => ⟨(HC7.out.ext hW).cells.2.2.1, Blk.ext HBd7.out hW⟩
        have HS7 := Lib.hid hcS7
        clear hcS7
        have hw2 : IntKind.u32.wrap ((2 : Int) ^ x.m.dst) = (2 : Int) ^ x.m.dst := wraps_u32' _ (okH_pow (m := x.m.dst) (by omega)).1 (by have := (okH_pow (m := x.m.dst) (by omega)).2; omega)
        go_upto_region 10 with fail
        refine wp_region_sched (by kernel_rfl) 13 [(0, true), (1, true), (2, true), (3, true), (4, true), (5, true), (6, true), (7, true), (8, true), (9, true), (10, true), (11, false), (12, true), (13, false)] (fun W' => W'.cell? ⟨g, 2, none⟩ = some (.slice (some ⟨p.t.gk, 0, none⟩) n n) ∧ Blk W' g7 32 d.cells.toArray) (by kernel_rfl) (fun _ _ dd _ _ h => by cases dd <;> exact h) (HS7.out _ (Below.drew (Ext.refl w7))) (fun hHeld => ?_)
        iterate 11 ((refine sched_read (v := ?_) rfl (Or.inl ⟨by rfl, ?_⟩) hHeld ?_; rotate_left 1; · (intro w' hSw; obtain ⟨t0, t1⟩ := hSw; obtain ⟨z0, z1, z2, z3, z4, z5, z6, z7, z8⟩ := blk9 t1; go_simp; (first | done | with_reducible rfl))); (try simp only [Act.put, List.setIfInBounds_toArray, List.set_cons_zero, List.set_cons_succ]))
        have hE7d : Ext w7 w7.drew := Below.drew (Ext.refl w7)
        have HAD := Lib.hid (add_any A7 c7 M ⟨d, (2 : Int) ^ x.m.dst⟩ w7.drew (Seg.of_own (own_ext HO7.out hE7d)) (by have := HML.out; omega) (fun k hk => by
          rcases List.mem_append.1 hk with hk | hk
          · exact HMO.out k hk
          · rw [List.mem_singleton] at hk; subst hk; exact okH_pow (by omega)))
        refine sched_eff rfl (fun K hK => ?_)
        go_simp
        refine HAD.out.mono ?_
        rintro e9 w8 ⟨v, rfl, hown, hE⟩
        obtain ⟨A8, c8, rfl, -, -, -⟩ := own_slice hown
        have hE78 : Ext w7 w8 := Ext.trans hE7d hE
        refine hK.out _ _ (HS7.out _ hE78) (fun hHeld => ?_)
        clear hK K HAD
        try simp only [Act.put, List.setIfInBounds_toArray, List.set_cons_zero, List.set_cons_succ]
        iterate 1 ((refine sched_read (v := ?_) rfl (Or.inl ⟨by rfl, ?_⟩) hHeld ?_; rotate_left 1; · (intro w' hSw; obtain ⟨t0, t1⟩ := hSw; go_simp; (first | done | with_reducible rfl))); (try simp only [Act.put, List.setIfInBounds_toArray, List.set_cons_zero, List.set_cons_succ]))
        have hC8 := HC7.out.ext hE78
        have hO8 : KnOwn w8 base A8 c8 (memV (M ++ [⟨d, (2 : Int) ^ x.m.dst⟩])) := own_base hown (Nat.le_trans hb HL7.out.size)
        have HC8 : Hid (CpM (w8.setCell ⟨p.t.gk, x.m.dst, none⟩ (.slice A8 (memV (M ++ [⟨d, (2 : Int) ^ x.m.dst⟩])).length c8)) base g n f ⟨⟨p.t.ge, p.t.gk, p.t.go, R4, p.t.K.set x.m.dst ⟨A8, c8, memV (M ++ [⟨d, (2 : Int) ^ x.m.dst⟩])⟩, p.t.os.set x.m.dst 0⟩, some ⟨gF, 0, none⟩, p.c, p.F.eraseIdx i⟩) := hC8.set_kn hqn hO8
        have HL8 : Hid (Below base W (w8.setCell ⟨p.t.gk, x.m.dst, none⟩ (.slice A8 (memV (M ++ [⟨d, (2 : Int) ^ x.m.dst⟩])).length c8))) := Below.setCell (Below.trans HL7.out (hE78.mono (Nat.le_trans hb HL7.out.size))) H.out.t.zk _
        have hfz8 : w8.frozen? ⟨p.t.gk, x.m.dst, none⟩ = false := hC8.t.kb.frozen _
        have hce8 := hC8.t.cellK hsk
        clear hown hE hE78 hE7d hC8 hO8 hHeld
        refine sched_tail rfl (by decide) (fun K hK => ?_)
        go_simp
        refine hK.out _ (w8.setCell ⟨p.t.gk, x.m.dst, none⟩ (.slice A8 (memV (M ++ [⟨d, (2 : Int) ^ x.m.dst⟩])).length c8)) ?_
        clear hK K
        refine sched_done ?_
        (try simp only [Exit.inBlock, Exit.then])
        go_wp2_with fail
        (try simp only [Exit.inBlock, Exit.then]); refine bodyPost_ret (results_none rfl _ _ _) rfl ?_
        refine ⟨rfl, _, HC8.out, ?_, HL8.out⟩
        unfold recvV
        rw [HFD.out]
        dsimp only
        rw [HED.out, HKD.out]
        simp only [Cp.st, List.map_set, ← HR4.out, ← HMe.out, HDt.out, HEv.out, bitV_nat (show x.m.dst < 32 by omega), map_erase]
      · have HV : Hid (canRecv p.st i = false) := by
          show _ = _
          have : decide ((p.st.ev.getD (p.st.fl.getD ((i : Int)).toNat mgD).dst []).length < 64) = false := decide_eq_false (by rw [Int.toNat_natCast, HFD.out, HED.out]; exact h64)
          unfold canRecv
          rw [this, Bool.and_false]
        rw [HV.out, if_neg (by simp)]
        have h64' : decide ((64 : Int) ≤ (se.l.length : Int)) = true := decide_eq_true (by omega)
        clear h64
        go_enter Try.func50, Try.ntmps50
        go_wp2_with fail
        (try simp only [Exit.inBlock, Exit.then]); refine bodyPost_ret (results_none rfl _ _ _) rfl ?_
        exact CpPost.ext H.out ((Ext.refl W).allocs _) hb
    · have HV : Hid (canRecv p.st o = false) := by
        show _ = _
        have : decide (o < p.st.fl.length) = false := decide_eq_false (by simpa [Cp.st] using hlt)
        unfold canRecv
        rw [this]; simp
      rw [HV.out, if_neg (by simp)]
      have hlt' : (p.F.length : Int) ≤ o := by omega
      go_enter Try.func50, Try.ntmps50
      go_wp2_with fail
      (try simp only [Exit.inBlock, Exit.then]); refine bodyPost_ret (results_none rfl _ _ _) rfl ?_
      exact CpPost.same H.out
end Go.Proofs.Ytfnnoncdocghjaa
namespace Go.Proofs.Ytfnnoncdocghjaa
open Go.RowKit
set_option linter.unusedVariables false
set_option maxRecDepth 100000

def Av.cells (a : Av) : List Value := [.int .i64 a.kind, .int .i64 a.proc, .int .i64 a.other]
theorem Av.len (a : Av) : a.cells.length = 3 := rfl
theorem Av.one (a : Av) : ∀ u ∈ a.cells, u.oneCell' = true := by simp [Av.cells, Value.oneCell']
abbrev AvSeg (w : World) (A : Option Addr) (l : List Av) : Prop := Seg w 3 A l.length (l.flatMap Av.cells)
theorem Av.at_ {w : World} {A : Option Addr} {l : List Av} (h : AvSeg w A l) {j : Nat} (hj : j < l.length) :
    ∃ b off, A = some ⟨b, off, none⟩ ∧ w.cell? ⟨b, off + j * 3, none⟩ = some (.int .i64 l[j].kind) ∧ w.cell? ⟨b, off + j * 3 + 1, none⟩ = some (.int .i64 l[j].proc) ∧ w.cell? ⟨b, off + j * 3 + 2, none⟩ = some (.int .i64 l[j].other) := by
  obtain ⟨b, off, hA, _, hc⟩ := Seg.at_ h Av.len hj
  exact ⟨b, off, hA, hc 0 _ rfl, hc 1 _ rfl, hc 2 _ rfl⟩
/-- a result of Play in memory -/
def SpM (W : World) (v : Value) (evs : List (List Ev)) (kns : List (List Kn)) : Prop :=
  ∃ (A1 A2 : Option Addr) (c1 c2 : Nat) (R : List (Gr Ev)) (K : List (Gr Kn)), v = .agg #[.slice A1 R.length c1, .slice A2 K.length c2] ∧ GSeg Ev.cells 7 W A1 R ∧ GSeg Kn.cells 10 W A2 K ∧ R.map Gr.l = evs ∧ K.map Gr.l = kns
theorem SpM.ext {W W' : World} {v : Value} {evs : List (List Ev)} {kns : List (List Kn)} (h : SpM W v evs kns) (hE : Ext W W') : SpM W' v evs kns := by
  obtain ⟨A1, A2, c1, c2, R, K, h1, h2, h3, h4⟩ := h
  exact ⟨A1, A2, c1, c2, R, K, h1, h2.ext hE, h3.ext hE, h4⟩
theorem SpM.nil (W : World) : SpM W (.agg #[.slice none 0 0, .slice none 0 0]) [] [] := ⟨none, none, 0, 0, [], [], rfl, GSeg.nil, GSeg.nil, rfl, rfl⟩
theorem TbM.sp {W : World} {base n : Nat} {t : Tb} (h : TbM W base n t) : SpM W (.agg #[.slice (some ⟨t.ge, 0, none⟩) n n, .slice (some ⟨t.gk, 0, none⟩) n n]) (t.R.map Gr.l) (t.K.map Gr.l) := by
  refine ⟨_, _, n, n, t.R, t.K, by rw [h.ne, h.nk], h.e.seg, ⟨Seg.ofBlkK h.kb (by rw [flat_len Gr.cells 1 Gr.len]), fun s hs => ?_⟩, rfl, rfl⟩
  obtain ⟨A, c, e, h1, h2, h3⟩ := own_slice (h.k s hs)
  injection e with e1 e2 e3
  subst e1 e3
  exact ⟨h1, h2, h3⟩
def okRange (n f : Int) : Prop := 1 ≤ n ∧ n ≤ 5 ∧ 0 ≤ f ∧ f ≤ n
instance (n f : Int) : Decidable (okRange n f) := by unfold okRange; infer_instance
/-- the result of Play: the error, the events, what is known -/
def playR (n f : Int) (l : List Av) : Int × List (List Ev) × List (List Kn) :=
  if okRange n f then if l.length ≤ 200 then (0, (playV n.toNat f l).ev, (playV n.toNat f l).kn) else (4, [], []) else (3, [], [])
def PlPost (n f : Int) (l : List Av) (w : World) (e : Ending) (w' : World) : Prop := ∃ v, e = .returned (.tuple #[v, .int .i64 (playR n f l).1]) ∧ SpM w' v (playR n f l).2.1 (playR n f l).2.2 ∧ Ext w w'

theorem infoEvs : (Try.prog.info? 65).map (fun i => (i.zero, i.size, i.bytes)) = some (some (.slice none 0 0), 1, 24) := by kernel_rfl
theorem infoKns : (Try.prog.info? 26).map (fun i => (i.zero, i.size, i.bytes)) = some (some (.slice none 0 0), 1, 24) := by kernel_rfl
theorem infoInt : (Try.prog.info? 3).map (fun i => (i.zero, i.size, i.bytes)) = some (some (.int .i64 0), 1, 8) := by kernel_rfl
theorem mk_evs (n : Nat) (hn : n ≤ 1000) (w : World) : (Instr.makeSlice 47 (.int .i64 (n : Int)) (.int .i64 (n : Int))).run Try.prog w =
    .ok (.slice (some ⟨w.heap.size, 0, none⟩) n n) (w.alloc (.cells ((List.replicate n (⟨none, 0, []⟩ : Gr Ev)).flatMap Gr.cells).toArray 65)) := by
  obtain ⟨i0, hi, hz0, hz1, hz2⟩ := info_parts infoEvs
  rw [run_make w 47 65 i0 _ Try.underlying47 hi hz0 .i64 .i64 _ _ (by omega) (Int.le_refl _) (by rw [hz2]; omega) (by omega)]
  rw [hz1, show ((n : Int)).toNat = n by omega, made_flat Gr.cells 1 (by omega) Gr.len (⟨none, 0, []⟩ : Gr Ev) (Value.slice none 0 0).cells rfl]
theorem mk_kns (n : Nat) (hn : n ≤ 1000) (w : World) : (Instr.makeSlice 48 (.int .i64 (n : Int)) (.int .i64 (n : Int))).run Try.prog w =
    .ok (.slice (some ⟨w.heap.size, 0, none⟩) n n) (w.alloc (.cells ((List.replicate n (⟨none, 0, []⟩ : Gr Kn)).flatMap Gr.cells).toArray 26)) := by
  obtain ⟨i0, hi, hz0, hz1, hz2⟩ := info_parts infoKns
  rw [run_make w 48 26 i0 _ Try.underlying48 hi hz0 .i64 .i64 _ _ (by omega) (Int.le_refl _) (by rw [hz2]; omega) (by omega)]
  rw [hz1, show ((n : Int)).toNat = n by omega, made_flat Gr.cells 1 (by omega) Gr.len (⟨none, 0, []⟩ : Gr Kn) (Value.slice none 0 0).cells rfl]
theorem mk_ints (n : Nat) (hn : n ≤ 1000) (w : World) : (Instr.makeSlice 62 (.int .i64 (n : Int)) (.int .i64 (n : Int))).run Try.prog w =
    .ok (.slice (some ⟨w.heap.size, 0, none⟩) n n) (w.alloc (.cells ((List.replicate n 0).flatMap Nv).toArray 3)) := by
  obtain ⟨i0, hi, hz0, hz1, hz2⟩ := info_parts infoInt
  rw [run_make w 62 3 i0 _ Try.underlying62 hi hz0 .i64 .i64 _ _ (by omega) (Int.le_refl _) (by rw [hz2]; omega) (by omega)]
  rw [hz1, show ((n : Int)).toNat = n by omega, made_flat Nv 1 (by omega) Nv.len 0 (Value.int .i64 0).cells rfl]
theorem load_sp {W : World} {b : Nat} {v1 v2 : Value} (h : Blk W b 50 #[v1, v2]) : (loadVar 50 ⟨b, 0, none⟩).run Try.prog W = .ok (.agg #[v1, v2]) W := by
  have c0 : W.cell? ⟨b, 0, none⟩ = some v1 := (h.cell 0).trans rfl
  have c1 : W.cell? ⟨b, 1, none⟩ = some v2 := (h.cell 1).trans rfl
  clear h
  go_simp
theorem res_sp {W : World} {b : Nat} {v1 v2 ev : Value} {tmps : Array Value} (h : Blk W b 50 #[v1, v2]) (h6 : tmps.getD 6 undef = .pointer (some ⟨b, 0, none⟩)) (h7 : tmps.getD 7 undef = ev) : (results Try.f24 tmps).run Try.prog W = .ok (.tuple #[.agg #[v1, v2], ev]) W := by
  rw [results_cell_tmp rfl, h6, h7]
  simp [asAddr, load_sp h]
theorem CpM.start_st (ge gk go n : Nat) : (⟨⟨ge, gk, go, List.replicate n ⟨none, 0, []⟩, List.replicate n ⟨none, 0, []⟩, List.replicate n 0⟩, none, 0, []⟩ : Cp).st = startV n := by simp [Cp.st, startV]
theorem blk2 {w : World} {g : Nat} {t : TypeId} {v0 v1 : Value} (h : Blk w g t #[v0, v1]) : (w.cell? ⟨g, 0, none⟩ = some v0 ∧ w.cell? ⟨g, 1, none⟩ = some v1) ∧ w.frozen? ⟨g, 0, none⟩ = false ∧ w.frozen? ⟨g, 1, none⟩ = false :=
  ⟨⟨(h.cell 0).trans rfl, (h.cell 1).trans rfl⟩, h.frozen 0, h.frozen 1⟩
theorem Blk.put2s {W : World} {g : Nat} {t : TypeId} {a0 a1 : Value} (h : Blk W g t #[a0, a1]) (b0 b1 : Value) :
    Blk ((W.setCell ⟨g, 0, none⟩ b0).setCell ⟨g, 1, none⟩ b1) g t #[b0, b1] ∧ W.grownBy ((W.setCell ⟨g, 0, none⟩ b0).setCell ⟨g, 1, none⟩ b1) (some g) := by
  refine ⟨?_, grownBy_trans (grown_set1 _ _ _ _) (grown_set1 _ _ _ _)⟩
  have := Blk.sets (w := W) [b0, b1] 0 W [a0, a1] h
  exact this
theorem put2of5 {W : World} {g : Nat} {t : TypeId} {a0 a1 a2 a3 a4 : Value} (h : Blk W g t #[a0, a1, a2, a3, a4]) (b1 b2 : Value) :
    Blk ((W.setCell ⟨g, 1, none⟩ b1).setCell ⟨g, 2, none⟩ b2) g t #[a0, b1, b2, a3, a4] ∧ W.grownBy ((W.setCell ⟨g, 1, none⟩ b1).setCell ⟨g, 2, none⟩ b2) (some g) := by
  refine ⟨?_, grownBy_trans (grown_set1 _ _ _ _) (grown_set1 _ _ _ _)⟩
  have := Blk.sets (w := W) [b1, b2] 1 W [a0, a1, a2, a3, a4] h
  exact this
theorem blk5 {w : World} {g : Nat} {t : TypeId} {v0 v1 v2 v3 v4 : Value} (h : Blk w g t #[v0, v1, v2, v3, v4]) :
    (w.cell? ⟨g, 0, none⟩ = some v0 ∧ w.cell? ⟨g, 1, none⟩ = some v1 ∧ w.cell? ⟨g, 2, none⟩ = some v2 ∧ w.cell? ⟨g, 3, none⟩ = some v3 ∧ w.cell? ⟨g, 4, none⟩ = some v4) ∧
    w.frozen? ⟨g, 0, none⟩ = false ∧ w.frozen? ⟨g, 1, none⟩ = false ∧ w.frozen? ⟨g, 2, none⟩ = false ∧ w.frozen? ⟨g, 3, none⟩ = false ∧ w.frozen? ⟨g, 4, none⟩ = false :=
  ⟨⟨(h.cell 0).trans rfl, (h.cell 1).trans rfl, (h.cell 2).trans rfl, (h.cell 3).trans rfl, (h.cell 4).trans rfl⟩, h.frozen 0, h.frozen 1, h.frozen 2, h.frozen 3, h.frozen 4⟩
def PlRel (w1 : World) (b6 g n : Nat) (f : Int) (l : List Av) (gg : Nat) (iv : Value) (wr : World) : Prop :=
  ∃ (j : Nat) (p : Cp), j ≤ l.length ∧ iv = .int .i64 j ∧ gg = l.length - j ∧ CpM wr w1.heap.size g n f p ∧ p.st = playV n f (l.take j) ∧ Ext w1 wr
def PlCut (w1 : World) (g n : Nat) (f : Int) (wx : World) : Prop := ∃ p, CpM wx w1.heap.size g n f p ∧ p.st = startV n ∧ Ext w1 wx
set_option maxHeartbeats 3200000 in
theorem play_any (n f : Int) (A : Option Addr) (c : Nat) (l : List Av) (w : World) (hs : AvSeg w A l) :
    Calls Try.prog 24 #[.int .i64 n, .int .i64 f, .slice A l.length c] w (PlPost n f l w) := by
  by_cases hR : okRange n f
  · by_cases hL : l.length ≤ 200
    · obtain ⟨h1, h2, h3, h4⟩ := hR
      obtain ⟨N, rfl⟩ : ∃ N : Nat, n = (N : Int) := ⟨n.toNat, by omega⟩
      have HV : Hid (playR N f l = (0, (playV N f l).ev, (playV N f l).kn)) := by show _ = _; unfold playR; rw [if_pos ⟨h1, h2, h3, h4⟩, if_pos hL, Int.toNat_natCast]
      unfold PlPost
      rw [HV.out]
      have hN5 : N ≤ 5 := by omega
      have hL' : ¬ (200 : Int) < (l.length : Int) := by omega
      have d1 : decide ((N : Int) < 1) = false := decide_eq_false (by omega)
      have d2 : decide ((5 : Int) < (N : Int)) = false := decide_eq_false (by omega)
      have d3 : decide (f < 0) = false := decide_eq_false (by omega)
      have d4 : decide ((N : Int) < f) = false := decide_eq_false (by omega)
      have d5 : decide ((200 : Int) < (l.length : Int)) = false := decide_eq_false (by omega)
      obtain ⟨w1, hw1⟩ : ∃ w1, w.alloc (.cells #[.slice none 0 0, .slice none 0 0] 50) = w1 := ⟨_, rfl⟩
      have hX1 : Ext w w1 := by rw [← hw1]; exact (Ext.refl w).allocs _
      have hB1 : Blk w1 w.heap.size 50 #[.slice none 0 0, .slice none 0 0] := by rw [← hw1]; exact Blk.new w _ _
      have hz1 : w1.heap.size = w.heap.size + 1 := by rw [← hw1]; simp
      have HS := Lib.hid (hs.ext hX1)
      have HX1 := Lib.hid hX1
      have HB1 := Lib.hid hB1
      have HZ1 := Lib.hid hz1
      have r5 := mk_ints N (by omega) w1
      have hE2 : Ext w1 (w1.alloc (.cells ((List.replicate N 0).flatMap Nv).toArray 3)) := (Ext.refl w1).allocs _
      have hBo2 : Blk (w1.alloc (.cells ((List.replicate N 0).flatMap Nv).toArray 3)) w1.heap.size 3 ((List.replicate N 0).flatMap Nv).toArray := Blk.new w1 _ _
      have hz2 : (w1.alloc (.cells ((List.replicate N 0).flatMap Nv).toArray 3)).heap.size = w1.heap.size + 1 := by simp
      obtain ⟨w2, hw2⟩ : ∃ w2, w1.alloc (.cells ((List.replicate N 0).flatMap Nv).toArray 3) = w2 := ⟨_, rfl⟩
      rw [hw2] at r5 hE2 hBo2 hz2
      clear hs hX1 hB1 hw2
      go_enter Try.func24, Try.ntmps24
      go_upto_region 5 with fail
      have HBg : Hid (Blk (w2.alloc (.cells #[.int .i64 f, .slice none 0 0, .slice none 0 0, .slice (some ⟨w1.heap.size, 0, none⟩) N N, .slice none 0 0] 85)) w2.heap.size 85 #[.int .i64 f, .slice none 0 0, .slice none 0 0, .slice (some ⟨w1.heap.size, 0, none⟩) N N, .slice none 0 0]) := Blk.new w2 _ _
      have HBo : Hid (Blk (w2.alloc (.cells #[.int .i64 f, .slice none 0 0, .slice none 0 0, .slice (some ⟨w1.heap.size, 0, none⟩) N N, .slice none 0 0] 85)) w1.heap.size 3 ((List.replicate N 0).flatMap Nv).toArray) := Blk.ext hBo2 ((Ext.refl w2).allocs _)
      obtain ⟨go, hgo⟩ : ∃ go, w1.heap.size = go := ⟨_, rfl⟩
      obtain ⟨g, hgg⟩ : ∃ g, w2.heap.size = g := ⟨_, rfl⟩
      have hgog : go ≤ g := by omega
      have HZ2 := Lib.hid hz2
      clear hz1 hz2
      rw [hgo, hgg] at HBg
      rw [hgo] at HBo r5
      have hE3 : Ext w1 (w2.alloc (.cells #[.int .i64 f, .slice none 0 0, .slice none 0 0, .slice (some ⟨go, 0, none⟩) N N, .slice none 0 0] 85)) := hE2.allocs _
      have HGO := Lib.hid hgo
      have HR5 := Lib.hid r5
      go_upto_region 6 with fail
      clear r5
      generalize w2.alloc (.cells #[.int .i64 f, .slice none 0 0, .slice none 0 0, .slice (some ⟨go, 0, none⟩) N N, .slice none 0 0] 85) = W3 at hE3 HBg HBo ⊢
      have hgz : w1.heap.size ≤ g := by have := HZ2.out; omega
      have hgoz : w1.heap.size ≤ go := by have := HGO.out; omega
      go_cut [8] (fun s8 wx => s8 = .pointer (some ⟨g, 0, none⟩) ∧ ∃ p, CpM wx w1.heap.size g N f p ∧ p.st = startV N ∧ Ext w1 wx)
      case first =>
        refine wp_region_sch (by kernel_rfl) 8 (.read 0 (.read 1 (.read 3 (.two 2 4 (.one 4 (.read 5 (.read 6 (.read 7 (.one 8 .done))))) (.one 2 (.read 5 (.read 6 (.read 7 (.one 8 .done))))))))) (fun _ => True) (by kernel_rfl) (fun _ _ dd _ _ h => by cases dd <;> exact h) trivial (fun hHeld => ?_)
        iterate 3 ((refine sch_read (v := ?_) rfl (Or.inl ⟨by rfl, ?_⟩) hHeld ?_; rotate_left 1; · (intro w' hSw; go_simp; (first | done | with_reducible rfl))); (try simp only [Act.put, List.setIfInBounds_toArray, List.set_cons_zero, List.set_cons_succ]))
        refine sch_two rfl rfl (fun K hK => ?_) (fun K hK => ?_)
        · have hm1 := mk_evs N (by omega) W3.drew
          obtain ⟨ga, hga⟩ : ∃ ga, W3.drew.heap.size = ga := ⟨_, rfl⟩
          have b1 := Blk.new W3.drew 65 ((List.replicate N (⟨none, 0, []⟩ : Gr Ev)).flatMap Gr.cells).toArray
          have x1 : Ext W3 (W3.drew.alloc (.cells ((List.replicate N (⟨none, 0, []⟩ : Gr Ev)).flatMap Gr.cells).toArray 65)) := Ext.trans (Below.drew (Ext.refl W3)) ((Ext.refl W3.drew).allocs _)
          have hz1 : (W3.drew.alloc (.cells ((List.replicate N (⟨none, 0, []⟩ : Gr Ev)).flatMap Gr.cells).toArray 65)).heap.size = ga + 1 := by rw [← hga]; simp
          obtain ⟨wa, hwa⟩ : ∃ wa, W3.drew.alloc (.cells ((List.replicate N (⟨none, 0, []⟩ : Gr Ev)).flatMap Gr.cells).toArray 65) = wa := ⟨_, rfl⟩
          rw [hwa] at hm1 b1 x1 hz1
          rw [hga] at hm1 b1
          have hgW : W3.heap.size ≤ ga := by rw [← hga]; exact Nat.le_refl _
          go_simp
          refine hK.out _ _ trivial (fun hHeld => ?_)
          clear hK K
          try simp only [Act.put, List.setIfInBounds_toArray, List.set_cons_zero, List.set_cons_succ]
          clear hm1 hwa hga
          have hm2 := mk_kns N (by omega) wa
          rw [hz1] at hm2
          have b2 := Blk.new wa 26 ((List.replicate N (⟨none, 0, []⟩ : Gr Kn)).flatMap Gr.cells).toArray
          rw [hz1] at b2
          have x2 : Ext wa (wa.alloc (.cells ((List.replicate N (⟨none, 0, []⟩ : Gr Kn)).flatMap Gr.cells).toArray 26)) := (Ext.refl wa).allocs _
          obtain ⟨wb, hwb⟩ : ∃ wb, wa.alloc (.cells ((List.replicate N (⟨none, 0, []⟩ : Gr Kn)).flatMap Gr.cells).toArray 26) = wb := ⟨_, rfl⟩
          rw [hwb] at hm2 b2 x2
          refine sch_one rfl (fun K hK => ?_)
          go_simp
          refine hK.out _ _ trivial (fun hHeld => ?_)
          clear hK K
          try simp only [Act.put, List.setIfInBounds_toArray, List.set_cons_zero, List.set_cons_succ]
          clear hm2
          have hB1 := Blk.ext b1 x2
          have hX := Ext.trans x1 x2
          have hBg := Blk.ext HBg.out hX
          have hBo := Blk.ext HBo.out hX
          obtain ⟨⟨z0, z1, z2, z3, z4⟩, y0, y1, y2, y3, y4⟩ := blk5 hBg
          iterate 3 ((refine sch_read (v := ?_) rfl (Or.inl ⟨by rfl, ?_⟩) hHeld ?_; rotate_left 1; · (intro w' hSw; go_simp; (first | done | with_reducible rfl))); (try simp only [Act.put, List.setIfInBounds_toArray, List.set_cons_zero, List.set_cons_succ]))
          refine sch_tail rfl (by decide) (fun K hK => ?_)
          go_simp
          refine hK.out _ _ ?_
          clear hK K
          refine sch_done ?_
          go_wp2_with fail
          go_meet
          have hgaz : w1.heap.size ≤ ga := Nat.le_trans hE3.size hgW
          have hgaz1 : w1.heap.size ≤ ga + 1 := by omega
          refine ⟨rfl, _, ?_, CpM.start_st ga (ga + 1) go N, ?_⟩
          · exact CpM.start (put2of5 hBg _ _).1 (blk_typed hB1 (put2of5 hBg _ _).2 (TyRow.blk hBg (by decide))) (blk_typed b2 (put2of5 hBg _ _).2 (TyRow.blk hBg (by decide))) (blk_typed hBo (put2of5 hBg _ _).2 (TyRow.blk hBg (by decide))) hgz hgaz hgaz1 hgoz
          · exact ((Ext.trans hE3 hX).set hgz _).set hgz _
        · have hm1 := mk_kns N (by omega) W3.drew
          obtain ⟨ga, hga⟩ : ∃ ga, W3.drew.heap.size = ga := ⟨_, rfl⟩
          have b1 := Blk.new W3.drew 26 ((List.replicate N (⟨none, 0, []⟩ : Gr Kn)).flatMap Gr.cells).toArray
          have x1 : Ext W3 (W3.drew.alloc (.cells ((List.replicate N (⟨none, 0, []⟩ : Gr Kn)).flatMap Gr.cells).toArray 26)) := Ext.trans (Below.drew (Ext.refl W3)) ((Ext.refl W3.drew).allocs _)
          have hz1 : (W3.drew.alloc (.cells ((List.replicate N (⟨none, 0, []⟩ : Gr Kn)).flatMap Gr.cells).toArray 26)).heap.size = ga + 1 := by rw [← hga]; simp
          obtain ⟨wa, hwa⟩ : ∃ wa, W3.drew.alloc (.cells ((List.replicate N (⟨none, 0, []⟩ : Gr Kn)).flatMap Gr.cells).toArray 26) = wa := ⟨_, rfl⟩
          rw [hwa] at hm1 b1 x1 hz1
          rw [hga] at hm1 b1
          have hgW : W3.heap.size ≤ ga := by rw [← hga]; exact Nat.le_refl _
          go_simp
          refine hK.out _ _ trivial (fun hHeld => ?_)
          clear hK K
          try simp only [Act.put, List.setIfInBounds_toArray, List.set_cons_zero, List.set_cons_succ]
          clear hm1 hwa hga
          have hm2 := mk_evs N (by omega) wa
          rw [hz1] at hm2
          have b2 := Blk.new wa 65 ((List.replicate N (⟨none, 0, []⟩ : Gr Ev)).flatMap Gr.cells).toArray
          rw [hz1] at b2
          have x2 : Ext wa (wa.alloc (.cells ((List.replicate N (⟨none, 0, []⟩ : Gr Ev)).flatMap Gr.cells).toArray 65)) := (Ext.refl wa).allocs _
          obtain ⟨wb, hwb⟩ : ∃ wb, wa.alloc (.cells ((List.replicate N (⟨none, 0, []⟩ : Gr Ev)).flatMap Gr.cells).toArray 65) = wb := ⟨_, rfl⟩
          rw [hwb] at hm2 b2 x2
          refine sch_one rfl (fun K hK => ?_)
          go_simp
          refine hK.out _ _ trivial (fun hHeld => ?_)
          clear hK K
          try simp only [Act.put, List.setIfInBounds_toArray, List.set_cons_zero, List.set_cons_succ]
          clear hm2
          have hB1 := Blk.ext b1 x2
          have hX := Ext.trans x1 x2
          have hBg := Blk.ext HBg.out hX
          have hBo := Blk.ext HBo.out hX
          obtain ⟨⟨z0, z1, z2, z3, z4⟩, y0, y1, y2, y3, y4⟩ := blk5 hBg
          iterate 3 ((refine sch_read (v := ?_) rfl (Or.inl ⟨by rfl, ?_⟩) hHeld ?_; rotate_left 1; · (intro w' hSw; go_simp; (first | done | with_reducible rfl))); (try simp only [Act.put, List.setIfInBounds_toArray, List.set_cons_zero, List.set_cons_succ]))
          refine sch_tail rfl (by decide) (fun K hK => ?_)
          go_simp
          refine hK.out _ _ ?_
          clear hK K
          refine sch_done ?_
          go_wp2_with fail
          go_meet
          have hgaz : w1.heap.size ≤ ga := Nat.le_trans hE3.size hgW
          have hgaz1 : w1.heap.size ≤ ga + 1 := by omega
          refine ⟨rfl, _, ?_, CpM.start_st (ga + 1) ga go N, ?_⟩
          · exact CpM.start (put2of5 hBg _ _).1 (blk_typed b2 (put2of5 hBg _ _).2 (TyRow.blk hBg (by decide))) (blk_typed hB1 (put2of5 hBg _ _).2 (TyRow.blk hBg (by decide))) (blk_typed hBo (put2of5 hBg _ _).2 (TyRow.blk hBg (by decide))) hgz hgaz1 hgaz hgoz
          · exact ((Ext.trans hE3 hX).set hgz _).set hgz _
      case rest =>
        obtain ⟨rfl, p0, hC0, hst0, hE0⟩ := hcut
        have HC0 := Lib.hid hC0
        have HST0 := Lib.hid hst0
        have HE0 := Lib.hid hE0
        have HB1c := Lib.hid (Blk.ext HB1.out hE0)
        clear hC0 hst0 hE0
        go_wp2_with fail
        go_loopg [46] l.length (fun gg iv wr => PlRel w1 w.heap.size g N f l gg iv wr)
        case atStart => exact ⟨0, p0, Nat.zero_le _, rfl, rfl, HC0.out, HST0.out, HE0.out⟩
        case round =>
          obtain ⟨j, p, hj, rfl, rfl, hC, hst, hE⟩ := hrel
          by_cases hlt : j < l.length
          · have HWF := Lib.hid (WF.play N f (by omega) l j hj)
            have HNX := Lib.hid (playV_take N f l j hlt)
            rw [← hst] at HWF HNX
            obtain ⟨b, off, rfl, q0, q1, q2⟩ := Av.at_ (HS.out.ext hE) hlt
            obtain ⟨a, ha⟩ : ∃ a, l[j] = a := ⟨_, rfl⟩
            rw [ha] at q0 q1 q2 HNX
            clear ha
            have hj200 : j ≤ 200 := by omega
            have hEa : Ext wr (wr.alloc (.cells #[.int .i64 a.kind, .int .i64 a.proc, .int .i64 a.other] 74)) := (Ext.refl wr).allocs _
            have hBa : Blk (wr.alloc (.cells #[.int .i64 a.kind, .int .i64 a.proc, .int .i64 a.other] 74)) wr.heap.size 74 #[.int .i64 a.kind, .int .i64 a.proc, .int .i64 a.other] := Blk.new wr _ _
            have HCa := Lib.hid (hC.ext hEa)
            have hEx : Ext w1 (wr.alloc (.cells #[.int .i64 a.kind, .int .i64 a.proc, .int .i64 a.other] 74)) := Ext.trans hE hEa
            obtain ⟨ga, hga⟩ : ∃ ga, wr.heap.size = ga := ⟨_, rfl⟩
            rw [hga] at hBa
            have HEX := Lib.hid hEx
            have HBA := Lib.hid hBa
            have HZW : Hid (w1.heap.size ≤ (wr.alloc (.cells #[.int .i64 a.kind, .int .i64 a.proc, .int .i64 a.other] 74)).heap.size) := hEx.size
            clear hC hE hEa hEx hBa
            go_upto_region 10 with fail
            generalize wr.alloc (.cells #[.int .i64 a.kind, .int .i64 a.proc, .int .i64 a.other] 74) = wx at HCa HEX HBA HZW ⊢
            have z0 : wx.cell? ⟨ga, 0, none⟩ = some (.int .i64 a.kind) := (HBA.out.cell 0).trans rfl
            have z1 : wx.cell? ⟨ga, 1, none⟩ = some (.int .i64 a.proc) := (HBA.out.cell 1).trans rfl
            have z2 : wx.cell? ⟨ga, 2, none⟩ = some (.int .i64 a.other) := (HBA.out.cell 2).trans rfl
            clear q0 q1 q2
            have HSD := Lib.hid (send_any wx w1.heap.size g N j f p HCa.out HWF.out hj200 hN5 HZW.out a.proc a.other)
            have HRC := Lib.hid (receive_any wx w1.heap.size g N j f p HCa.out HWF.out hj200 hN5 HZW.out a.other)
            have HPR := Lib.hid (process_any wx w1.heap.size g N f p HCa.out a.proc hN5)
            by_cases k1 : a.kind = 1
            · have e1 : (a.kind == 1) = true := by simp [k1]
              have HA1 : Hid (actV N f p.st a = if canSend N p.st a.proc a.other then sendV f p.st a.proc.toNat a.other.toNat else p.st) := by show _ = _; unfold actV; rw [if_pos k1]
              clear k1
              go_wp2_with fail
              refine HSD.out.mono ?_
              rintro e w5 ⟨rfl, p', hC', hst', hL'⟩
              go_wp2_with fail
              go_roundg (l.length - (j + 1))
              case measure => omega
              case rel => exact ⟨j + 1, p', by omega, by go_num, rfl, hC', by rw [HNX.out, HA1.out]; exact hst', Below.trans HEX.out hL'⟩
            · have e1 : (a.kind == 1) = false := by simp [k1]
              by_cases k2 : a.kind = 2
              · have e2 : (a.kind == 2) = true := by simp [k2]
                have HA1 : Hid (actV N f p.st a = if canRecv p.st a.other then recvV p.st a.other.toNat else p.st) := by show _ = _; unfold actV; rw [if_neg k1, if_pos k2]
                clear k1 k2
                go_wp2_with fail
                refine HRC.out.mono ?_
                rintro e w5 ⟨rfl, p', hC', hst', hL'⟩
                go_wp2_with fail
                go_roundg (l.length - (j + 1))
                case measure => omega
                case rel => exact ⟨j + 1, p', by omega, by go_num, rfl, hC', by rw [HNX.out, HA1.out]; exact hst', Below.trans HEX.out hL'⟩
              · have e2 : (a.kind == 2) = false := by simp [k2]
                by_cases k3 : a.kind = 3
                · have e3 : (a.kind == 3) = true := by simp [k3]
                  have HA1 : Hid (actV N f p.st a = if okProc N a.proc then ckptV N p.st a.proc.toNat else p.st) := by show _ = _; unfold actV; rw [if_neg k1, if_neg k2, if_pos k3]
                  clear k1 k2 k3
                  by_cases hp : okProc N a.proc = true
                  · obtain ⟨pn, hpn⟩ : ∃ pn : Nat, a.proc = (pn : Int) := ⟨a.proc.toNat, by have := (okProc_iff.1 hp).1; omega⟩
                    rw [hp, if_pos rfl] at HA1
                    rw [hpn] at z1 HPR HA1 hp
                    rw [Int.toNat_natCast] at HA1
                    clear hpn
                    have hpl := (okProc_iff.1 hp).2
                    have hpl0 : (0 : Int) ≤ (pn : Int) := by omega
                    have hpN : pn < N := by omega
                    obtain ⟨sk, hsk⟩ : ∃ sk, p.t.K[pn]? = some sk := ⟨_, List.getElem?_eq_getElem (by rw [HCa.out.t.nk]; exact hpN)⟩
                    obtain ⟨G, hG1, hG2, -⟩ := HWF.out.g
                    have hkk := hG2 sk.l (List.mem_map.2 ⟨sk, List.mem_of_getElem? hsk, rfl⟩)
                    have hkl : sk.l.length ≤ 200 := by have := hkk.len; omega
                    have HKK : Hid (∀ k ∈ sk.l, okH k.h) := hkk.ok
                    have HKD : Hid (p.st.kn.getD pn [] = sk.l) := by show _ = _; simp [Cp.st, List.getD_eq_getElem?_getD, hsk]
                    clear hG1 hG2 hkk
                    go_wp2_with fail
                    refine HPR.out.mono ?_
                    rintro e w5 ⟨rfl, rfl⟩
                    rw [hp]
                    have hcS : ∀ W', Ext w5 W' → W'.cell? ⟨g, 2, none⟩ = some (.slice (some ⟨p.t.gk, 0, none⟩) N N) ∧ W'.cell? ⟨p.t.gk, pn, none⟩ = some (.slice sk.A sk.l.length sk.c) ∧ W'.cell? ⟨ga, 1, none⟩ = some (.int .i64 pn) := fun W' hW => by
                      have h9 := HCa.out.ext hW
                      exact ⟨h9.cells.2.2.1, h9.t.cellK hsk, by rw [hW.cell (p := ⟨ga, 1, none⟩) HBA.out.lt]; exact z1⟩
                    have HSS := Lib.hid hcS
                    clear hcS
                    go_wp2_with fail
                    refine wp_region_sched (by kernel_rfl) 19 [(0, true), (1, true), (2, true), (3, true), (4, true), (5, true), (6, true), (7, true), (8, true), (9, true), (10, true), (11, true), (12, true), (13, true), (14, true), (15, true), (16, true), (17, false), (18, true), (19, false)] (fun W' => W'.cell? ⟨g, 2, none⟩ = some (.slice (some ⟨p.t.gk, 0, none⟩) N N) ∧ W'.cell? ⟨p.t.gk, pn, none⟩ = some (.slice sk.A sk.l.length sk.c) ∧ W'.cell? ⟨ga, 1, none⟩ = some (.int .i64 pn)) (by kernel_rfl) (fun _ _ dd _ _ h => by cases dd <;> exact h) (HSS.out _ (Below.drew (Ext.refl w5))) (fun hHeld => ?_)
                    iterate 17 ((refine sched_read (v := ?_) rfl (Or.inl ⟨by rfl, ?_⟩) hHeld ?_; rotate_left 1; · (intro w' hSw; obtain ⟨t0, t1, t2⟩ := hSw; go_simp; (first | done | with_reducible rfl))); (try simp only [Act.put, List.setIfInBounds_toArray, List.set_cons_zero, List.set_cons_succ]))
                    have hEd : Ext w5 w5.drew := Below.drew (Ext.refl w5)
                    have HST5 := Lib.hid (stable_code sk.A sk.c sk.l N N (by omega) w5.drew (Seg.of_own (own_ext (HCa.out.t.k sk (List.mem_of_getElem? hsk)) hEd)) (by omega) HKK.out)
                    refine sched_eff rfl (fun K hK => ?_)
                    go_simp
                    refine HST5.out.mono ?_
                    rintro e9 w8 ⟨v, rfl, hown, hE⟩
                    obtain ⟨A8, c8, rfl, -, -, -⟩ := own_slice hown
                    have hE58 : Ext w5 w8 := Ext.trans hEd hE
                    refine hK.out _ _ (HSS.out _ hE58) (fun hHeld => ?_)
                    clear hK K HST5
                    try simp only [Act.put, List.setIfInBounds_toArray, List.set_cons_zero, List.set_cons_succ]
                    iterate 1 ((refine sched_read (v := ?_) rfl (Or.inl ⟨by rfl, ?_⟩) hHeld ?_; rotate_left 1; · (intro w' hSw; obtain ⟨t0, t1, t2⟩ := hSw; go_simp; (first | done | with_reducible rfl))); (try simp only [Act.put, List.setIfInBounds_toArray, List.set_cons_zero, List.set_cons_succ]))
                    have hC8 := HCa.out.ext hE58
                    have hO8 : KnOwn w8 w1.heap.size A8 c8 (sk.l.map (stK N)) := own_base hown HZW.out
                    have HC8 := Lib.hid (hC8.set_kn hpN hO8)
                    have HL8 : Hid (Ext w1 (w8.setCell ⟨p.t.gk, pn, none⟩ (.slice A8 (sk.l.map (stK N)).length c8))) := Below.setCell (Below.trans HEX.out (hE58.mono HZW.out)) HCa.out.t.zk _
                    have hfz8 : w8.frozen? ⟨p.t.gk, pn, none⟩ = false := hC8.t.kb.frozen _
                    have hce8 := hC8.t.cellK hsk
                    clear hown hE hE58 hEd hC8 hO8 hHeld
                    have hlm : (sk.l.map (stK N)).length = sk.l.length := List.length_map ..
                    rw [hlm] at HC8 HL8
                    refine sched_tail rfl (by decide) (fun K hK => ?_)
                    go_simp
                    refine hK.out _ (w8.setCell ⟨p.t.gk, pn, none⟩ (.slice A8 sk.l.length c8)) ?_
                    clear hK K
                    refine sched_done ?_
                    (try simp only [Exit.inBlock, Exit.then])
                    go_wp2_with fail
                    go_roundg (l.length - (j + 1))
                    case measure => omega
                    case rel =>
                      refine ⟨j + 1, _, by omega, by go_num, rfl, HC8.out, ?_, HL8.out⟩
                      rw [HNX.out, HA1.out]
                      unfold ckptV
                      rw [HKD.out]
                      simp [Cp.st, List.map_set]
                  · have hp' : okProc N a.proc = false := by simpa using hp
                    rw [hp', if_neg (by simp)] at HA1
                    go_wp2_with fail
                    refine HPR.out.mono ?_
                    rintro e w5 ⟨rfl, rfl⟩
                    rw [hp']
                    go_wp2_with fail
                    go_roundg (l.length - (j + 1))
                    case measure => omega
                    case rel => exact ⟨j + 1, p, by omega, by go_num, rfl, HCa.out, by rw [HNX.out, HA1.out], HEX.out⟩
                · have e3 : (a.kind == 3) = false := by simp [k3]
                  have HA1 : Hid (actV N f p.st a = p.st) := by show _ = _; unfold actV; rw [if_neg k1, if_neg k2, if_neg k3]
                  clear k1 k2 k3
                  go_wp2_with fail
                  go_roundg (l.length - (j + 1))
                  case measure => omega
                  case rel => exact ⟨j + 1, p, by omega, by go_num, rfl, HCa.out, by rw [HNX.out, HA1.out], HEX.out⟩
          · obtain rfl : j = l.length := by omega
            rw [List.take_of_length_le (Nat.le_refl _)] at hst
            have HST := Lib.hid hst
            obtain ⟨c0, c1, c2, c3, c4⟩ := hC.cells
            have hB6 := Blk.ext HB1.out hE
            obtain ⟨⟨x0, x1⟩, y0, y1⟩ := blk2 hB6
            have hput := Blk.put2s hB6 (.slice (some ⟨p.t.ge, 0, none⟩) N N) (.slice (some ⟨p.t.gk, 0, none⟩) N N)
            have hsp := (hC.t.typed hput.2 (TyRow.blk hB6 (by decide))).sp
            rw [show p.t.R.map Gr.l = (playV N f l).ev from congrArg Cm.ev hst, show p.t.K.map Gr.l = (playV N f l).kn from congrArg Cm.kn hst] at hsp
            have hEf := ((Ext.trans HX1.out hE).set (o := 0) (Nat.le_refl w.heap.size) (.slice (some ⟨p.t.ge, 0, none⟩) N N)).set (o := 1) (Nat.le_refl w.heap.size) (.slice (some ⟨p.t.gk, 0, none⟩) N N)
            have HSP := Lib.hid hsp
            have HEF := Lib.hid hEf
            have HPUT := Lib.hid hput.1
            clear hsp hEf hput hB6 hst hC hE
            go_wp2_with fail
            (try simp only [Exit.inBlock, Exit.then])
            refine bodyPost_ret (res_sp HPUT.out rfl rfl) rfl ?_
            exact ⟨_, rfl, HSP.out, HEF.out⟩
    · have HV : Hid (playR n f l = (4, [], [])) := by show _ = _; unfold playR; rw [if_pos hR, if_neg hL]
      obtain ⟨h1, h2, h3, h4⟩ := hR
      have hL' : (200 : Int) < (l.length : Int) := by omega
      clear hL hs
      unfold PlPost
      rw [HV.out]
      go_enter Try.func24, Try.ntmps24
      go_wp2_with fail
      (try simp only [Exit.inBlock, Exit.then]); refine bodyPost_ret (res_sp (Blk.new w _ _) rfl rfl) rfl ?_
      exact ⟨_, rfl, SpM.nil _, (Ext.refl w).allocs _⟩
  · have HV : Hid (playR n f l = (3, [], [])) := by show _ = _; unfold playR; rw [if_neg hR]
    unfold PlPost
    rw [HV.out]
    by_cases h1 : n < 1
    · go_enter Try.func24, Try.ntmps24
      go_wp2_with fail
      (try simp only [Exit.inBlock, Exit.then]); refine bodyPost_ret (res_sp (Blk.new w _ _) rfl rfl) rfl ?_
      exact ⟨_, rfl, SpM.nil _, (Ext.refl w).allocs _⟩
    · by_cases h2 : 5 < n
      · go_enter Try.func24, Try.ntmps24
        go_wp2_with fail
        (try simp only [Exit.inBlock, Exit.then]); refine bodyPost_ret (res_sp (Blk.new w _ _) rfl rfl) rfl ?_
        exact ⟨_, rfl, SpM.nil _, (Ext.refl w).allocs _⟩
      · by_cases h3 : f < 0
        · go_enter Try.func24, Try.ntmps24
          go_wp2_with fail
          (try simp only [Exit.inBlock, Exit.then]); refine bodyPost_ret (res_sp (Blk.new w _ _) rfl rfl) rfl ?_
          exact ⟨_, rfl, SpM.nil _, (Ext.refl w).allocs _⟩
        · have h4 : n < f := by unfold okRange at hR; omega
          go_enter Try.func24, Try.ntmps24
          go_wp2_with fail
          (try simp only [Exit.inBlock, Exit.then]); refine bodyPost_ret (res_sp (Blk.new w _ _) rfl rfl) rfl ?_
          exact ⟨_, rfl, SpM.nil _, (Ext.refl w).allocs _⟩
end Go.Proofs.Ytfnnoncdocghjaa
namespace Go.Proofs.Ytfnnoncdocghjaa
open Go.RowKit
set_option linter.unusedVariables false
set_option maxRecDepth 100000

def awL : List Av := [⟨1, 0, 1⟩, ⟨2, 0, 0⟩, ⟨1, 1, 2⟩, ⟨2, 0, 0⟩]
theorem aw_len : (playR 3 1 awL).2.2.map List.length = [0, 1, 2] := by rfl
theorem aw_err : (playR 3 1 awL).1 = 0 := by rfl
theorem aw_two : ((playR 3 1 awL).2.2.getD 2 []).map (fun k => (k.h, k.d.proc)) = [(6, 1), (4, 2)] := by rfl
theorem aw_cnt : ((cnt 6 : Nat) : Int) = 2 := by rfl
set_option maxHeartbeats 1600000 in
theorem awake_any (w : World) : Calls Try.prog 12 #[] w (ExtPost w (.bool true)) := by
  have hS : AvSeg (w.alloc (.cells #[.int .i64 1, .int .i64 0, .int .i64 1, .int .i64 2, .int .i64 0, .int .i64 0, .int .i64 1, .int .i64 1, .int .i64 2, .int .i64 2, .int .i64 0, .int .i64 0] 74)) (some ⟨w.heap.size, 0, none⟩) awL := Seg.ofBlkK (Blk.new w 74 _) rfl
  have HP : Hid (Calls Try.prog 24 #[.int .i64 3, .int .i64 1, .slice (some ⟨w.heap.size, 0, none⟩) 4 4] (w.alloc (.cells #[.int .i64 1, .int .i64 0, .int .i64 1, .int .i64 2, .int .i64 0, .int .i64 0, .int .i64 1, .int .i64 1, .int .i64 2, .int .i64 2, .int .i64 0, .int .i64 0] 74)) (PlPost 3 1 awL _)) := play_any 3 1 _ 4 awL _ hS
  clear hS
  have hct := fun w => count_any 6 w (by omega) (by omega)
  rw [aw_cnt] at hct
  have HCT := Lib.hid hct
  clear hct
  go_enter Try.func12, Try.ntmps12
  go_wp2_with fail
  refine HP.out.mono ?_
  rintro e w1 ⟨v, rfl, hsp, hE⟩
  have hX : Ext w w1 := Ext.trans ((Ext.refl w).allocs _) hE
  have hlen := aw_len
  have htwo := aw_two
  rw [aw_err]
  clear HP hE
  generalize (playR 3 1 awL).2.2 = kns at hsp hlen htwo
  generalize (playR 3 1 awL).2.1 = evs at hsp
  obtain ⟨A1, A2, c1, c2, R, K, rfl, h1, h2, h3, h4⟩ := hsp
  have hK3 : K.length = 3 := by
    have := congrArg List.length hlen
    rw [← h4] at this
    simpa using this
  have hK2 : (kns.getD 2 []) = (K[2]'(by omega)).l := by rw [← h4]; simp [List.getD_eq_getElem?_getD, hK3]
  rw [hK2] at htwo
  have hl2 : (K[2]'(by omega)).l.length = 2 := by have := congrArg List.length htwo; simpa using this
  have hh0 : ((K[2]'(by omega)).l[0]'(by omega)).h = 6 ∧ ((K[2]'(by omega)).l[0]'(by omega)).d.proc = 1 := by
    have : ((K[2]'(by omega)).l.map (fun k => (k.h, k.d.proc)))[0]? = some (6, 1) := by rw [htwo]; rfl
    rw [List.getElem?_map, List.getElem?_eq_getElem (by omega)] at this
    injection this with this
    injection this with a b
    exact ⟨a, b⟩
  have hE2 : Ext w1 (w1.alloc (.cells #[.slice A1 R.length c1, .slice A2 K.length c2] 50)) := (Ext.refl w1).allocs _
  have h2e := h2.ext hE2
  obtain ⟨b, off, rfl, hcell⟩ := h2e.at_ (q := 2) (by omega)
  have hrow := (h2e.row (q := 2) (by omega)).1
  have hrow' : KnSeg _ (K[2]'(by omega)).A (K[2]'(by omega)).l := hrow
  obtain ⟨b', off', hA', p0, -, -, -, -, -, -, -, -, p9⟩ := Kn.at_ hrow' (j := 0) (by omega)
  rw [hA', hl2] at hcell
  obtain ⟨cc, hcc⟩ : ∃ cc, (K[2]'(by omega)).c = cc := ⟨_, rfl⟩
  rw [hcc] at hcell
  generalize K[2].l[0] = k20 at p0 p9 hh0
  rw [hK3] at hcell p0 p9
  rw [hh0.1] at p9
  rw [hh0.2] at p0
  rw [hK3]
  simp only [Nat.zero_mul, Nat.add_zero] at p0 p9
  have HX := Lib.hid hX
  clear hK2 htwo hl2 hh0 hrow hrow' hA' h1 h2 h3 h4 h2e hcc hlen hK3 hE2 hX
  go_wp2_with fail
  refine (HCT.out _).mono ?_
  rintro e w2 ⟨rfl, rfl⟩
  go_wp2_with fail
  go_ret
  exact ⟨rfl, HX.out.allocs _⟩
end Go.Proofs.Ytfnnoncdocghjaa
namespace Go.Proofs.Ytfnnoncdocghjaa
open Go.RowKit
set_option linter.unusedVariables false
set_option maxRecDepth 100000

theorem keptc {w w' : World} {c base : Nat} {e : TypeId} {s n : Nat} {v : Value} {xs : List Value} (h : w.ownsRow base e s v n xs) (hg : w.grownBy w' (some c)) (hc : c < base) : w'.ownsRow base e s v n xs :=
  h.kept hg (by right; intro e; have := (h.lt c e).1; omega)
def AcRel (c : Nat) (bs : List Int) (k : Nat) (w0 w : World) (most : Nat) (g : Nat) (v : Value) (w' : World) : Prop :=
  ∃ l : List Av, g = most - l.length ∧ w'.ownsRow w.heap.size 74 3 v l.length (l.flatMap Av.cells) ∧ l.length ≤ most ∧ Drew c bs k w0 w' ∧ w.heap.size ≤ w'.heap.size
set_option maxHeartbeats 3200000 in
theorem acts_on (c : Nat) (bs : List Int) (k : Nat) (w0 w : World) (hc0 : c < w0.heap.size) (hD0 : Drew c bs k w0 w) (n : Int) (most : Nat) (hn1 : 2 ≤ n) (hn2 : n ≤ 5) (hm : most ≤ 200) :
    Calls Try.prog 48 #[.pointer (some ⟨c, 0, none⟩), .int .i64 n, .int .i64 most] w (fun e w' => ∃ v, ∃ l : List Av, e = .returned v ∧ w'.ownsRow w.heap.size 74 3 v l.length (l.flatMap Av.cells) ∧ l.length ≤ most ∧ Drew c bs k w0 w') := by
  have hz0 : w0.heap.size ≤ w.heap.size := hD0.1.size
  have hcl : c < w.heap.size := by omega
  have HD0 := Lib.hid hD0
  clear hD0
  go_enter Try.func48, Try.ntmps48
  go_wp2_with fail
  go_loopg [7] most (fun g v w' => AcRel c bs k w0 w most g v w')
  case atStart => exact ⟨[], rfl, own_nil _ _ _ _ _, Nat.zero_le _, HD0.out, Nat.le_refl _⟩
  case round =>
    obtain ⟨l, rfl, hown, hlm, hD, hzr⟩ := hrel
    obtain ⟨A, cl, rfl, -, -, -⟩ := own_slice hown
    by_cases hlt : l.length < most
    · have hlt' : decide ((l.length : Int) < (most : Int)) = true := decide_eq_true (by omega)
      have hDD := hD
      obtain ⟨-, k1, hC, -, -⟩ := hDD
      have HL := Lib.hid (left_any c bs k1 wr hC)
      clear hC
      obtain ⟨lf, hlf⟩ : ∃ lf, decide (k1 < bs.length) = lf := ⟨_, rfl⟩
      rw [hlf] at HL
      clear hlf
      go_wp2_with fail
      refine HL.out.mono ?_
      rintro e w1 ⟨rfl, nq, rfl⟩
      have hD1 : Drew c bs k w0 (wr.drewN nq) := hD.post (Ext.drewn wr nq)
      have hown1 := own_ext hown (Ext.drewn wr nq)
      clear hD hown HL
      cases lf with
      | false =>
        go_wp2_with fail
        go_ret
        exact ⟨_, l, rfl, hown1, hlm, hD1⟩
      | true =>
        go_wp2_with fail
        refine (next_on hD1 (Ext.refl _) 16 (by omega) (by omega)).mono ?_
        rintro e w2 ⟨r2, rfl, ⟨hr20, hr21⟩, hD2, hg2⟩
        have hz2 := Nat.le_trans hzr hg2.size
        have hown2 := keptc hown1 hg2 hcl
        clear hD1 hg2 hown1
        go_wp2_with fail
        refine (next_on hD2 (Ext.refl _) n (by omega) (by omega)).mono ?_
        rintro e w3 ⟨r3, rfl, ⟨hr30, hr31⟩, hD3, hg3⟩
        have hz3 := Nat.le_trans hz2 hg3.size
        have hown3 := keptc hown2 hg3 hcl
        clear hD2 hg3 hown2
        by_cases h6 : r2 < 6
        · have hn0 : ¬ n = 0 := by omega
          have hmx : max (n - 1) 1 = n - 1 := by omega
          have hw1 : IntKind.i64.wrap (n - 1) = n - 1 := IntWalk.i64_in _ (by omega)
          have hw2 : IntKind.i64.wrap (r3 + 1) = r3 + 1 := IntWalk.i64_in _ (by omega)
          go_wp2_with fail
          refine (next_on hD3 (Ext.refl _) (n - 1) (by omega) (by omega)).mono ?_
          rintro e w4 ⟨r4, rfl, ⟨hr40, hr41⟩, hD4, hg4⟩
          have hz4 := Nat.le_trans hz3 hg4.size; have hown4 := keptc hown3 hg4 hcl
          clear hD3 hg4 hown3
          have hw3 : IntKind.i64.wrap (r3 + 1 + r4) = r3 + 1 + r4 := IntWalk.i64_in _ (by omega)
          have hsz9 : w.heap.size ≤ w4.heap.size := hz4
          go_wp2_with (at_builtin; refine wpList_push_at Av.cells 3 24 Av.len Av.one (by omega) rfl _ _ _ rfl w.heap.size 74 Try.underlying44 (by kernel_rfl) (.slice A l.length cl) l ⟨1, r3, (r3 + 1 + r4) % n⟩ w4.heap.size rfl hown4 rfl rfl (by unfold maxLen; omega) (by omega) hsz9 ?_; intro v' w9 hown9 hg9)
          have hD9 := hD4.own (own_base hown4 hz0) hg9 hc0
          go_roundg (most - (l.length + 1))
          case measure => omega
          case rel => exact ⟨l ++ [⟨1, r3, (r3 + 1 + r4) % n⟩], by simp, hown9, by simp; omega, hD9, Nat.le_trans hsz9 (Nat.le_trans (by simp) hg9.size)⟩
        · by_cases h12 : r2 < 12
          · go_wp2_with fail
            refine (next_on hD3 (Ext.refl _) 3 (by omega) (by omega)).mono ?_
            rintro e w4 ⟨r4, rfl, ⟨hr40, hr41⟩, hD4, hg4⟩
            have hz4 := Nat.le_trans hz3 hg4.size; have hown4 := keptc hown3 hg4 hcl
            clear hD3 hg4 hown3
            have hsz9 : w.heap.size ≤ w4.heap.size := hz4
            go_wp2_with (at_builtin; refine wpList_push_at Av.cells 3 24 Av.len Av.one (by omega) rfl _ _ _ rfl w.heap.size 74 Try.underlying44 (by kernel_rfl) (.slice A l.length cl) l ⟨2, 0, r4⟩ w4.heap.size rfl hown4 rfl rfl (by unfold maxLen; omega) (by omega) hsz9 ?_; intro v' w9 hown9 hg9)
            have hD9 := hD4.own (own_base hown4 hz0) hg9 hc0
            go_roundg (most - (l.length + 1))
            case measure => omega
            case rel => exact ⟨l ++ [⟨2, 0, r4⟩], by simp, hown9, by simp; omega, hD9, Nat.le_trans hsz9 (Nat.le_trans (by simp) hg9.size)⟩
          · by_cases h15 : r2 < 15
            · have hsz9 : w.heap.size ≤ w3.heap.size := hz3
              go_wp2_with (at_builtin; refine wpList_push_at Av.cells 3 24 Av.len Av.one (by omega) rfl _ _ _ rfl w.heap.size 74 Try.underlying44 (by kernel_rfl) (.slice A l.length cl) l ⟨3, r3, 0⟩ w3.heap.size rfl hown3 rfl rfl (by unfold maxLen; omega) (by omega) hsz9 ?_; intro v' w9 hown9 hg9)
              have hD9 := hD3.own (own_base hown3 hz0) hg9 hc0
              go_roundg (most - (l.length + 1))
              case measure => omega
              case rel => exact ⟨l ++ [⟨3, r3, 0⟩], by simp, hown9, by simp; omega, hD9, Nat.le_trans hsz9 (Nat.le_trans (by simp) hg9.size)⟩
            · go_wp2_with fail
              refine (int_on hD3 (Ext.refl _)).mono ?_
              rintro e w4 ⟨r4, rfl, hr4, hD4, hg4⟩
              have hz4 := Nat.le_trans hz3 hg4.size; have hown4 := keptc hown3 hg4 hcl
              clear hD3 hg4 hown3
              go_wp2_with fail
              refine (int_on hD4 (Ext.refl _)).mono ?_
              rintro e w5 ⟨r5, rfl, hr5, hD5, hg5⟩
              have hz5 := Nat.le_trans hz4 hg5.size; have hown5 := keptc hown4 hg5 hcl
              clear hD4 hg5 hown4
              go_wp2_with fail
              refine (int_on hD5 (Ext.refl _)).mono ?_
              rintro e w6 ⟨r6, rfl, hr6, hD6, hg6⟩
              have hz6 := Nat.le_trans hz5 hg6.size; have hown6 := keptc hown5 hg6 hcl
              clear hD5 hg6 hown5
              have hsz9 : w.heap.size ≤ w6.heap.size := hz6
              go_wp2_with (at_builtin; refine wpList_push_at Av.cells 3 24 Av.len Av.one (by omega) rfl _ _ _ rfl w.heap.size 74 Try.underlying44 (by kernel_rfl) (.slice A l.length cl) l ⟨r4, r5, r6⟩ w6.heap.size rfl hown6 rfl rfl (by unfold maxLen; omega) (by omega) hsz9 ?_; intro v' w9 hown9 hg9)
              have hD9 := hD6.own (own_base hown6 hz0) hg9 hc0
              go_roundg (most - (l.length + 1))
              case measure => omega
              case rel => exact ⟨l ++ [⟨r4, r5, r6⟩], by simp, hown9, by simp; omega, hD9, Nat.le_trans hsz9 (Nat.le_trans (by simp) hg9.size)⟩
    · have hlt' : decide ((l.length : Int) < (most : Int)) = false := decide_eq_false (by omega)
      go_wp2_with fail
      go_ret
      exact ⟨_, l, rfl, hown, hlm, hD⟩
end Go.Proofs.Ytfnnoncdocghjaa
namespace Go.Proofs.Ytfnnoncdocghjaa
open Go.RowKit
set_option linter.unusedVariables false
set_option maxRecDepth 100000

set_option maxHeartbeats 800000 in
theorem mod_any (x n : Int) (w : World) (h1 : 1 ≤ n) (h2 : n ≤ 1000000) :
    Calls Try.prog 17 #[.int .i64 x, .int .i64 n] w fun e w' => e = .returned (.int .i64 (modv x n)) ∧ w = w' := by
  have hb := tmod_bd x n h1
  obtain ⟨hb1, hb2⟩ := hb
  by_cases hneg : x.tmod n < 0
  all_goals
    have HM : Hid (modv x n = if x.tmod n < 0 then x.tmod n + n else x.tmod n) := rfl
    go_enter Try.func17, Try.ntmps17
    go_wp2
    go_ret
  · exact ⟨ret_int (by rw [HM.out, if_pos hneg]), rfl⟩
  · exact ⟨ret_int (by rw [HM.out, if_neg (by omega)]), rfl⟩

theorem u32_wf {z : Int} (h : (Lit.int .u32 z).wf = true) : okH z := by
  have := Go.bounds_u32 h
  unfold okH
  omega
theorem kn_of {H : Type} {enc : TypeId × Value → H} {w : World} {base : Nat} {spare : Nat → Bool} {held : Bool} {n : Nat} {cs : List Value} {y : DataW H × List MemPlace} (hl10 : cs.length = 10) (hy : DataW.trod enc Try.prog w base spare held n 34 cs = some y) : ∃ k : Kn, cs = k.cells ∧ okH k.h := by
  obtain ⟨z0, e0, g0⟩ := leaf_int (n := 6) (j := 0) Try.underlying3 hy (by kernel_rfl)
  obtain ⟨z1, e1, g1⟩ := leaf_int (n := 6) (j := 1) Try.underlying3 hy (by kernel_rfl)
  obtain ⟨z2, e2, g2⟩ := leaf_int (n := 6) (j := 2) Try.underlying3 hy (by kernel_rfl)
  obtain ⟨z3, e3, g3⟩ := leaf_int (n := 6) (j := 3) Try.underlying3 hy (by kernel_rfl)
  obtain ⟨z4, e4, g4⟩ := leaf_int (n := 6) (j := 4) Try.underlying3 hy (by kernel_rfl)
  obtain ⟨z5, e5, g5⟩ := leaf_int (n := 6) (j := 5) Try.underlying3 hy (by kernel_rfl)
  obtain ⟨z6, e6, g6⟩ := leaf_int (n := 6) (j := 6) Try.underlying3 hy (by kernel_rfl)
  obtain ⟨z7, e7, g7⟩ := leaf_int (n := 6) (j := 7) Try.underlying3 hy (by kernel_rfl)
  obtain ⟨z8, e8, g8⟩ := leaf_int (n := 6) (j := 8) Try.underlying3 hy (by kernel_rfl)
  obtain ⟨z9, e9, g9⟩ := leaf_int (n := 6) (j := 9) Try.underlying22 hy (by kernel_rfl)
  refine ⟨⟨⟨z0, z1, ⟨z2, z3, z4, z5, z6, z7, z8⟩⟩, z9⟩, List.ext_getElem? fun j => ?_, u32_wf g9⟩
  rcases j with _ | _ | _ | _ | _ | _ | _ | _ | _ | _ | j
  · exact e0
  · exact e1
  · exact e2
  · exact e3
  · exact e4
  · exact e5
  · exact e6
  · exact e7
  · exact e8
  · exact e9
  · rw [List.getElem?_eq_none (by omega), List.getElem?_eq_none (by simp [Kn.cells])]
theorem open_knowns {H : Type} {enc : TypeId × Value → H} {w : World} {base : Nat} {spare : Nat → Bool} {held : Bool} {a : Option Addr} {len cap : Nat} {d : DataW H} {p : List MemPlace} (h : DataW.Trod enc Try.prog w base spare held 26 (.slice a len cap) d p) :
    ∃ l : List Kn, len = l.length ∧ KnSeg w a l ∧ len ≤ cap ∧ cap ≤ maxLen ∧ ∀ k ∈ l, okH k.h := by
  obtain ⟨fuel, hf⟩ := h
  obtain ⟨css, hl, hs, h1, h2, hc⟩ := open_seg 10 Try.underlying26 (by kernel_rfl) (by omega) (show DataW.trod enc Try.prog w base spare held fuel 26 [.slice a len cap] = some (d, p) from hf)
  obtain ⟨l, rfl, hb⟩ := lift_all' Kn.cells (fun k => okH k.h) css (fun cs hcs => by
    obtain ⟨hl9, n, y, hy⟩ := hc cs hcs
    exact kn_of hl9 hy)
  rw [List.length_map] at hl
  subst hl
  refine ⟨l, rfl, ?_, h1, h2, hb⟩
  show Seg w 10 a l.length (l.flatMap Kn.cells)
  rw [List.flatMap_def]
  exact hs
open Go.ChangeShapes Go.WideShapes in
theorem open_known {H : Type} {enc : TypeId × Value → H} {w : World} {base : Nat} {spare : Nat → Bool} {held : Bool} {r : Reach} {b0 : Nat} {v : Value} {d : DataW H} {p : List MemPlace}
    (hv : Value.okWide Try.prog w r b0 34 v) (h : DataW.Trod enc Try.prog w base spare held 34 v d p) : ∃ x : Kn, v = x.val ∧ okH x.h := by
  obtain ⟨cs, rfl, hsz⟩ := okWide_struct Try.underlying34 hv
  have h9 : Try.prog.cellsOf 34 = 10 := by kernel_rfl
  obtain ⟨l⟩ := cs
  obtain ⟨fuel, hf⟩ := h
  obtain ⟨x, hx, hok⟩ := kn_of (cs := l) (by have := hsz.trans h9; simpa using this) hf
  subst hx
  exact ⟨x, rfl, hok⟩
open Go.ChangeShapes Go.WideShapes in
theorem open_acts {H : Type} {enc : TypeId × Value → H} {w : World} {base : Nat} {spare : Nat → Bool} {held : Bool} {a : Option Addr} {len cap : Nat} {d : DataW H} {p : List MemPlace} (h : DataW.Trod enc Try.prog w base spare held 44 (.slice a len cap) d p) :
    ∃ l : List Av, len = l.length ∧ AvSeg w a l ∧ len ≤ cap ∧ cap ≤ maxLen := by
  obtain ⟨fuel, hf⟩ := h
  obtain ⟨css, hl, hs, h1, h2, hc⟩ := open_seg 3 Try.underlying44 (by kernel_rfl) (by omega) (show DataW.trod enc Try.prog w base spare held fuel 44 [.slice a len cap] = some (d, p) from hf)
  obtain ⟨l, rfl⟩ := lift_all Av.cells css (fun cs hcs => by
    obtain ⟨hl3, n, y, hy⟩ := hc cs hcs
    obtain ⟨z0, e0, _⟩ := leaf_int (n := 6) (j := 0) Try.underlying3 hy (by kernel_rfl)
    obtain ⟨z1, e1, _⟩ := leaf_int (n := 6) (j := 1) Try.underlying3 hy (by kernel_rfl)
    obtain ⟨z2, e2, _⟩ := leaf_int (n := 6) (j := 2) Try.underlying3 hy (by kernel_rfl)
    refine ⟨⟨z0, z1, z2⟩, List.ext_getElem? fun j => ?_⟩
    rcases j with _ | _ | _ | j
    · exact e0
    · exact e1
    · exact e2
    · rw [List.getElem?_eq_none (by omega), List.getElem?_eq_none (by simp [Av.cells])])
  rw [List.length_map] at hl
  subst hl
  refine ⟨l, rfl, ?_, h1, h2⟩
  show Seg w 3 a l.length (l.flatMap Av.cells)
  rw [List.flatMap_def]
  exact hs
/-! ### Known out of choices -/
def KmRel (c : Nat) (bs : List Int) (k : Nat) (w0 w : World) (most : Nat) (g : Nat) (v n : Value) (w' : World) : Prop :=
  ∃ (l : List Kn) (j : Nat), n = .int .i64 j ∧ j = g ∧ w'.ownsRow w.heap.size 34 10 v l.length (l.flatMap Kn.cells) ∧ l.length + j ≤ most ∧ (∀ x ∈ l, okH x.h) ∧ Drew c bs k w0 w' ∧ w.heap.size ≤ w'.heap.size
def KmPost (c : Nat) (bs : List Int) (k : Nat) (w0 w : World) (most : Nat) (e : Ending) (w' : World) : Prop :=
  ∃ v, ∃ l : List Kn, e = .returned v ∧ w'.ownsRow w.heap.size 34 10 v l.length (l.flatMap Kn.cells) ∧ l.length ≤ most ∧ (∀ x ∈ l, okH x.h) ∧ Drew c bs k w0 w' ∧ w.grownBy w' (some c)
theorem all_snocK {α : Type} {P : α → Prop} {l : List α} {y : α} (h : ∀ x ∈ l, P x) (hy : P y) : ∀ x ∈ l ++ [y], P x := by
  intro x hx
  rcases List.mem_append.1 hx with h1 | h1
  · exact h x h1
  · simp at h1; subst h1; exact hy
set_option maxHeartbeats 1600000 in
/-- Known, whatever stands for a first choice -/
theorem known_step (c : Nat) (bs : List Int) (k : Nat) (w0 w : World) (hc0 : c < w0.heap.size) (hz0 : w0.heap.size ≤ w.heap.size) (most : Nat) (hm : most ≤ 100)
    (H : Calls Try.prog 44 #[.pointer (some ⟨c, 0, none⟩), .int .i64 ((most : Int) + 1)] w (SomeInt (fun r => 0 ≤ r ∧ r < (most : Int) + 1) (fun w2 => Drew c bs k w0 w2 ∧ w.grownBy w2 (some c)))) :
    Calls Try.prog 16 #[.pointer (some ⟨c, 0, none⟩), .int .i64 most] w (fun e w' => ∃ v, ∃ l : List Kn, e = .returned v ∧ w'.ownsRow w.heap.size 34 10 v l.length (l.flatMap Kn.cells) ∧ l.length ≤ most ∧ (∀ x ∈ l, okH x.h) ∧ Drew c bs k w0 w') := by
  have hcl : c < w.heap.size := by omega
  have HN := Lib.hid H
  clear H
  go_enter Try.func16, Try.ntmps16
  go_wp2_with fail
  refine HN.out.mono ?_
  rintro e w1 ⟨r1, rfl, ⟨hr10, hr11⟩, hD1, hg1⟩
  obtain ⟨n1, rfl⟩ : ∃ n1 : Nat, r1 = (n1 : Int) := ⟨r1.toNat, by omega⟩
  clear HN
  have HD1 := Lib.hid hD1
  have HG1 := Lib.hid hg1.size
  clear hD1 hg1
  go_wp2_with fail
  go_loopg [5, 6] n1 (fun g v n w' => KmRel c bs k w0 w most g v n w')
  case atStart => exact ⟨[], n1, rfl, rfl, own_nil _ _ _ _ _, by simp; omega, by simp, HD1.out, HG1.out⟩
  case round =>
    obtain ⟨l, j, rfl, rfl, hown, hle, hall, hD, hzr⟩ := hrel
    obtain ⟨A, cl, rfl, -, -, -⟩ := own_slice hown
    have HALL := Lib.hid hall
    clear hall
    by_cases hj : 0 < j
    · have hj' : (0 : Int) < (j : Int) := by omega
      go_wp2_with fail
      refine (next_on hD (Ext.refl _) 3 (by omega) (by omega)).mono ?_
      rintro e w2 ⟨r2, rfl, ⟨hr20, hr21⟩, hD2, hg2⟩
      have hz2 := Nat.le_trans hzr hg2.size
      have hown2 := keptc hown hg2 hcl
      clear hD hg2 hown
      go_wp2_with fail
      refine (next_on hD2 (Ext.refl _) 4 (by omega) (by omega)).mono ?_
      rintro e w3 ⟨r3, rfl, ⟨hr30, hr31⟩, hD3, hg3⟩
      have hz3 := Nat.le_trans hz2 hg3.size
      have hown3 := keptc hown2 hg3 hcl
      clear hD2 hg3 hown2
      go_wp2_with fail
      refine (next_on hD3 (Ext.refl _) 3 (by omega) (by omega)).mono ?_
      rintro e w4 ⟨r4, rfl, ⟨hr40, hr41⟩, hD4, hg4⟩
      have hz4 := Nat.le_trans hz3 hg4.size
      have hown4 := keptc hown3 hg4 hcl
      clear hD3 hg4 hown3
      go_wp2_with fail
      refine (next_on hD4 (Ext.refl _) 2 (by omega) (by omega)).mono ?_
      rintro e w5 ⟨r5, rfl, ⟨hr50, hr51⟩, hD5, hg5⟩
      have hz5 := Nat.le_trans hz4 hg5.size
      have hown5 := keptc hown4 hg5 hcl
      clear hD4 hg5 hown4
      go_wp2_with fail
      refine (next_on hD5 (Ext.refl _) 2 (by omega) (by omega)).mono ?_
      rintro e w6 ⟨r6, rfl, ⟨hr60, hr61⟩, hD6, hg6⟩
      have hz6 := Nat.le_trans hz5 hg6.size
      have hown6 := keptc hown5 hg6 hcl
      clear hD5 hg6 hown5
      go_wp2_with fail
      refine (next_on hD6 (Ext.refl _) 8 (by omega) (by omega)).mono ?_
      rintro e w7 ⟨r7, rfl, ⟨hr70, hr71⟩, hD7, hg7⟩
      have hz7 := Nat.le_trans hz6 hg7.size
      have hown7 := keptc hown6 hg7 hcl
      clear hD6 hg7 hown6
      have hw7 : IntKind.u32.wrap r7 = r7 := wraps_u32' _ (by omega) (by omega)
      go_wp2_with (at_builtin; refine wpList_push_at Kn.cells 10 80 Kn.len Kn.one (by omega) rfl _ _ _ rfl w.heap.size 34 Try.underlying26 (by kernel_rfl) (.slice A l.length cl) l ⟨⟨r2, 1 + r3, ⟨1 + r4, r5, 0, 0, 0, 0, r6⟩⟩, r7⟩ w7.heap.size rfl hown7 rfl rfl (by unfold maxLen; omega) (by omega) hz7 ?_; intro v' w9 hown9 hg9)
      have hD9 := hD7.own (own_base hown7 hz0) hg9 hc0
      go_roundg (j - 1)
      case measure => omega
      case rel => exact ⟨l ++ [⟨⟨r2, 1 + r3, ⟨1 + r4, r5, 0, 0, 0, 0, r6⟩⟩, r7⟩], j - 1, by go_num, rfl, hown9, by simp; omega, all_snocK HALL.out ⟨hr70, by show r7 < 4294967296; omega⟩, hD9, Nat.le_trans hz7 (Nat.le_trans (by simp) hg9.size)⟩
    · obtain rfl : j = 0 := by omega
      go_wp2_with fail
      go_ret
      exact ⟨_, l, rfl, hown, by omega, HALL.out, hD⟩
theorem known_first (c : Nat) (bs : List Int) (k : Nat) (w : World) (h : Codes w c bs k) (most : Nat) (hm : most ≤ 100) :
    Calls Try.prog 16 #[.pointer (some ⟨c, 0, none⟩), .int .i64 most] w (fun e w' => ∃ v, ∃ l : List Kn, e = .returned v ∧ w'.ownsRow w.heap.size 34 10 v l.length (l.flatMap Kn.cells) ∧ l.length ≤ most ∧ (∀ x ∈ l, okH x.h) ∧ Drew c bs k w w') := by
  refine known_step c bs k w w h.lt (Nat.le_refl _) most hm ((next_any' c bs k w h ((most : Int) + 1) (by omega) (by omega)).mono ?_)
  rintro e w' ⟨r, rfl, hr, hD⟩
  exact ⟨r, rfl, hr, hD, hD.1⟩
theorem known_on {c : Nat} {bs : List Int} {k : Nat} {w0 w1 w : World} (hD : Drew c bs k w0 w1) (he : Ext w1 w) (hc0 : c < w0.heap.size) (most : Nat) (hm : most ≤ 100) :
    Calls Try.prog 16 #[.pointer (some ⟨c, 0, none⟩), .int .i64 most] w (fun e w' => ∃ v, ∃ l : List Kn, e = .returned v ∧ w'.ownsRow w.heap.size 34 10 v l.length (l.flatMap Kn.cells) ∧ l.length ≤ most ∧ (∀ x ∈ l, okH x.h) ∧ Drew c bs k w0 w') :=
  known_step c bs k w0 w hc0 (Nat.le_trans hD.1.size he.size) most hm (next_on hD he ((most : Int) + 1) (by omega) (by omega))
end Go.Proofs.Ytfnnoncdocghjaa
namespace Go.Proofs.Ytfnnoncdocghjaa
open Go.RowKit
set_option linter.unusedVariables false
set_option maxRecDepth 100000

def DrawPost (w : World) (e : Ending) (w' : World) : Prop := ∃ (N f : Nat) (A : Option Addr) (c : Nat) (l : List Av), e = .returned (.tuple #[.int .i64 N, .int .i64 f, .slice A l.length c]) ∧ 2 ≤ N ∧ N ≤ 4 ∧ f ≤ N ∧ AvSeg w' A l ∧ l.length ≤ 60 ∧ Ext w w'
set_option maxHeartbeats 1600000 in
theorem draw_any (A : Option Addr) (cap : Nat) (bs : List Int) (w : World) (hs : Seg w 1 A bs.length (bs.map (Value.int .u8))) (hcap : bs.length ≤ cap) (hcap2 : cap ≤ maxLen) (hv : ∀ b ∈ bs, 0 ≤ b ∧ b < 256) :
    Calls Try.prog 23 #[.slice A bs.length cap] w (DrawPost w) := by
  have HN := Lib.hid (new_any A cap bs 200 w hs hcap hcap2 (by omega) hv)
  clear hs hv
  go_enter Try.func23, Try.ntmps23
  go_wp2_with fail
  refine HN.out.mono ?_
  rintro e w1 ⟨rfl, hC, hE1⟩
  have hcl := hC.lt
  obtain ⟨c, hc⟩ : ∃ c, w.heap.size = c := ⟨_, rfl⟩
  have hcc : w.heap.size ≤ c := by omega
  rw [hc] at hC hcl ⊢
  have HE1 := Lib.hid hE1
  clear HN hE1 hc
  go_wp2_with fail
  refine (next_any' c (bs.take 200) 0 w1 hC 3 (by omega) (by omega)).mono ?_
  rintro e w2 ⟨r2, rfl, ⟨hr20, hr21⟩, hD2⟩
  obtain ⟨n2, rfl⟩ : ∃ n2 : Nat, r2 = (n2 : Int) := ⟨r2.toNat, by omega⟩
  go_wp2_with fail
  refine (next_on hD2 (Ext.refl _) (2 + (n2 : Int) + 1) (by omega) (by omega)).mono ?_
  rintro e w3 ⟨r3, rfl, ⟨hr30, hr31⟩, hD3, hg3⟩
  obtain ⟨n3, rfl⟩ : ∃ n3 : Nat, r3 = (n3 : Int) := ⟨r3.toNat, by omega⟩
  go_wp2_with fail
  refine (acts_on c (bs.take 200) 0 w1 w3 hcl hD3 (2 + (n2 : Int)) 60 (by omega) (by omega) (by omega)).mono ?_
  rintro e w4 ⟨v, l, rfl, hown, hl, hD4⟩
  obtain ⟨A4, c4, rfl, hs4, -, -⟩ := own_slice hown
  have hEf : Ext w w4 := Below.grown HE1.out hD4.1 HE1.out.size (fun k hk => by injection hk with hk; omega)
  have HS4 := Lib.hid hs4
  have HEF := Lib.hid hEf
  clear hown hD2 hD3 hg3 hD4 hs4 hEf
  go_wp2_with fail
  (try simp only [Exit.inBlock, Exit.then])
  refine bodyPost_ret (results_tmp3 rfl _ _ _) rfl ?_
  exact ⟨2 + n2, n3, A4, c4, l, by simp, by omega, by omega, by omega, HS4.out, hl, HEF.out⟩
end Go.Proofs.Ytfnnoncdocghjaa
namespace Go.Proofs.Ytfnnoncdocghjaa
open Go.RowKit Go.Sort
set_option linter.unusedVariables false

theorem call_grownS {f : FuncId} {args : Array Value} {W : World} {d : Nat} {os : Array Obj} {v : Value} (h : ∀ X, Calls Try.prog f args X (ExtPost X v)) :
    Calls Try.prog f args (grow (redrawn W d) os) fun e w'' => e = .returned v ∧ ∃ p : Regrown, w'' = grow (redrawn W p.d) p.os := Calls.regrown_of (h _)
end Go.Proofs.Ytfnnoncdocghjaa
