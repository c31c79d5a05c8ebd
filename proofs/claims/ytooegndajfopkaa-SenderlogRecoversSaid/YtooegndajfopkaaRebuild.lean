/- The walk of package senderlog's Rebuild. No statement of the seat is proved here. -/
import Derived.Test.YtooegndajfopkaaCatR
import Derived.Deep.LoopGhost
import Derived.Deep.DeepCutAuto
import Derived.Deep.CutBlock
namespace Go.Proofs.Ytooegndajfopkaa
open Go.RowKit Go.Maps
set_option linter.unusedVariables false
set_option maxRecDepth 100000

abbrev OwnRc (w : World) (base : Nat) (v : Value) (l : List Rc) : Prop := w.ownsRow base 54 3 v l.length (l.flatMap Rc.cells)
theorem tabR_drop (tg : Int) (R : List TR) (p : Nat) (h : p < R.length) : tabE tg ((R.map TR.cs).drop p) p = rowE tg p (R[p].cs.drop 0) 0 ++ tabE tg ((R.map TR.cs).drop (p + 1)) (p + 1) := by
  rw [tabE_drop tg _ p (by simpa using h)]
  simp
theorem tabR_end (tg : Int) (R : List TR) (p : Nat) (h : R.length ≤ p) : tabE tg ((R.map TR.cs).drop p) p = [] := tabE_end tg _ p (by simpa using h)
/-- the maps and the list of the first part -/
def RbA (w : World) (b b2 n : Nat) (f : Int → Option Nat) (l : List Rc) (s6 : Value) (wx : World) : Prop :=
  OwnRc wx w.heap.size s6 l ∧ IMap wx b n f ∧ BMap wx b2 0 (fun _ => false) ∧ Ext w wx
theorem RbA.ext {w wx wy : World} {b b2 n : Nat} {f : Int → Option Nat} {l : List Rc} {s6 : Value} (h : RbA w b b2 n f l s6 wx) (hE : Ext wx wy) : RbA w b b2 n f l s6 wy :=
  ⟨own_ext h.1 hE, h.2.1.ext hE, h.2.2.1.ext hE, h.2.2.2.trans hE⟩
theorem RbA.mono {w wx : World} {b b2 n n' : Nat} {f f' : Int → Option Nat} {l : List Rc} {s6 : Value} (h : RbA w b b2 n f l s6 wx) (hn : n ≤ n') (hf : f = f') : RbA w b b2 n' f' l s6 wx := by
  subst hf
  exact ⟨h.1, h.2.1.mono hn, h.2.2.1, h.2.2.2⟩
theorem RbA.put {w wx : World} {b b2 n : Nat} {f : Int → Option Nat} {l : List Rc} {s6 : Value} (h : RbA w b b2 n f l s6 wx) (hb : w.heap.size ≤ b) (hbb : b ≠ b2) {k : Int} (hk : InI64 k) (x : Nat) (hx : x ≤ 1000000) (hn : n < maxLen) :
    ∃ w', (Instr.mapUpdate 60 (.map (some b)) (.int .i64 k) (.int .i64 x)).run Try.prog wx = .ok () w' ∧ RbA w b b2 (n + 1) (fun j => if j = k then some x else f j) l s6 w' ∧ wx.grownBy w' (some b) := by
  obtain ⟨h1, h2, h3, h4⟩ := h
  obtain ⟨w', hr, hm, hg⟩ := h2.put hk x hx hn
  exact ⟨w', hr, ⟨h1.kept hg (own_ne_i h1 h2), hm, h3.kept hg (by intro e; injection e with e; exact hbb e.symm), h4.grownRow hb hg⟩, hg⟩
theorem RbA.push {w wx wy : World} {b b2 n : Nat} {f : Int → Option Nat} {l l' : List Rc} {s6 s6' : Value} (h : RbA w b b2 n f l s6 wx) (ho : OwnRc wy w.heap.size s6' l') (hg : wx.grownBy wy s6.ownBlock) : RbA w b b2 n f l' s6' wy := by
  obtain ⟨h1, h2, h3, h4⟩ := h
  have q1 : some b ≠ s6.ownBlock := by
    rcases own_ne_i h1 h2 with e | e
    · rw [e]; simp
    · exact fun h => e h.symm
  have q2 : some b2 ≠ s6.ownBlock := by
    rcases own_ne_b h1 h3 with e | e
    · rw [e]; simp
    · exact fun h => e h.symm
  exact ⟨ho, h2.kept hg q1, h3.kept hg q2, Ext.own h4 h1 (Nat.le_refl _) hg⟩
theorem fst_app_hit (cur : List Ps) (x : Ps) {i : Nat} (h : fstE cur x.c.rsn = some i) : fstE cur = fstE (cur ++ [x]) := by
  funext j
  rw [fst_app]
  cases hj : fstE cur j with
  | some q => rfl
  | none =>
    have : x.c.rsn ≠ j := fun e => by rw [e, hj] at h; cases h
    simp [fstE, this]
theorem fst_app_miss (cur : List Ps) (x : Ps) (h : fstE cur x.c.rsn = none) : (fun j => if j = x.c.rsn then some cur.length else fstE cur j) = fstE (cur ++ [x]) := by
  funext j
  rw [fst_app]
  by_cases e : j = x.c.rsn
  · subst e
    rw [if_pos rfl, h]
    simp [fstE]
  · rw [if_neg e]
    cases fstE cur j with
    | some q => rfl
    | none => simp only [fstE]; rw [if_neg (fun h' : x.c.rsn = j => e h'.symm)]; rfl
theorem hd_ext {α : Type} {A : List α} {x : α} {B E : List α} (h : A ++ x :: B = E) : (A ++ [x]) ++ B = E := by rw [← h]; simp

/-- the second part: what has a fixed place -/
def RbC (w : World) (H b b2 N : Nat) (E : List Ps) (v6 : Value) (l6 l7 : List Rc) (s7 : Value) (wx : World) : Prop :=
  OwnRc wx w.heap.size v6 l6 ∧ OwnRc wx H s7 l7 ∧ IMap wx b E.length (fstE E) ∧ BMap wx b2 N (plcI E N) ∧ Ext w wx ∧ H ≤ wx.heap.size
theorem RbC.put {w wx : World} {H b b2 N : Nat} {E : List Ps} {v6 : Value} {l6 l7 : List Rc} {s7 : Value} (h : RbC w H b b2 N E v6 l6 l7 s7 wx) (hb : w.heap.size ≤ b2) (hbb : b ≠ b2) {j : Nat} (hj : fstE E ((N : Int) + 1) = some j) (hjb : j ≤ 1000000) (hn : N < maxLen) :
    ∃ w', (Instr.mapUpdate 36 (.map (some b2)) (.int .i64 (j : Int)) (.bool true)).run Try.prog wx = .ok () w' ∧ RbC w H b b2 (N + 1) E v6 l6 l7 s7 w' := by
  obtain ⟨h1, h2, h3, h4, h5, h6⟩ := h
  obtain ⟨w', hr, hm, hg⟩ := h4.put (k := (j : Int)) ⟨by omega, by omega⟩ true hn
  refine ⟨w', hr, h1.kept hg (own_ne_b h1 h4), h2.kept hg (own_ne_b h2 h4), h3.kept hg (by intro e; injection e with e; exact hbb e), ?_, h5.grownRow hb hg, Nat.le_trans h6 hg.size⟩
  have e : plcI E (N + 1) = fun k => if k = (j : Int) then true else plcI E N k := by
    funext k
    rw [plcI_succ E N hj]
    by_cases hk : k = (j : Int)
    · subst hk; simp
    · rw [if_neg hk, decide_eq_false (fun e => hk e.symm), Bool.or_false]
  rw [e]
  exact hm
theorem RbC.push {w wx wy : World} {H b b2 N : Nat} {E : List Ps} {v6 : Value} {l6 l7 l7' : List Rc} {s7 s7' : Value} (h : RbC w H b b2 N E v6 l6 l7 s7 wx) (hw : w.heap.size ≤ H) (h6 : ∀ g, v6.ownBlock = some g → g < H) (ho : OwnRc wy H s7' l7') (hg : wx.grownBy wy s7.ownBlock) : RbC w H b b2 N E v6 l6 l7' s7' wy := by
  obtain ⟨h1, h2, h3, h4, h5, hH⟩ := h
  have q1 : some b ≠ s7.ownBlock := by
    rcases own_ne_i h2 h3 with e | e
    · rw [e]; simp
    · exact fun h => e h.symm
  have q2 : some b2 ≠ s7.ownBlock := by
    rcases own_ne_b h2 h4 with e | e
    · rw [e]; simp
    · exact fun h => e h.symm
  refine ⟨h1.kept hg ?_, ho, h3.kept hg q1, h4.kept hg q2, Ext.own h5 h2 hw hg, Nat.le_trans hH hg.size⟩
  cases hv : v6.ownBlock with
  | none => exact .inl rfl
  | some g =>
    right
    intro e
    have k1 := h6 g hv
    have k2 := (h2.lt g e.symm).1
    omega
theorem restN_len (E : List Ps) (R : Nat) : ∀ n, (restN E R n).length ≤ n := by
  intro n
  induction n with
  | zero => simp [restN]
  | succ n ih =>
    rw [restN, List.length_append]
    split
    · simp; omega
    · have : ((E[n]?.map Ps.rc).toList).length ≤ 1 := by cases E[n]? <;> simp
      omega
theorem restN_used (E : List Ps) (R n : Nat) (h : plcI E R n = true) : restN E R (n + 1) = restN E R n := by rw [restN, if_pos h, List.append_nil]
theorem restN_free (E : List Ps) (R n : Nat) (h : plcI E R n = false) (hn : n < E.length) : restN E R (n + 1) = restN E R n ++ [E[n].rc] := by
  rw [restN, if_neg (by rw [h]; simp), List.getElem?_eq_getElem hn]
  rfl

def RbPost (E : List Ps) (w : World) (e : Ending) (w' : World) : Prop := ∃ v l N, e = .returned (.tuple #[v, .int .i64 ((N : Nat) : Int)]) ∧ OwnRc w' w.heap.size v l ∧ Reb E l N ∧ l.length ≤ 400 ∧ N ≤ l.length ∧ Ext w w'
set_option maxHeartbeats 6400000 in
theorem rebuild_sl (A : Option Addr) (c : Nat) (R : List TR) (tg : Int) (w : World) (hs : TabSeg w A R) (hok : ∀ r ∈ R, ∀ x ∈ r.cs, x.ok) (hR : R.length ≤ 200) (hE : (tabE tg (R.map TR.cs) 0).length ≤ 200) (hr : ∀ r ∈ R, r.cs.length ≤ 200) :
    Calls Try.prog 26 #[.slice A R.length c, .int .i64 tg] w (RbPost (tabE tg (R.map TR.cs) 0) w) := by
  obtain ⟨E, hEE⟩ : ∃ E, E = tabE tg (R.map TR.cs) 0 := ⟨_, rfl⟩
  rw [← hEE] at hE ⊢
  have HE := Lib.hid hEE
  have HOK := Lib.hid hok
  have HR := Lib.hid hr
  clear hEE hok hr
  have hR' : (R.length : Int) ≤ 200 := by omega
  have hmm := @run_makeMap Try.prog
  have hA0 : Aside (∀ b b2 : Nat, w.heap.size = b → w.heap.size + 1 = b2 → RbA w b b2 0 (fun _ => none) [] (.slice none 0 0) ((w.alloc (.map #[] 0)).alloc (.map #[] 0))) := fun b b2 e1 e2 => by
    subst e1 e2
    exact ⟨own_nil _ _ _ _ Rc.cells, (IMap.made w).ext ((Ext.refl _).allocs _), by have := BMap.made (w.alloc (.map #[] 0)); rwa [show (w.alloc (.map #[] 0)).heap.size = w.heap.size + 1 by simp] at this, ((Ext.refl w).allocs _).allocs _⟩
  have hs0 : TabSeg ((w.alloc (.map #[] 0)).alloc (.map #[] 0)) A R := hs.ext (((Ext.refl w).allocs _).allocs _)
  go_enter Try.func26, Try.ntmps26
  go_upto_block 0 with fail
  obtain ⟨W, hW⟩ : ∃ W, (w.alloc (.map #[] 0)).alloc (.map #[] 0) = W := ⟨_, rfl⟩
  have hA0' := hA0.out
  clear hA0
  rw [hW] at hA0' hs0 ⊢
  have hA0 : Aside _ := hA0'
  clear hA0'
  clear hW hmm
  obtain ⟨b, hb⟩ : ∃ b, w.heap.size = b := ⟨_, rfl⟩
  obtain ⟨b2, hb2⟩ : ∃ b, w.heap.size + 1 = b := ⟨_, rfl⟩
  have hbw : w.heap.size ≤ b := by omega
  have hb2w : w.heap.size ≤ b2 := by omega
  have hbb : b ≠ b2 := by omega
  have HA0 : Aside (RbA w b b2 0 (fun _ => none) [] (.slice none 0 0) W) := hA0.out b b2 hb hb2
  rw [hb2, hb]
  clear hA0 hb hb2
  go_cut [6] (fun s6 wx => RbA w b b2 E.length (fstE E) (E.map Ps.rc) s6 wx)
  case first =>
    go_wp2_with fail
    go_loopg [6, 26] R.length (fun kx s6 s26 wr => ∃ (p : Nat) (cur : List Ps) (l : List Rc), s26 = .int .i64 p ∧ p ≤ R.length ∧ R.length - p ≤ kx ∧ Aside (RbA w b b2 cur.length (fstE cur) l s6 wr) ∧ Hid (l = cur.map Ps.rc) ∧ Hid (cur ++ tabE tg ((R.map TR.cs).drop p) p = E))
    case atStart => exact ⟨0, [], [], rfl, Nat.zero_le _, by omega, HA0, rfl, by show _ = _; rw [HE.out]; simp⟩
    case round =>
      obtain ⟨p, cur, l, rfl, hp, hkxo, SA, HL, HQ⟩ := hrel
      by_cases hlt : p < R.length
      · have hltz : (p : Int) < (R.length : Int) := by omega
        have hsr := hs.ext SA.out.2.2.2
        obtain ⟨tb, toff, rfl, pc⟩ := hsr.at_ hlt
        obtain ⟨hrow, hrl, hrc⟩ := hsr.row hlt
        have hlen := HR.out R[p] (List.getElem_mem hlt)
        have OKR := Lib.hid (HOK.out R[p] (List.getElem_mem hlt))
        have hq := HQ.out
        rw [tabR_drop tg R p hlt] at hq
        clear HQ
        obtain ⟨TL, hTL⟩ : ∃ TL, TL = tabE tg ((R.map TR.cs).drop (p + 1)) (p + 1) := ⟨_, rfl⟩
        rw [← hTL] at hq
        have HTL := Lib.hid hTL
        clear hTL
        obtain ⟨⟨rA, rc, cs⟩, hRp⟩ : ∃ r : TR, r = R[p] := ⟨_, rfl⟩
        rw [← hRp] at hq pc hrow hlen OKR
        simp only at hq pc hrow hlen OKR
        have HQ := Lib.hid hq
        have HRp := Lib.hid hRp
        clear hq hRp hrl hrc
        have hp0 : (0 : Int) ≤ (p : Int) := by omega
        have hpc' : (p : Int) < (R.length : Int) := hltz
        have hlen' : (cs.length : Int) ≤ 200 := by omega
        go_wp2_with fail
        go_loopg [6, 33] cs.length (fun kx s6 s33 wr => ∃ (i : Nat) (cur : List Ps) (l : List Rc), s33 = .int .i64 i ∧ i ≤ cs.length ∧ cs.length - i ≤ kx ∧ Aside (RbA w b b2 cur.length (fstE cur) l s6 wr) ∧ Hid (l = cur.map Ps.rc) ∧ Hid (cur ++ (rowE tg p (cs.drop i) i ++ TL) = E))
        case atStart => exact ⟨0, cur, l, rfl, Nat.zero_le _, by omega, SA, HL, HQ⟩
        case round =>
          clear SA HQ HL pc hsr hrow
          obtain ⟨i, cur, l, rfl, hi, hkx, SA, HL, HQ⟩ := hrel
          have hcl : l.length ≤ 200 := by
            have h1 := congrArg List.length HQ.out
            have h2 := congrArg List.length HL.out
            simp only [List.length_append, List.length_map] at h1 h2
            omega
          have hcn : l.length = cur.length := by
            have h2 := congrArg List.length HL.out
            simpa using h2
          have HCN := Lib.hid hcn
          clear hcn
          have hrow' : CpSeg wr rA cs := by
            have := ((hs.ext SA.out.2.2.2).row hlt).1
            rwa [← HRp.out] at this
          by_cases hlt2 : i < cs.length
          · have hlt2z : (i : Int) < (cs.length : Int) := by omega
            have hi0 : (0 : Int) ≤ (i : Int) := by omega
            obtain ⟨cb, coff, rfl, q0, q1, q2, q3⟩ := Cp.at_ hrow' hlt2
            have hk := OKR.out cs[i] (List.getElem_mem hlt2)
            have hq := HQ.out
            rw [rowE_drop tg p cs i hlt2] at hq
            obtain ⟨⟨xt, xs, xv, xr⟩, hx⟩ : ∃ x : Cp, x = cs[i] := ⟨_, rfl⟩
            rw [← hx] at q0 q1 q2 q3 hk hq
            simp only at q0 q1 q2 q3 hq
            have hkr : InI64 xr := hk.2.2.2
            have HKR := Lib.hid hkr
            have HQ1 := Lib.hid hq
            clear hx hk hkr hq HQ hrow'
            by_cases ht : xt = tg
            · have hb1 : (xt != tg) = false := by simp [ht]
              have hq := HQ1.out
              rw [if_pos ht] at hq
              have HQ := Lib.hid (hd_ext hq)
              clear hq HQ1
              have HT := Lib.hid ht
              clear ht
              obtain ⟨A6, c6, rfl, _, _, _⟩ := own_slice SA.out.1
              have SB : Aside (RbA w b b2 cur.length (fstE cur) l (.slice A6 l.length c6) (wr.alloc (.cells #[.int .i64 xt, .int .i64 xs, .int .i64 xv, .int .i64 xr] 42))) := SA.out.ext ((Ext.refl wr).allocs _)
              have hl := SB.out.2.1.look HKR.out
              have hBl := SA.out.2.1.lt
              have LEN : Hid ((cur ++ [(⟨p, i, ⟨xt, xs, xv, xr⟩⟩ : Ps)]).length = cur.length + 1) := by show _ = _; simp
              have HL2 : Hid (l ++ [(⟨(p : Int), xs, xv⟩ : Rc)] = (cur ++ [(⟨p, i, ⟨xt, xs, xv, xr⟩⟩ : Ps)]).map Ps.rc) := by show _ = _; rw [HL.out, List.map_append]; rfl
              cases hf : fstE cur xr with
              | some q =>
                rw [hf] at hl
                simp only [Option.getD_some, Option.isSome_some] at hl
                have HF := Lib.hid (fst_app_hit cur ⟨p, i, ⟨xt, xs, xv, xr⟩⟩ hf)
                clear hf SA
                go_wp2_with (at_builtin; refine wpList_push_at Rc.cells 3 24 Rc.len Rc.one (by omega) rfl _ _ _ rfl w.heap.size 54 Try.underlying47 (by kernel_rfl) (.slice A6 l.length c6) l ⟨(p : Int), xs, xv⟩ (wr.heap.size + 1) rfl SB.out.1 rfl (by simp) (by unfold maxLen; omega) (by omega) (by have := SB.out.2.2.2.size; omega) ?_; intro v6 w6 hown6 hg6)
                go_roundg (cs.length - (i + 1))
                case measure => omega
                case rel =>
                  exact ⟨i + 1, cur ++ [(⟨p, i, ⟨xt, xs, xv, xr⟩⟩ : Ps)], _, by go_num, by omega, Nat.le_refl _, (SB.out.push hown6 hg6).mono (by rw [LEN.out]; omega) HF.out, HL2, HQ⟩
              | none =>
                rw [hf] at hl
                simp only [Option.getD_none, Option.isSome_none] at hl
                have HF := Lib.hid (fst_app_miss cur ⟨p, i, ⟨xt, xs, xv, xr⟩⟩ hf)
                obtain ⟨w5, hrun, h5, hg5⟩ := SB.out.put hbw hbb HKR.out l.length (by omega) (by rw [← HCN.out]; unfold maxLen; omega)
                have hB5 : Blk w5 wr.heap.size 42 #[.int .i64 xt, .int .i64 xs, .int .i64 xv, .int .i64 xr] := (hg5.block wr.heap.size (by simp) (by intro e; injection e; omega)).trans (Blk.new wr _ _)
                obtain ⟨⟨e0, e1, e2, e3⟩, _⟩ := blk4 hB5
                have SC : Aside (RbA w b b2 (cur.length + 1) (fun j => if j = xr then some l.length else fstE cur j) l (.slice A6 l.length c6) w5) := h5
                clear hf SA h5 hg5 hB5
                go_wp2_with (at_builtin; refine wpList_push_at Rc.cells 3 24 Rc.len Rc.one (by omega) rfl _ _ _ rfl w.heap.size 54 Try.underlying47 (by kernel_rfl) (.slice A6 l.length c6) l ⟨(p : Int), xs, xv⟩ w5.heap.size rfl SC.out.1 rfl rfl (by unfold maxLen; omega) (by omega) (by have := SC.out.2.2.2.size; omega) ?_; intro v6 w6 hown6 hg6)
                go_roundg (cs.length - (i + 1))
                case measure => omega
                case rel =>
                  exact ⟨i + 1, cur ++ [(⟨p, i, ⟨xt, xs, xv, xr⟩⟩ : Ps)], _, by go_num, by omega, Nat.le_refl _, (SC.out.push hown6 hg6).mono (by rw [LEN.out]; omega) (by rw [← HF.out, HCN.out]), HL2, HQ⟩
            · have hb1 : (xt != tg) = true := by simp [ht]
              have hq := HQ1.out
              rw [if_neg ht] at hq
              have HQ := Lib.hid hq
              clear hq HQ1 ht
              go_wp2_with fail
              go_roundg (cs.length - (i + 1))
              case measure => omega
              case rel => exact ⟨i + 1, cur, l, by go_num, by omega, Nat.le_refl _, SA.out.ext ((Ext.refl wr).allocs _), HL, HQ⟩
          · have hlt2z : ¬ (i : Int) < (cs.length : Int) := by omega
            have hq := HQ.out
            rw [rowE_end tg p cs i (by omega), List.nil_append, HTL.out] at hq
            have HQ2 := Lib.hid hq
            clear hq HQ
            go_wp2_with fail
            go_roundg (R.length - (p + 1))
            case measure => omega
            case rel => exact ⟨p + 1, cur, l, by go_num, by omega, Nat.le_refl _, SA, HL, HQ2⟩
      · obtain rfl : p = R.length := by omega
        have hltz : ¬ (R.length : Int) < (R.length : Int) := by omega
        have hq := HQ.out
        rw [tabR_end tg R _ (Nat.le_refl _), List.append_nil] at hq
        subst hq
        rw [HL.out] at SA
        go_wp2_with fail
        go_meet
        exact SA.out
  case rest =>
    obtain ⟨l6, hl6⟩ : ∃ l, l = E.map Ps.rc := ⟨_, rfl⟩
    rw [← hl6] at hcut
    have h6a : l6.length ≤ E.length := by rw [hl6]; simp
    have h6b : E.length ≤ l6.length := by rw [hl6]; simp
    have HL6 := Lib.hid hl6
    clear hl6 HA0 hs0 hs
    obtain ⟨k1, k2, k3, k4⟩ := hcut
    obtain ⟨A6, c6, rfl, hs6, hc6, hm6⟩ := own_slice k1
    have hHw : w.heap.size ≤ wc.heap.size := k4.size
    have H6 : Aside (∀ g, (Value.slice A6 l6.length c6).ownBlock = some g → g < wc.heap.size) := fun g hg => (k1.lt g hg).2
    have SC0 : Aside (RbC w wc.heap.size b b2 0 E (.slice A6 l6.length c6) l6 [] (.slice none 0 0) wc) := ⟨k1, own_nil _ _ _ _ Rc.cells, k2, k3, k4, Nat.le_refl _⟩
    have hcm6 : c6 ≤ maxLen := hm6
    have HS6 := Lib.hid hs6
    clear k1 k2 k3 k4 hs6
    obtain ⟨H, hH⟩ : ∃ H, wc.heap.size = H := ⟨_, rfl⟩
    rw [hH] at hHw H6 SC0
    have hHle : H ≤ wc.heap.size := by omega
    clear hH
    go_upto_block 4 with fail
    go_cut [7] (fun s7 wx => ∃ (N : Nat) (l7 : List Rc), N ≤ E.length ∧ Hid (l7 = fixedL E N) ∧ Hid (Stop E N) ∧ Aside (RbC w H b b2 N E (.slice A6 l6.length c6) l6 l7 s7 wx))
    case first =>
      go_wp2_with fail
      go_loopg [7, 17] E.length (fun kx s7 s17 wr => ∃ (N : Nat) (l7 : List Rc), s17 = .int .i64 ((N : Int) + 1) ∧ N ≤ E.length ∧ E.length - N ≤ kx ∧ Hid (l7 = fixedL E N) ∧ Aside (RbC w H b b2 N E (.slice A6 l6.length c6) l6 l7 s7 wr) ∧ Hid (∀ q : Nat, q < N → fndE E ((q : Int) + 1) ≠ none))
      case atStart => exact ⟨0, [], by first | rfl | simp, Nat.zero_le _, by omega, rfl, SC0, (fun q hq => absurd hq (Nat.not_lt_zero _) : ∀ q : Nat, q < 0 → fndE E ((q : Int) + 1) ≠ none)⟩
      case round =>
        clear SC0
        obtain ⟨N, l7, rfl, hN, hkx, HL7, SC, HQ⟩ := hrel
        have h7a : l7.length ≤ N := by rw [HL7.out, fixedL_len]; omega
        by_cases hlt : N < E.length
        · have hltz : (N : Int) + 1 ≤ (l6.length : Int) := by omega
          have hl := SC.out.2.2.1.look (k := (N : Int) + 1) ⟨by omega, by omega⟩
          cases hf : fstE E ((N : Int) + 1) with
          | none =>
            rw [hf] at hl
            simp only [Option.getD_none, Option.isSome_none] at hl
            have HST := Lib.hid (show Stop E N from ⟨HQ.out, fst_none hf⟩)
            clear hf
            go_wp2_with fail
            go_meet
            exact ⟨N, l7, hN, HL7, HST, SC⟩
          | some j =>
            rw [hf] at hl
            simp only [Option.getD_some, Option.isSome_some] at hl
            obtain ⟨x, hx1, hx2, hx3⟩ := fst_some hf
            obtain ⟨hj, hxj⟩ := List.getElem?_eq_some_iff.1 hx1
            have hj6 : j < l6.length := by omega
            have hlj : l6[j] = x.rc := by
              have e : l6[j]? = (E.map Ps.rc)[j]? := by rw [HL6.out]
              rw [List.getElem?_map, hx1, List.getElem?_eq_getElem hj6] at e
              simpa using e
            obtain ⟨w5, hrun, h5⟩ := SC.out.put hb2w hbb hf (by omega) (by unfold maxLen; omega)
            obtain ⟨A6', c6', hv6, hs65, _, _⟩ := own_slice h5.1
            injection hv6 with hA6 _ hc6
            subst hA6
            subst hc6
            obtain ⟨ab, aoff, rfl, e0, e1, e2⟩ := Rc.at_ hs65 hj6
            rw [hlj] at e0 e1 e2
            obtain ⟨⟨rf, rs, rv⟩, hrx⟩ : ∃ r : Rc, r = x.rc := ⟨_, rfl⟩
            rw [← hrx] at e0 e1 e2
            simp only at e0 e1 e2
            obtain ⟨A7, c7, rfl, _, _, _⟩ := own_slice h5.2.1
            have SD : Aside (RbC w H b b2 (N + 1) E (.slice (some ⟨ab, aoff, none⟩) l6.length c6) l6 l7 (.slice A7 l7.length c7) w5) := h5
            have HQ2 : Hid (∀ q : Nat, q < N + 1 → fndE E ((q : Int) + 1) ≠ none) := (fun q hq => by
              by_cases e : q < N
              · exact HQ.out q e
              · obtain rfl : q = N := by omega
                rw [hx3]; simp : ∀ q : Nat, q < N + 1 → fndE E ((q : Int) + 1) ≠ none)
            have HL7' : Hid (l7 ++ [(⟨rf, rs, rv⟩ : Rc)] = fixedL E (N + 1)) := by show _ = _; rw [fixedL_succ E N hx3, HL7.out, hrx]
            have hj0 : (0 : Int) ≤ (j : Int) := by omega
            have hjz : (j : Int) < (l6.length : Int) := by omega
            clear hf hx1 hx2 hx3 hxj hlj hs65 h5 hrx
            go_wp2_with (at_builtin; refine wpList_push_at Rc.cells 3 24 Rc.len Rc.one (by omega) rfl _ _ _ rfl H 54 Try.underlying47 (by kernel_rfl) (.slice A7 l7.length c7) l7 ⟨rf, rs, rv⟩ w5.heap.size rfl SD.out.2.1 rfl rfl (by unfold maxLen; omega) (by omega) (by have := SD.out.2.2.2.2.2; omega) ?_; intro v7 w7 hown7 hg7)
            go_roundg (E.length - (N + 1))
            case measure => omega
            case rel => exact ⟨N + 1, l7 ++ [(⟨rf, rs, rv⟩ : Rc)], by go_num, by omega, Nat.le_refl _, HL7', SD.out.push hHw H6.out hown7 hg7, HQ2⟩
        · have hltz : ¬ (N : Int) + 1 ≤ (l6.length : Int) := by omega
          obtain rfl : N = E.length := by omega
          have HST := Lib.hid (show Stop E E.length from ⟨HQ.out, stop_all HQ.out⟩)
          go_wp2_with fail
          go_meet
          exact ⟨E.length, l7, Nat.le_refl _, HL7, HST, SC⟩
    case rest =>
      obtain ⟨N, l7, hN, HL7, HST, SC⟩ := hcut
      clear SC0 HS6
      have h7a : l7.length ≤ N := by rw [HL7.out, fixedL_len]; omega
      have h7b : N ≤ l7.length := by rw [HL7.out, fixedL_len]; omega
      obtain ⟨k1, k2, k3, k4, k5, k6⟩ := SC.out
      obtain ⟨A6', c6', hv6, hs6, _, _⟩ := own_slice k1
      injection hv6 with hA6 _ hc6
      subst hA6
      subst hc6
      obtain ⟨A7, c7, rfl, _, hlc7, hm7⟩ := own_slice k2
      have H7 : Aside (∀ g, (Value.slice A7 l7.length c7).ownBlock = some g → g < wc.heap.size) := fun g hg => (k2.lt g hg).2
      have K2 : Aside (OwnRc wc H (.slice A7 l7.length c7) l7) := k2
      have K4 : Aside (BMap wc b2 N (plcI E N)) := k4
      have K5 : Aside (Ext w wc) := k5
      have HS6 : Aside (RcSeg wc A6 l6) := hs6
      clear SC k1 k2 k3 k4 k5 hs6 H6
      go_wp2_with fail
      go_loopg [8, 91] l6.length (fun kx s8 s91 wr => ∃ (n : Nat) (l8 : List Rc), s91 = .int .i64 n ∧ n ≤ l6.length ∧ l6.length - n ≤ kx ∧ Aside (OwnRc wr wc.heap.size s8 l8) ∧ Hid (l8 = restN E N n) ∧ Aside (Ext wc wr))
      case atStart => exact ⟨0, [], rfl, Nat.zero_le _, by omega, own_nil _ _ _ _ Rc.cells, rfl, Ext.refl wc⟩
      case round =>
        obtain ⟨n, l8, rfl, hn, hkx, SO, HL8, SX⟩ := hrel
        have h8a : l8.length ≤ n := by rw [HL8.out]; exact restN_len E N n
        by_cases hlt : n < l6.length
        · have hltz : (n : Int) < (l6.length : Int) := by omega
          have hn0 : (0 : Int) ≤ (n : Int) := by omega
          obtain ⟨ab, aoff, rfl, e0, e1, e2⟩ := Rc.at_ (HS6.out.ext SX.out) hlt
          have hlE : n < E.length := by omega
          have hlj : l6[n] = E[n].rc := by
            have e : l6[n]? = (E.map Ps.rc)[n]? := by rw [HL6.out]
            rw [List.getElem?_map, List.getElem?_eq_getElem hlE, List.getElem?_eq_getElem hlt] at e
            simpa using e
          rw [hlj] at e0 e1 e2
          obtain ⟨⟨rf, rs, rv⟩, hrx⟩ : ∃ r : Rc, r = E[n].rc := ⟨_, rfl⟩
          rw [← hrx] at e0 e1 e2
          simp only at e0 e1 e2
          have hl := (K4.out.ext (SX.out.allocs (.cells #[.int .i64 rf, .int .i64 rs, .int .i64 rv] 54))).look (k := (n : Int)) ⟨by omega, by omega⟩
          cases hp : plcI E N n with
          | true =>
            rw [hp] at hl
            have HL8' : Hid (l8 = restN E N (n + 1)) := by show _ = _; rw [restN_used E N n hp]; exact HL8.out
            clear hp hlj hrx HL8
            go_wp2_with fail
            go_roundg (l6.length - (n + 1))
            case measure => omega
            case rel => exact ⟨n + 1, l8, by go_num, by omega, Nat.le_refl _, own_ext SO.out ((Ext.refl wr).allocs _), HL8', SX.out.allocs _⟩
          | false =>
            rw [hp] at hl
            have HL8' : Hid (l8 ++ [(⟨rf, rs, rv⟩ : Rc)] = restN E N (n + 1)) := by show _ = _; rw [restN_free E N n hp hlE, ← HL8.out, hrx]
            obtain ⟨A8, c8, rfl, _, _, _⟩ := own_slice SO.out
            have SP : Aside (OwnRc (wr.alloc (.cells #[.int .i64 rf, .int .i64 rs, .int .i64 rv] 54)) wc.heap.size (.slice A8 l8.length c8) l8) := own_ext SO.out ((Ext.refl wr).allocs _)
            have SY : Aside (Ext wc (wr.alloc (.cells #[.int .i64 rf, .int .i64 rs, .int .i64 rv] 54))) := SX.out.allocs _
            clear hp hlj hrx HL8 SO
            go_wp2_with (at_builtin; refine wpList_push_at Rc.cells 3 24 Rc.len Rc.one (by omega) rfl _ _ _ rfl wc.heap.size 54 Try.underlying47 (by kernel_rfl) (.slice A8 l8.length c8) l8 ⟨rf, rs, rv⟩ (wr.heap.size + 1) rfl SP.out rfl (by simp) (by unfold maxLen; omega) (by omega) (by have := SY.out.size; omega) ?_; intro v8 w8 hown8 hg8)
            go_roundg (l6.length - (n + 1))
            case measure => omega
            case rel => exact ⟨n + 1, l8 ++ [(⟨rf, rs, rv⟩ : Rc)], by go_num, by omega, Nat.le_refl _, hown8, HL8', Ext.own SY.out SP.out (Nat.le_refl _) hg8⟩
        · have hltz : ¬ (n : Int) < (l6.length : Int) := by omega
          obtain rfl : n = E.length := by omega
          obtain ⟨A8, c8, rfl, _, _, _⟩ := own_slice SO.out
          have hc := sort_own wc.heap.size (.slice A8 l8.length c8) l8 wr SO.out (by omega)
          have hrest : l8 = restL E N := by
            have h := @restN_all tg (R.map TR.cs) N
            rw [← HE.out] at h
            rw [HL8.out, h]
          have HRS := Lib.hid hrest
          clear hrest
          go_wp2_with fail
          refine hc.mono ?_
          rintro e w1 ⟨rfl, hg8, l9, hS9, hC9, hl9, hown9⟩
          have hE1 : Ext wc w1 := Ext.own SX.out SO.out (Nat.le_refl _) hg8
          obtain ⟨A9, c9, hv9, hs9, _, _⟩ := own_slice hown9
          injection hv9 with hA9 hn9 hc9
          subst hA9
          subst hc9
          have hown7 : OwnRc w1 H (.slice A7 l7.length c7) l7 := own_ext K2.out hE1
          have hEw : Ext w w1 := K5.out.trans hE1
          have OWN7 : Aside _ := hown7
          have EW : Aside _ := hEw
          have SS9 : Aside _ := hs9
          have HL9 := Lib.hid hn9
          have HF : Hid (Reb E (l7 ++ l9) N) := ⟨l9, by rw [HL7.out], HST.out, hS9, by rw [← HRS.out]; exact hC9⟩
          have h9a : l9.length ≤ 200 := by omega
          have hsz1 : H ≤ w1.heap.size := Nat.le_trans k6 hE1.size
          clear hg8 hS9 hC9 hl9 hown9 hE1 hown7 hEw hs9 hn9 hc
          go_wp2_with (at_builtin; refine wpList_cat _ rfl _ _ rfl H (.slice A7 l7.length c7) l7 l9 rfl OWN7.out A8 c8 (by rw [← HL9.out]; rfl) SS9.out (by omega) hsz1 ?_; intro v' w' hown' hg')
          go_ret2
          exact ⟨v', l7 ++ l9, N, by congr 1; congr 1; rw [show (l7.length : Int) = (N : Int) by omega]; rfl, own_base hown' hHw, HF.out, by rw [List.length_append]; omega, by rw [List.length_append]; omega, Ext.own EW.out OWN7.out hHw hg'⟩
end Go.Proofs.Ytooegndajfopkaa
