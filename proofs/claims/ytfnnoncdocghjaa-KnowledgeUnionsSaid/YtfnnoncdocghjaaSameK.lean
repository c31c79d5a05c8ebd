/- Same of the reference at known determinants. No statement of the seat is proved here. -/
import Derived.Test.YtfnnoncdocghjaaSelK
namespace Go.Proofs.Ytfnnoncdocghjaa
open Go.RowKit
set_option linter.unusedVariables false
set_option maxRecDepth 100000

set_option maxHeartbeats 1600000 in
theorem sameKn (A B : Option Addr) (ca cb : Nat) (l : List Kn) (w : World) (ha : KnSeg w A l) (hb : KnSeg w B l) (hn : l.length ≤ 1000) :
    Calls Try.prog 18 #[.slice A l.length ca, .slice B l.length cb] w (StillPost w (.bool true)) := by
  go_enter Try.func18, Try.ntmps18
  go_wp2_with fail
  go_loopg [5] l.length (fun g i wr => StillRel w l.length g i wr)
  case atStart => exact ⟨0, 0, Nat.zero_le _, rfl, rfl, rfl⟩
  case round =>
    obtain ⟨j, q, hj, rfl, rfl, rfl⟩ := hrel
    by_cases hlt : j < l.length
    · obtain ⟨b, off, rfl, p0, p1, p2, p3, p4, p5, p6, p7, p8, p9⟩ := Kn.at_ ha hlt
      obtain ⟨b', off', rfl, r0, r1, r2, r3, r4, r5, r6, r7, r8, r9⟩ := Kn.at_ hb hlt
      generalize l[j].d.proc = x0 at *
      generalize l[j].d.index = x1 at *
      generalize l[j].d.ev.kind = x2 at *
      generalize l[j].d.ev.inc = x3 at *
      generalize l[j].d.ev.frm = x4 at *
      generalize l[j].d.ev.sinc = x5 at *
      generalize l[j].d.ev.sidx = x6 at *
      generalize l[j].d.ev.ord = x7 at *
      generalize l[j].d.ev.val = x8 at *
      generalize l[j].h = x9 at *
      clear ha hb
      go_wp2_with fail
      go_quiet (fail)
      go_wp2_with fail
      go_roundg (l.length - (j + 1))
      case measure => omega
      case rel => exact ⟨j + 1, _, by omega, by go_num, rfl, rfl⟩
    · go_wp2_with fail
      go_ret
      exact ⟨rfl, _, rfl⟩

end Go.Proofs.Ytfnnoncdocghjaa
