/- verify: Check. -/
import Derived.Test.YtjnohalffffiaaaVj
set_option linter.unusedVariables false
set_option linter.unusedSimpArgs false
namespace Go.Proofs.Ytjnohalffffiaaa
open Go.RowKit

theorem Check_calls (a : Option Addr) (l : List Ins) (cap : Nat) (w : World) (hr : RdIns w a l) (hc : l.length ≤ cap) (hm : cap ≤ 9223372036854775807) :
    Calls Try.prog 21 #[.slice a l.length cap] w (RetC (chkI l).1 (chkI l).2 w) := by
  cases hA : allI l with
  | err er p =>
    rw [show chkI l = (er, p) from by unfold chkI; rw [hA]]
    dsimp only
    have P := hid (all_err hr hc hm hA)
    clear hA hr
    go_enter Try.func21, Try.ntmps21
    go_wp2_with fail
    refine P.out.mono ?_
    rintro e w1 ⟨rfl, hb⟩
    have HB := hid hb
    clear hb
    go_wp2_with fail
    go_ret2
    exact ⟨rfl, HB.out⟩
  | tab A =>
    rw [show chkI l = (0, 0) from by unfold chkI; rw [hA]]
    dsimp only
    have P := hid (all_tab hr hc hm hA)
    clear hA hr
    go_enter Try.func21, Try.ntmps21
    go_wp2_with fail
    refine P.out.mono ?_
    rintro e w1 ⟨T, rfl, -, hb⟩
    have HB := hid hb
    clear hb
    go_wp2_with fail
    go_ret2
    exact ⟨rfl, HB.out⟩
end Go.Proofs.Ytjnohalffffiaaa
