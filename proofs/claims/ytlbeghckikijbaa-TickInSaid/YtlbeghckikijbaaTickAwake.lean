/- The first line of each law of layer 1: what 'awake' asks of closed numbers is so. -/
import Derived.Test.YtlbeghckikijbaaTick
namespace Go.Proofs.Ytlbeghckikijbaa
open Go.RowKit
set_option linter.unusedVariables false

set_option maxHeartbeats 1000000 in
theorem awake_any (w : World) : Calls Try.prog 11 #[] w fun e w' => e = .returned (.bool true) ∧ w = w' := by
  have c1 := Lib.hid (win_any 17 5 10 w (by omega) (by omega) (by omega) (by omega) (by omega) (by omega))
  have c2 := Lib.hid (next_any 17 5 10 w (by omega) (by omega) (by omega) (by omega) (by omega) (by omega))
  have c3 := Lib.hid (add_any 4611686018427387903 1 w (by omega) (by omega) (by omega) (by omega))
  have c4 := Lib.hid (up_any 7 3 w (by omega) (by omega) (by omega) (by omega))
  go_enter Try.func11, Try.ntmps11
  go_wp2_with (first
    | (go_at_call 12; refine Calls.mono c1.out ?_; rintro e w' ⟨rfl, rfl⟩)
    | (go_at_call 14; refine Calls.mono c2.out ?_; rintro e w' ⟨rfl, rfl⟩)
    | (go_at_call 17; refine Calls.mono c3.out ?_; rintro e w' ⟨rfl, rfl⟩)
    | (go_at_call 16; refine Calls.mono c4.out ?_; rintro e w' ⟨rfl, rfl⟩))
  go_ret
  exact ⟨retb (by decide), rfl⟩
end Go.Proofs.Ytlbeghckikijbaa
