import Derived.Test.YtokdclmikllepaaGreatDoorMf31
import Derived.Test.YtokdclmikllepaaGreatDoorMf32
import Derived.Test.YtokdclmikllepaaGreatDoorMf8
namespace Go.Proofs.YtokdclmikllepaaGreatDoor
open Go.RowKit
set_option linter.unusedVariables false
set_option linter.unusedSimpArgs false

set_option maxHeartbeats 2000000 in
set_option maxRecDepth 100000 in
theorem refChar_calls (r : Int) (w : World) :
    Calls Tryz.prog 22 #[.int .i32 r] w fun e w' => e = .returned (.bool (Sp.isChar r)) ∧ w = w' := by
  go_enter Tryz.func22, Tryz.ntmps22
  go_wp2_with (go_at_call 59; refine (refRune_calls _ _).mono ?_; rintro e w' ⟨rfl, rfl⟩)
  all_goals
    go_ret
    refine ⟨ret_bool ?_, rfl⟩
    simp only [Sp.isChar]
    generalize Sp.isRune r = b at *
    cases b <;> rw [Bool.eq_iff_iff] <;> simp at * <;> try (first | omega | (simp_all; done) | (simp_all; omega))

end Go.Proofs.YtokdclmikllepaaGreatDoor
