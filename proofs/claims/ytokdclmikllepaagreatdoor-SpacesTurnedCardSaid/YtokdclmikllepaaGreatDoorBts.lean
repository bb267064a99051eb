import Derived.Test.YtokdclmikllepaaGreatDoorRows
import Derived.Test.YtokdclmikllepaaGreatDoorCards
import Derived.Deep.DeepHandedRow
import Derived.Lib.LaidIn
import Derived.PinnedBridge
import Derived.LaidLaws
import Derived.ProofKit
import Derived.SevenTiedAt
namespace Go.Proofs.YtokdclmikllepaaGreatDoor
open Go.ChangeShapes Go.WideShapes Go.ChangeAt Go.RowKit Go.Lib
theorem sturned_named : Tryz.pinned.checked.prog.funcNamed Rows.spacesTurnedRow.func = some 6 := by kernel_rfl
theorem sturned_inst : Tryz.f6.isInstance Tryz.pinned.checked.prog Rows.spacesTurnedRow.origin Rows.spacesTurnedRow.targs := of_decide_eq_true (by kernel_rfl)
theorem sturned_wrap : Tryz.f6.isWrapper Tryz.pinned.checked.prog Rows.spacesTurnedRow.wrapper Rows.spacesTurnedRow.mainSum := by unfold Func.isWrapper; first | (rw [if_pos (by decide +kernel)]; kernel_rfl) | (rw [if_neg (by decide +kernel)]; exact ⟨rfl, rfl⟩)
theorem sturned_joined : joinedFacts Tryz.pinned.checked.prog 6 Tryz.f6 (OpenSpec.ofChange Rows.spacesTurnedSpec).bare Rows.spacesTurnedRow = true := by kernel_rfl
end Go.Proofs.YtokdclmikllepaaGreatDoor
