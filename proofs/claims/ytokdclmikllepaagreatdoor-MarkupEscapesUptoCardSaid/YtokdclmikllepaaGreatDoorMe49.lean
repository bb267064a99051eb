import Derived.Test.YtokdclmikllepaaGreatDoorRows
import Derived.Test.YtokdclmikllepaaGreatDoorCards
import Derived.Deep.DeepHandedRow
import Derived.Lib.LaidIn
import Derived.PinnedBridge
import Derived.LaidLaws
import Derived.ProofKit
import Derived.SevenTiedAt
namespace Go.Proofs.YtokdclmikllepaaGreatDoor
open Go.ChangeShapes Go.WideShapes Go.ChangeAt Go.RowKit Go.Lib
theorem escapes_named : Tryz.pinned.checked.prog.funcNamed Rows.markupEscapesUptoRow.func = some 5 := by kernel_rfl
theorem escapes_inst : Tryz.f5.isInstance Tryz.pinned.checked.prog Rows.markupEscapesUptoRow.origin Rows.markupEscapesUptoRow.targs := of_decide_eq_true (by kernel_rfl)
theorem escapes_wrap : Tryz.f5.isWrapper Tryz.pinned.checked.prog Rows.markupEscapesUptoRow.wrapper Rows.markupEscapesUptoRow.mainSum := by unfold Func.isWrapper; first | (rw [if_pos (by decide +kernel)]; kernel_rfl) | (rw [if_neg (by decide +kernel)]; exact ⟨rfl, rfl⟩)
theorem escapes_joined : joinedFacts Tryz.pinned.checked.prog 5 Tryz.f5 (Rows.OpenSpec.upto Rows.markupEscapesSpec).bare Rows.markupEscapesUptoRow = true := by kernel_rfl
end Go.Proofs.YtokdclmikllepaaGreatDoor
