import Derived.Test.YtokdclmikllepaaGreatDoorRows
import Derived.Test.YtokdclmikllepaaGreatDoorCards
import Derived.Deep.DeepHandedRow
import Derived.Lib.LaidIn
import Derived.PinnedBridge
import Derived.LaidLaws
import Derived.ProofKit
import Derived.SevenTiedAt
namespace Go.Proofs.YtokdclmikllepaaGreatDoor
open Go.ChangeShapes Go.WideShapes Go.ChangeAt Go.RowKit Go.Lib
theorem sinner_named : Tryz.pinned.checked.prog.funcNamed Rows.spacesInnerRow.func = some 8 := by kernel_rfl
theorem sinner_inst : Tryz.f8.isInstance Tryz.pinned.checked.prog Rows.spacesInnerRow.origin Rows.spacesInnerRow.targs := of_decide_eq_true (by kernel_rfl)
theorem sinner_wrap : Tryz.f8.isWrapper Tryz.pinned.checked.prog Rows.spacesInnerRow.wrapper Rows.spacesInnerRow.mainSum := by unfold Func.isWrapper; first | (rw [if_pos (by decide +kernel)]; kernel_rfl) | (rw [if_neg (by decide +kernel)]; exact ⟨rfl, rfl⟩)
theorem sinner_joined : joinedFacts Tryz.pinned.checked.prog 8 Tryz.f8 (OpenSpec.ofChange Rows.spacesInnerSpec).bare Rows.spacesInnerRow = true := by kernel_rfl
end Go.Proofs.YtokdclmikllepaaGreatDoor
