import Derived.Test.YtokdclmikllepaaGreatDoorRows
import Derived.Test.YtokdclmikllepaaGreatDoorCards
import Derived.Deep.DeepHandedRow
import Derived.Lib.LaidIn
import Derived.PinnedBridge
import Derived.LaidLaws
import Derived.ProofKit
import Derived.SevenTiedAt
namespace Go.Proofs.YtokdclmikllepaaGreatDoor
open Go.ChangeShapes Go.WideShapes Go.ChangeAt Go.RowKit Go.Lib
theorem again_named : Tryz.pinned.checked.prog.funcNamed Rows.treeAgainRow.func = some 12 := by kernel_rfl
theorem again_inst : Tryz.f12.isInstance Tryz.pinned.checked.prog Rows.treeAgainRow.origin Rows.treeAgainRow.targs := of_decide_eq_true (by kernel_rfl)
theorem again_wrap : Tryz.f12.isWrapper Tryz.pinned.checked.prog Rows.treeAgainRow.wrapper Rows.treeAgainRow.mainSum := by unfold Func.isWrapper; first | (rw [if_pos (by decide +kernel)]; kernel_rfl) | (rw [if_neg (by decide +kernel)]; exact ⟨rfl, rfl⟩)
theorem again_joined : joinedFacts Tryz.pinned.checked.prog 12 Tryz.f12 (OpenSpec.ofChange Rows.treeAgainSpec).bare Rows.treeAgainRow = true := by kernel_rfl
end Go.Proofs.YtokdclmikllepaaGreatDoor
