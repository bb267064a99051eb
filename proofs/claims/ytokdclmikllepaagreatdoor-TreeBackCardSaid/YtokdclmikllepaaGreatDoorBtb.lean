import Derived.Test.YtokdclmikllepaaGreatDoorRows
import Derived.Test.YtokdclmikllepaaGreatDoorCards
import Derived.Deep.DeepHandedRow
import Derived.Lib.LaidIn
import Derived.PinnedBridge
import Derived.LaidLaws
import Derived.ProofKit
import Derived.SevenTiedAt
namespace Go.Proofs.YtokdclmikllepaaGreatDoor
open Go.ChangeShapes Go.WideShapes Go.ChangeAt Go.RowKit Go.Lib
theorem back_named : Tryz.pinned.checked.prog.funcNamed Rows.treeBackRow.func = some 11 := by kernel_rfl
theorem back_inst : Tryz.f11.isInstance Tryz.pinned.checked.prog Rows.treeBackRow.origin Rows.treeBackRow.targs := of_decide_eq_true (by kernel_rfl)
theorem back_wrap : Tryz.f11.isWrapper Tryz.pinned.checked.prog Rows.treeBackRow.wrapper Rows.treeBackRow.mainSum := by unfold Func.isWrapper; first | (rw [if_pos (by decide +kernel)]; kernel_rfl) | (rw [if_neg (by decide +kernel)]; exact ⟨rfl, rfl⟩)
theorem back_joined : joinedFacts Tryz.pinned.checked.prog 11 Tryz.f11 (OpenSpec.ofChange Rows.treeBackSpec).bare Rows.treeBackRow = true := by kernel_rfl
end Go.Proofs.YtokdclmikllepaaGreatDoor
