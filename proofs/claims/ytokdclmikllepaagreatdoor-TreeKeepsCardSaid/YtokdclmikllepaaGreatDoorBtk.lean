import Derived.Test.YtokdclmikllepaaGreatDoorRows
import Derived.Test.YtokdclmikllepaaGreatDoorCards
import Derived.Deep.DeepHandedRow
import Derived.Lib.LaidIn
import Derived.PinnedBridge
import Derived.LaidLaws
import Derived.ProofKit
import Derived.SevenTiedAt
namespace Go.Proofs.YtokdclmikllepaaGreatDoor
open Go.ChangeShapes Go.WideShapes Go.ChangeAt Go.RowKit Go.Lib
theorem keeps_named : Tryz.pinned.checked.prog.funcNamed Rows.treeKeepsRow.func = some 15 := by kernel_rfl
theorem keeps_inst : Tryz.f15.isInstance Tryz.pinned.checked.prog Rows.treeKeepsRow.origin Rows.treeKeepsRow.targs := of_decide_eq_true (by kernel_rfl)
theorem keeps_wrap : Tryz.f15.isWrapper Tryz.pinned.checked.prog Rows.treeKeepsRow.wrapper Rows.treeKeepsRow.mainSum := by unfold Func.isWrapper; first | (rw [if_pos (by decide +kernel)]; kernel_rfl) | (rw [if_neg (by decide +kernel)]; exact ⟨rfl, rfl⟩)
theorem keeps_joined : joinedFacts Tryz.pinned.checked.prog 15 Tryz.f15 (OpenSpec.ofChange Rows.treeKeepsSpec).bare Rows.treeKeepsRow = true := by kernel_rfl
end Go.Proofs.YtokdclmikllepaaGreatDoor
