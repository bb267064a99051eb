import Derived.Test.YtokdclmikllepaaGreatDoorRows
import Derived.Test.YtokdclmikllepaaGreatDoorCards
import Derived.Deep.DeepHandedRow
import Derived.Lib.LaidIn
import Derived.PinnedBridge
import Derived.LaidLaws
import Derived.ProofKit
import Derived.SevenTiedAt
namespace Go.Proofs.YtokdclmikllepaaGreatDoor
open Go.ChangeShapes Go.WideShapes Go.ChangeAt Go.RowKit Go.Lib
theorem writes_named : Tryz.pinned.checked.prog.funcNamed Rows.treeWritesRow.func = some 10 := by kernel_rfl
theorem writes_inst : Tryz.f10.isInstance Tryz.pinned.checked.prog Rows.treeWritesRow.origin Rows.treeWritesRow.targs := of_decide_eq_true (by kernel_rfl)
theorem writes_wrap : Tryz.f10.isWrapper Tryz.pinned.checked.prog Rows.treeWritesRow.wrapper Rows.treeWritesRow.mainSum := by unfold Func.isWrapper; first | (rw [if_pos (by decide +kernel)]; kernel_rfl) | (rw [if_neg (by decide +kernel)]; exact ⟨rfl, rfl⟩)
theorem writes_joined : joinedFacts Tryz.pinned.checked.prog 10 Tryz.f10 (OpenSpec.ofChange Rows.treeWritesSpec).bare Rows.treeWritesRow = true := by kernel_rfl
end Go.Proofs.YtokdclmikllepaaGreatDoor
