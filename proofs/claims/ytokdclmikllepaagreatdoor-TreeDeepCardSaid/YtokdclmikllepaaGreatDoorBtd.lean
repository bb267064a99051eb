import Derived.Test.YtokdclmikllepaaGreatDoorRows
import Derived.Test.YtokdclmikllepaaGreatDoorCards
import Derived.Deep.DeepHandedRow
import Derived.Lib.LaidIn
import Derived.PinnedBridge
import Derived.LaidLaws
import Derived.ProofKit
import Derived.SevenTiedAt
namespace Go.Proofs.YtokdclmikllepaaGreatDoor
open Go.ChangeShapes Go.WideShapes Go.ChangeAt Go.RowKit Go.Lib
theorem deep_named : Tryz.pinned.checked.prog.funcNamed Rows.treeDeepRow.func = some 13 := by kernel_rfl
theorem deep_inst : Tryz.f13.isInstance Tryz.pinned.checked.prog Rows.treeDeepRow.origin Rows.treeDeepRow.targs := of_decide_eq_true (by kernel_rfl)
theorem deep_wrap : Tryz.f13.isWrapper Tryz.pinned.checked.prog Rows.treeDeepRow.wrapper Rows.treeDeepRow.mainSum := by unfold Func.isWrapper; first | (rw [if_pos (by decide +kernel)]; kernel_rfl) | (rw [if_neg (by decide +kernel)]; exact ⟨rfl, rfl⟩)
theorem deep_joined : joinedFacts Tryz.pinned.checked.prog 13 Tryz.f13 (OpenSpec.ofChange Rows.treeDeepSpec).bare Rows.treeDeepRow = true := by kernel_rfl
end Go.Proofs.YtokdclmikllepaaGreatDoor
