import Derived.Test.YtokdclmikllepaaGreatDoorRows
import Derived.Test.YtokdclmikllepaaGreatDoorCards
import Derived.Deep.DeepHandedRow
import Derived.Lib.LaidIn
import Derived.PinnedBridge
import Derived.LaidLaws
import Derived.ProofKit
import Derived.SevenTiedAt
namespace Go.Proofs.YtokdclmikllepaaGreatDoor
open Go.ChangeShapes Go.WideShapes Go.ChangeAt Go.RowKit Go.Lib
theorem sdefault_named : Tryz.pinned.checked.prog.funcNamed Rows.spacesDefaultRow.func = some 7 := by kernel_rfl
theorem sdefault_inst : Tryz.f7.isInstance Tryz.pinned.checked.prog Rows.spacesDefaultRow.origin Rows.spacesDefaultRow.targs := of_decide_eq_true (by kernel_rfl)
theorem sdefault_wrap : Tryz.f7.isWrapper Tryz.pinned.checked.prog Rows.spacesDefaultRow.wrapper Rows.spacesDefaultRow.mainSum := by unfold Func.isWrapper; first | (rw [if_pos (by decide +kernel)]; kernel_rfl) | (rw [if_neg (by decide +kernel)]; exact ⟨rfl, rfl⟩)
theorem sdefault_joined : joinedFacts Tryz.pinned.checked.prog 7 Tryz.f7 (OpenSpec.ofChange Rows.spacesDefaultSpec).bare Rows.spacesDefaultRow = true := by kernel_rfl
end Go.Proofs.YtokdclmikllepaaGreatDoor
