import Derived.Test.YtokdclmikllepaaGreatDoorRows
import Derived.Test.YtokdclmikllepaaGreatDoorCards
import Derived.Deep.DeepHandedRow
import Derived.Lib.LaidIn
import Derived.PinnedBridge
import Derived.LaidLaws
import Derived.ProofKit
import Derived.SevenTiedAt
namespace Go.Proofs.YtokdclmikllepaaGreatDoor
open Go.ChangeShapes Go.WideShapes Go.ChangeAt Go.RowKit Go.Lib
theorem turned_named : Tryz.pinned.checked.prog.funcNamed Rows.treeTurnedRow.func = some 14 := by kernel_rfl
theorem turned_inst : Tryz.f14.isInstance Tryz.pinned.checked.prog Rows.treeTurnedRow.origin Rows.treeTurnedRow.targs := of_decide_eq_true (by kernel_rfl)
theorem turned_wrap : Tryz.f14.isWrapper Tryz.pinned.checked.prog Rows.treeTurnedRow.wrapper Rows.treeTurnedRow.mainSum := by unfold Func.isWrapper; first | (rw [if_pos (by decide +kernel)]; kernel_rfl) | (rw [if_neg (by decide +kernel)]; exact ⟨rfl, rfl⟩)
theorem turned_joined : joinedFacts Tryz.pinned.checked.prog 14 Tryz.f14 (OpenSpec.ofChange Rows.treeTurnedSpec).bare Rows.treeTurnedRow = true := by kernel_rfl
end Go.Proofs.YtokdclmikllepaaGreatDoor
