import Derived.Test.YtokdclmikllepaaGreatDoorRows
import Derived.Test.YtokdclmikllepaaGreatDoorCards
import Derived.Deep.DeepHandedRow
import Derived.Lib.LaidIn
import Derived.PinnedBridge
import Derived.LaidLaws
import Derived.ProofKit
import Derived.SevenTiedAt
namespace Go.Proofs.YtokdclmikllepaaGreatDoor
open Go.ChangeShapes Go.WideShapes Go.ChangeAt Go.RowKit Go.Lib
theorem reads_named : Tryz.pinned.checked.prog.funcNamed Rows.markupReadsRow.func = some 3 := by kernel_rfl
theorem reads_inst : Tryz.f3.isInstance Tryz.pinned.checked.prog Rows.markupReadsRow.origin Rows.markupReadsRow.targs := of_decide_eq_true (by kernel_rfl)
theorem reads_wrap : Tryz.f3.isWrapper Tryz.pinned.checked.prog Rows.markupReadsRow.wrapper Rows.markupReadsRow.mainSum := by unfold Func.isWrapper; first | (rw [if_pos (by decide +kernel)]; kernel_rfl) | (rw [if_neg (by decide +kernel)]; exact ⟨rfl, rfl⟩)
theorem reads_joined : joinedFacts Tryz.pinned.checked.prog 3 Tryz.f3 (OpenSpec.ofChange Rows.markupReadsSpec).bare Rows.markupReadsRow = true := by kernel_rfl
end Go.Proofs.YtokdclmikllepaaGreatDoor
