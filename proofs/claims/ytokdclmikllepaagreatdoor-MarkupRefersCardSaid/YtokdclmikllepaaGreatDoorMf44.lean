import Derived.Test.YtokdclmikllepaaGreatDoorRows
import Derived.Test.YtokdclmikllepaaGreatDoorCards
import Derived.Deep.DeepHandedRow
import Derived.Lib.LaidIn
import Derived.PinnedBridge
import Derived.LaidLaws
import Derived.ProofKit
import Derived.SevenTiedAt
namespace Go.Proofs.YtokdclmikllepaaGreatDoor
open Go.ChangeShapes Go.WideShapes Go.ChangeAt Go.RowKit Go.Lib
theorem refers_named : Tryz.pinned.checked.prog.funcNamed Rows.markupRefersRow.func = some 4 := by kernel_rfl
theorem refers_inst : Tryz.f4.isInstance Tryz.pinned.checked.prog Rows.markupRefersRow.origin Rows.markupRefersRow.targs := of_decide_eq_true (by kernel_rfl)
theorem refers_wrap : Tryz.f4.isWrapper Tryz.pinned.checked.prog Rows.markupRefersRow.wrapper Rows.markupRefersRow.mainSum := by unfold Func.isWrapper; first | (rw [if_pos (by decide +kernel)]; kernel_rfl) | (rw [if_neg (by decide +kernel)]; exact ⟨rfl, rfl⟩)
theorem refers_joined : joinedFacts Tryz.pinned.checked.prog 4 Tryz.f4 (OpenSpec.ofChange Rows.markupRefersSpec).bare Rows.markupRefersRow = true := by kernel_rfl
end Go.Proofs.YtokdclmikllepaaGreatDoor
