import Derived.Test.YtokdclmikllepaaGreatDoorMf33
namespace Go.Proofs.YtokdclmikllepaaGreatDoor
open Go.RowKit
set_option linter.unusedVariables false
set_option linter.unusedSimpArgs false

theorem find_step (what l : List UInt8) (c : UInt8) : Sp.find what (c :: l) = if what.isPrefixOf (c :: l) = true then some 0 else (Sp.find what l).map (· + 1) := rfl

end Go.Proofs.YtokdclmikllepaaGreatDoor
