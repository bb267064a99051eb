import Derived.Test.YtokdclmikllepaaGreatDoorMf34
namespace Go.Proofs.YtokdclmikllepaaGreatDoor
open Go.RowKit
set_option linter.unusedVariables false
set_option linter.unusedSimpArgs false

/-- A number's rune, told as Go tells it. -/
def numI (base : Nat) (l : List UInt8) : Int :=
  if l = [] ∨ 8 < l.length then -1
  else match Sp.number base 0 l with
    | some n => if Sp.isChar (n : Int) = true then (n : Int) else -1
    | none => -1

theorem refChar_is (r : Int) (b : Bool) (w : World) (h : Sp.isChar r = b) :
    Calls Tryz.prog 22 #[.int .i32 r] w fun e w' => e = .returned (.bool b) ∧ w = w' := h ▸ refChar_calls r w

end Go.Proofs.YtokdclmikllepaaGreatDoor
