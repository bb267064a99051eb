import Derived.Test.YtokdclmikllepaaGreatDoorMf36
import Derived.Lib.AppendStr
import Derived.Laws.AppendOwnNone
namespace Go.Proofs.YtokdclmikllepaaGreatDoor
open Go.RowKit
set_option linter.unusedVariables false
set_option linter.unusedSimpArgs false

theorem OwnB.cells {base : Nat} {w : World} {v : Value} {l : List UInt8} (h : OwnB base w v l) :
    (v = .slice none 0 0 ∧ l = []) ∨ ∃ g cap, v = .slice (some ⟨g, 0, none⟩) l.length cap ∧ base ≤ g ∧ g < w.heap.size ∧ ∀ j u, (byteVals l)[j]? = some u → w.cell? ((⟨g, 0, none⟩ : Addr).add j) = some u := by
  rcases h.2 with ⟨rfl, hl⟩ | ⟨g, cap, cur, rfl, hbg, hg, hnc, hcm, hcs, htake⟩
  · exact .inl ⟨rfl, List.eq_nil_of_length_eq_zero hl⟩
  · exact .inr ⟨g, cap, rfl, hbg, (Array.getElem?_eq_some_iff.1 hg).1, World.ownsRow.cells h rfl⟩

section
variable {w : World}

end

/-- One byte, just built. -/
theorem OwnB.one (base : Nat) (w : World) (c : UInt8) (x : Int) (hx : x = c.toNat) (hb : base ≤ w.heap.size) : OwnB base (w.alloc (.cells #[.int .u8 x] 5)) (.slice (some ⟨w.heap.size, 0, none⟩) 1 1) [c] := by
  subst hx
  exact OwnB.made base w [c] _ rfl hb (by simp [maxLen]) _ rfl _ rfl

theorem OwnB.alloc {base : Nat} {w : World} {v : Value} {l : List UInt8} (h : OwnB base w v l) (o : Obj) : OwnB base (w.alloc o) v l := World.ownsRow.alloc h o

end Go.Proofs.YtokdclmikllepaaGreatDoor
