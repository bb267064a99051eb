import Derived.Test.YtokdclmikllepaaGreatDoorLo
namespace Go.Proofs.YtokdclmikllepaaGreatDoor
open Go.RowKit
set_option linter.unusedVariables false
set_option linter.unusedSimpArgs false

theorem AtsR.cells {w : World} {v : Value} {l : List Sp.EA} (h : AtsR w v l) : ∃ a c, v = .slice a l.length c ∧ (0 < l.length → ∃ g o, a = some ⟨g, o, none⟩ ∧ g < w.heap.size ∧ ∀ i x, l[i]? = some x → ∀ W, Below w.heap.size w W →
    W.cell? ⟨g, o + i * 3, none⟩ = some (.string ⟨x.name.toArray⟩) ∧ W.cell? ⟨g, o + i * 3 + 1, none⟩ = some (.string ⟨x.value.toArray⟩) ∧ W.cell? ⟨g, o + i * 3 + 2, none⟩ = some (.int .i64 x.at_)) := by
  obtain ⟨a, c, rfl, hc⟩ := h
  refine ⟨a, c, rfl, fun hl => ?_⟩
  obtain ⟨g, o, rfl, hg, h2⟩ := hc hl
  refine ⟨g, o, rfl, hg, fun i x hx W hW => ?_⟩
  have e : ∀ j, W.cell? ⟨g, j, none⟩ = w.cell? ⟨g, j, none⟩ := fun j => World.cell?_of_block (hW.block g hg)
  simp only [e]
  exact h2 i x hx
theorem ElsR.cells {w : World} {v : Value} {l : List Sp.EE} (h : ElsR w v l) : ∃ a c, v = .slice a l.length c ∧ (0 < l.length → ∃ g o, a = some ⟨g, o, none⟩ ∧ g < w.heap.size ∧ ∀ i x, l[i]? = some x → ∃ av, AtsR w av x.attrs ∧ ∀ W, Below w.heap.size w W →
    W.cell? ⟨g, o + i * 5, none⟩ = some (.string ⟨x.name.toArray⟩) ∧ W.cell? ⟨g, o + i * 5 + 1, none⟩ = some av ∧ W.cell? ⟨g, o + i * 5 + 2, none⟩ = some (.string ⟨x.text.toArray⟩) ∧
    W.cell? ⟨g, o + i * 5 + 3, none⟩ = some (.int .i64 x.up) ∧ W.cell? ⟨g, o + i * 5 + 4, none⟩ = some (.int .i64 x.at_)) := by
  obtain ⟨a, c, rfl, hc⟩ := h
  refine ⟨a, c, rfl, fun hl => ?_⟩
  obtain ⟨g, o, rfl, hg, h2⟩ := hc hl
  refine ⟨g, o, rfl, hg, fun i x hx => ?_⟩
  obtain ⟨av, h3, h4⟩ := h2 i x hx
  refine ⟨av, h3, fun W hW => ?_⟩
  have e : ∀ j, W.cell? ⟨g, j, none⟩ = w.cell? ⟨g, j, none⟩ := fun j => World.cell?_of_block (hW.block g hg)
  simp only [e]
  exact h4
end Go.Proofs.YtokdclmikllepaaGreatDoor
