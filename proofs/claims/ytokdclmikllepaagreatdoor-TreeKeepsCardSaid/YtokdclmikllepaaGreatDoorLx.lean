import Derived.Test.YtokdclmikllepaaGreatDoorLw
import Derived.Test.YtokdclmikllepaaGreatDoorLq
namespace Go.Proofs.YtokdclmikllepaaGreatDoor
open Go.RowKit
set_option linter.unusedVariables false
set_option linter.unusedSimpArgs false

/-! ### elements that are written over -/
def Rw (B0 B1 : Nat) (e : TypeId) (size : Nat) (w : World) (v : Value) (n : Nat) : Prop := (∃ xs, w.ownsRow B0 e size v n xs) ∧ ∀ k, v.ownBlock = some k → k < B1
theorem Rw.set {B0 B1 : Nat} {e : TypeId} {size n : Nat} {w : World} {v : Value} (h : Rw B0 B1 e size w v n) (g j : Nat) (u : Value) : Rw B0 B1 e size (w.setCell ⟨g, j, none⟩ u) v n := by
  obtain ⟨⟨xs, h1⟩, h2⟩ := h
  refine ⟨?_, h2⟩
  by_cases hb : v.ownBlock = some g
  · have hv : ∃ cap, v = .slice (some ⟨g, 0, none⟩) n cap := by
      rcases h1.2 with ⟨rfl, _⟩ | ⟨g', cap, cur, rfl, _⟩
      · simp [Value.ownBlock] at hb
      · simp [Value.ownBlock] at hb
        exact ⟨cap, by rw [hb]⟩
    obtain ⟨cap, hv⟩ := hv
    exact ⟨_, ownsRow_set h1 hv j u⟩
  · exact ⟨xs, h1.kept ((Only.refl g w).set j u) (.inr hb)⟩
theorem own_frame {w w' : World} {B n size : Nat} {e : TypeId} {v : Value} {xs : List Value} (h : w.ownsRow B e size v n xs) (hf : ∀ j, B ≤ j → w'.heap[j]? = w.heap[j]?) : w'.ownsRow B e size v n xs := by
  refine ⟨h.1, ?_⟩
  rcases h.2 with h2 | ⟨g, cap, cur, rfl, hb, hg, rest⟩
  · exact .inl h2
  · exact .inr ⟨g, cap, cur, rfl, hb, (hf g hb).trans hg, rest⟩
theorem ElsAt.frame {B : Nat} {w w' : World} {v : Value} {l : List Sp.EE} (h : ElsAt B w v l) (hf : ∀ j, B ≤ j → w'.heap[j]? = w.heap[j]?) : ElsAt B w' v l := by
  obtain ⟨ps, h1, h2, h3⟩ := h
  exact ⟨ps, h1, fun x hx => own_frame (h2 x hx) hf, own_frame h3 hf⟩
theorem own_fz {w : World} {B n size g cap : Nat} {e : TypeId} {xs : List Value} (h : w.ownsRow B e size (.slice (some ⟨g, 0, none⟩) n cap) n xs) (i : Nat) : w.frozen? ⟨g, i, none⟩ = false := by
  rcases h.2 with ⟨h1, _⟩ | ⟨g', cap', cur, hv', hb, hg, _⟩
  · cases h1
  · injection hv' with e1 _ _
    injection e1 with e1
    injection e1 with e1
    subst e1
    simp [World.frozen?, hg]
/-- The elements' row, whatever it holds, but for where its attributes lie. -/
def Sd (B0 B1 g n cap : Nat) (l : List Sp.EE) (w : World) : Prop := (∃ xs, w.ownsRow B0 53 5 (.slice (some ⟨g, 0, none⟩) n cap) n xs ∧ ∀ (i : Nat) (x : Sp.EE), l[i]? = some x → ∃ av, xs[i * 5 + 1]? = some av ∧ Rw B0 B1 42 3 w av x.attrs.length) ∧ g < B1 ∧ B0 ≤ g
theorem Sd.of {B0 B1 g n cap : Nat} {l : List Sp.EE} {w : World} (h : ElsAt B0 w (.slice (some ⟨g, 0, none⟩) n cap) l) (hn : l.length = n) (hB : w.heap.size ≤ B1) : Sd B0 B1 g n cap l w := by
  obtain ⟨ps, hps, hat, hown⟩ := h
  have hpl : ps.length = n := by rw [← hn, ← hps, List.length_map]
  rw [hpl] at hown
  have hlt := World.ownsRow.lt hown g rfl
  refine ⟨⟨_, hown, fun i x hx => ?_⟩, by omega, hlt.1⟩
  rw [← hps, List.getElem?_map] at hx
  obtain ⟨y, hy, rfl⟩ := Option.map_eq_some_iff.1 hx
  refine ⟨y.2, ?_, ⟨_, hat y (List.mem_of_getElem? hy)⟩, fun k hk => ?_⟩
  · rw [flat_get (fun x : Sp.EE × Value => eeCells x.1 x.2) 5 (fun _ => rfl) ps i 1 (by omega), hy]; rfl
  · have := (World.ownsRow.lt (hat y (List.mem_of_getElem? hy)) k hk).2
    omega
theorem Sd.below {B0 B1 g n cap : Nat} {l : List Sp.EE} {w w' : World} (h : Sd B0 B1 g n cap l w) (hb : Below w.heap.size w w') : Sd B0 B1 g n cap l w' := by
  obtain ⟨⟨xs, h1, h2⟩, h3⟩ := h
  refine ⟨⟨xs, own_below h1 hb, fun i x hx => ?_⟩, h3⟩
  obtain ⟨av, h5, ⟨ys, h6⟩, h7⟩ := h2 i x hx
  exact ⟨av, h5, ⟨ys, own_below h6 hb⟩, h7⟩
theorem Sd.get {B0 B1 g n cap : Nat} {l : List Sp.EE} {w : World} (h : Sd B0 B1 g n cap l w) {i : Nat} {x : Sp.EE} (hx : l[i]? = some x) (hn : i < n) : ∃ av, w.cell? ⟨g, i * 5 + 1, none⟩ = some av ∧ (∃ u, w.cell? ⟨g, i * 5, none⟩ = some u) ∧ (∀ k, w.frozen? ⟨g, k, none⟩ = false) ∧ Rw B0 B1 42 3 w av x.attrs.length := by
  obtain ⟨⟨xs, h1, h2⟩, h3, h4⟩ := h
  obtain ⟨av, h5, h6⟩ := h2 i x hx
  obtain ⟨g', cap', he, _, _, hc⟩ := ownsRow_cells h1 (by omega)
  injection he with e1 _ _
  injection e1 with e1
  injection e1 with e1
  subst e1
  have hl := h1.1
  exact ⟨av, hc _ _ h5, ⟨_, hc _ _ (List.getElem?_eq_getElem (l := xs) (i := i * 5) (by rw [hl]; omega))⟩, fun k => own_fz h1 k, h6⟩
theorem Sd.setE {B0 B1 g n cap : Nat} {l : List Sp.EE} {w : World} (h : Sd B0 B1 g n cap l w) (i : Nat) (u : Value) : Sd B0 B1 g n cap l (w.setCell ⟨g, i * 5, none⟩ u) := by
  obtain ⟨⟨xs, h1, h2⟩, h3, h4⟩ := h
  refine ⟨⟨_, ownsRow_set h1 rfl (i * 5) u, fun k x hx => ?_⟩, h3, h4⟩
  obtain ⟨av, h5, h6⟩ := h2 k x hx
  exact ⟨av, by rw [List.getElem?_set_ne (by omega)]; exact h5, h6.set _ _ _⟩
theorem Sd.setA {B0 B1 g n cap : Nat} {l : List Sp.EE} {w : World} (h : Sd B0 B1 g n cap l w) {ga m c : Nat} (hr : Rw B0 B1 42 3 w (.slice (some ⟨ga, 0, none⟩) m c) m) (j : Nat) (u : Value) : Sd B0 B1 g n cap l (w.setCell ⟨ga, j, none⟩ u) := by
  obtain ⟨⟨xs, h1, h2⟩, h3, h4⟩ := h
  obtain ⟨⟨ys, hy⟩, _⟩ := hr
  refine ⟨⟨xs, h1.kept ((Only.refl ga w).set j u) ?_, fun k x hx => ?_⟩, h3, h4⟩
  · exact own_own_ne h1 hy (by decide)
  · obtain ⟨av, h5, h6⟩ := h2 k x hx
    exact ⟨av, h5, h6.set _ _ _⟩
theorem Rw.get {B0 B1 : Nat} {w : World} {v : Value} {m : Nat} (h : Rw B0 B1 42 3 w v m) : ∃ a c, v = .slice a m c ∧ (0 < m → ∃ ga, a = some ⟨ga, 0, none⟩ ∧ B0 ≤ ga ∧ ga < B1 ∧ (∀ k, w.frozen? ⟨ga, k, none⟩ = false) ∧ ∀ q, q < m → ∃ u, w.cell? ⟨ga, q * 3 + 1, none⟩ = some u) := by
  obtain ⟨⟨xs, h1⟩, h2⟩ := h
  by_cases h0 : 0 < m
  · obtain ⟨ga, c, rfl, hb, hlt, hc⟩ := ownsRow_cells h1 h0
    refine ⟨_, c, rfl, fun _ => ⟨ga, rfl, hb, h2 ga rfl, fun k => own_fz h1 k, fun q hq => ?_⟩⟩
    have hl := h1.1
    exact ⟨_, hc _ _ (List.getElem?_eq_getElem (l := xs) (i := q * 3 + 1) (by rw [hl]; omega))⟩
  · obtain ⟨a, c, rfl⟩ := own_len h1
    exact ⟨a, c, rfl, fun h => absurd h h0⟩
/-- What the spoiling leaves. -/
def Fr (W w5 : World) (B1 : Nat) (w : World) : Prop := Below W.heap.size W w ∧ (∀ j, B1 ≤ j → w.heap[j]? = w5.heap[j]?) ∧ w.heap.size = w5.heap.size
theorem Fr.set {W w5 w : World} {B1 ga : Nat} (h : Fr W w5 B1 w) (h0 : W.heap.size ≤ ga) (h1 : ga < B1) (j : Nat) (u : Value) : Fr W w5 B1 (w.setCell ⟨ga, j, none⟩ u) := by
  obtain ⟨h2, h3, h4⟩ := h
  refine ⟨?_, fun k hk => ?_, ?_⟩
  · have ho := (Only.refl ga w).set j u
    exact ⟨ho.os.trans h2.os, ho.tape.trans h2.tape, ho.output.trans h2.output, Nat.le_trans h2.size ho.size, fun k hk => (Below.heap_setCell _ _ _ _ (by intro e; simp at e; omega)).trans (h2.block k hk)⟩
  · rw [Below.heap_setCell _ _ _ _ (by intro e; simp at e; omega)]
    exact h3 k hk
  · rw [← h4]
    exact (World.size_setCell _ _ _)
end Go.Proofs.YtokdclmikllepaaGreatDoor
