import Derived.Test.YtokdclmikllepaaGreatDoorKt22
namespace Go.Proofs.YtokdclmikllepaaGreatDoor
open Go.RowKit
set_option linter.unusedVariables false
set_option linter.unusedSimpArgs false

theorem ownsRow_cells {w : World} {B : Nat} {e : TypeId} {size n : Nat} {v : Value} {xs : List Value} (h : w.ownsRow B e size v n xs) (hn : 0 < n) :
    ∃ g cap, v = .slice (some ⟨g, 0, none⟩) n cap ∧ B ≤ g ∧ g < w.heap.size ∧ ∀ j u, xs[j]? = some u → w.cell? ⟨g, j, none⟩ = some u := by
  rcases h.2 with ⟨_, h0⟩ | ⟨g, cap, cur, rfl, hb, hg, hnc, hcm, hsz, ht⟩
  · omega
  · refine ⟨g, cap, rfl, hb, (Array.getElem?_eq_some_iff.1 hg).1, fun j u hj => ?_⟩
    have hlt : j < n * size := by
      have := (List.getElem?_eq_some_iff.1 hj).1
      rw [h.1] at this; exact this
    rw [← ht, List.getElem?_take_of_lt hlt] at hj
    simp [World.cell?, hg]
    simpa using hj
theorem flat_get {α : Type} (f : α → List Value) (m : Nat) (hf : ∀ x, (f x).length = m) : ∀ (l : List α) (i k : Nat), k < m → (l.flatMap f)[i * m + k]? = (l[i]?).bind fun x => (f x)[k]? := by
  intro l
  induction l with
  | nil => intro i k _; simp
  | cons a l ih =>
    intro i k hk
    rw [List.flatMap_cons]
    cases i with
    | zero =>
      rw [Nat.zero_mul, Nat.zero_add, List.getElem?_append_left (by rw [hf]; exact hk)]
      rfl
    | succ i =>
      rw [List.getElem?_append_right (by rw [hf, Nat.succ_mul]; omega), hf, show (i + 1) * m + k - m = i * m + k by rw [Nat.succ_mul]; omega, ih i k hk]
      rfl
theorem AtsAt.cell {B : Nat} {w : World} {v : Value} {l : List Sp.At} (h : AtsAt B w v l) (hn : 0 < l.length) :
    ∃ g cap, v = .slice (some ⟨g, 0, none⟩) l.length cap ∧ B ≤ g ∧ g < w.heap.size ∧ ∀ i a, l[i]? = some a →
      w.cell? ⟨g, i * 3, none⟩ = some (.string ⟨a.name.toArray⟩) ∧ w.cell? ⟨g, i * 3 + 1, none⟩ = some (.string ⟨a.value.toArray⟩) ∧ w.cell? ⟨g, i * 3 + 2, none⟩ = some (.int .i64 a.at_) := by
  obtain ⟨g, cap, hv, hb, hlt, hc⟩ := ownsRow_cells h hn
  refine ⟨g, cap, hv, hb, hlt, fun i a ha => ?_⟩
  have hf := fun k hk => flat_get atCells 3 (fun _ => rfl) l i k hk
  refine ⟨hc _ _ ?_, hc _ _ ?_, hc _ _ ?_⟩
  · rw [show i * 3 = i * 3 + 0 from rfl, hf 0 (by omega), ha]; rfl
  · rw [hf 1 (by omega), ha]; rfl
  · rw [hf 2 (by omega), ha]; rfl
theorem MksAt.cell {B : Nat} {w : World} {v : Value} {l : List Sp.Mk} (h : MksAt B w v l) (hn : 0 < l.length) :
    ∃ g cap, v = .slice (some ⟨g, 0, none⟩) l.length cap ∧ B ≤ g ∧ g < w.heap.size ∧ ∀ i m, l[i]? = some m → ∃ av, AtsAt B w av m.attrs ∧
      w.cell? ⟨g, i * 6, none⟩ = some (.int .i64 m.kind) ∧ w.cell? ⟨g, i * 6 + 1, none⟩ = some (.string ⟨m.name.toArray⟩) ∧ w.cell? ⟨g, i * 6 + 2, none⟩ = some av ∧
      w.cell? ⟨g, i * 6 + 3, none⟩ = some (.bool m.empty) ∧ w.cell? ⟨g, i * 6 + 4, none⟩ = some (.string ⟨m.text.toArray⟩) ∧ w.cell? ⟨g, i * 6 + 5, none⟩ = some (.int .i64 m.at_) := by
  obtain ⟨ps, hps, hat, hown, _⟩ := h
  have hpl : ps.length = l.length := by rw [← hps, List.length_map]
  obtain ⟨g, cap, hv, hb, hlt, hc⟩ := ownsRow_cells hown (by omega)
  rw [hpl] at hv
  refine ⟨g, cap, hv, hb, hlt, fun i m hm => ?_⟩
  rw [← hps, List.getElem?_map] at hm
  obtain ⟨x, hx, rfl⟩ := Option.map_eq_some_iff.1 hm
  have hf := fun k hk => flat_get (fun x : Sp.Mk × Value => mkCells x.1 x.2) 6 (fun _ => rfl) ps i k hk
  refine ⟨x.2, hat x (List.mem_of_getElem? hx), hc _ _ ?_, hc _ _ ?_, hc _ _ ?_, hc _ _ ?_, hc _ _ ?_, hc _ _ ?_⟩
  · rw [show i * 6 = i * 6 + 0 from rfl, hf 0 (by omega), hx]; rfl
  · rw [hf 1 (by omega), hx]; rfl
  · rw [hf 2 (by omega), hx]; rfl
  · rw [hf 3 (by omega), hx]; rfl
  · rw [hf 4 (by omega), hx]; rfl
  · rw [hf 5 (by omega), hx]; rfl
theorem MksAt.nil_inv {B : Nat} {w : World} {v : Value} (h : MksAt B w v []) : ∃ a c, v = .slice a 0 c := by
  obtain ⟨ps, hps, _, hown, _⟩ := h
  have : ps = [] := List.map_eq_nil_iff.1 hps
  subst this
  rcases hown.2 with ⟨rfl, _⟩ | ⟨g, cap, cur, rfl, _⟩
  · exact ⟨_, _, rfl⟩
  · exact ⟨_, _, rfl⟩
theorem MksAt.len {B : Nat} {w : World} {v : Value} {l : List Sp.Mk} (h : MksAt B w v l) : ∃ a c, v = .slice a l.length c := by
  obtain ⟨ps, hps, _, hown, _⟩ := h
  have hpl : ps.length = l.length := by rw [← hps, List.length_map]
  rcases hown.2 with ⟨rfl, h0⟩ | ⟨g, cap, cur, rfl, _⟩
  · exact ⟨none, 0, by rw [← hpl, h0]⟩
  · exact ⟨_, cap, by rw [hpl]⟩

theorem marks_is (s : ByteArray) (w : World) (hG : Gl w) (hs : s.size ≤ 140737488351232) (R : Except Sp.Flt (List Sp.Mk)) (hR : Sp.marks (L s) = R) :
    Calls Tryz.prog 16 #[.string s] w (MarksEnd R w) := hR ▸ marks_calls s w hG hs
theorem marks_err (s : ByteArray) (w : World) (hG : Gl w) (hs : s.size ≤ 140737488351232) (p c : Nat) (hR : Sp.marks (L s) = .error (p, c)) :
    Calls Tryz.prog 16 #[.string s] w fun e w' => e = .returned (.tuple #[.slice none 0 0, .int .i64 p, .int .i64 c]) ∧ Below w.heap.size w w' :=
  (marks_is s w hG hs _ hR).mono fun e w' ⟨hb, he⟩ => ⟨he, hb⟩

end Go.Proofs.YtokdclmikllepaaGreatDoor
namespace Go.Proofs.YtokdclmikllepaaGreatDoor
open Go.RowKit
set_option linter.unusedVariables false
set_option linter.unusedSimpArgs false

theorem AtsAt.below {B : Nat} {w w' : World} {v : Value} {l : List Sp.At} (h : AtsAt B w v l) (hb : Below w.heap.size w w') : AtsAt B w' v l := by
  refine h.kept (row := none) ⟨hb.os, hb.tape, hb.output, hb.size, fun i hi _ => hb.block i hi⟩ ?_
  cases hv : v.ownBlock <;> simp

/-- Marks as they are read. -/
def MksR (B : Nat) (w : World) (v : Value) (l : List Sp.Mk) : Prop :=
  (l = [] → ∃ a c, v = .slice a 0 c) ∧ (0 < l.length → ∃ g cap, v = .slice (some ⟨g, 0, none⟩) l.length cap ∧ g < w.heap.size ∧ ∀ i m, l[i]? = some m → ∃ av, AtsAt B w av m.attrs ∧
      w.cell? ⟨g, i * 6, none⟩ = some (.int .i64 m.kind) ∧ w.cell? ⟨g, i * 6 + 1, none⟩ = some (.string ⟨m.name.toArray⟩) ∧ w.cell? ⟨g, i * 6 + 2, none⟩ = some av ∧
      w.cell? ⟨g, i * 6 + 3, none⟩ = some (.bool m.empty) ∧ w.cell? ⟨g, i * 6 + 4, none⟩ = some (.string ⟨m.text.toArray⟩) ∧ w.cell? ⟨g, i * 6 + 5, none⟩ = some (.int .i64 m.at_))
theorem MksAt.toR {B : Nat} {w : World} {v : Value} {l : List Sp.Mk} (h : MksAt B w v l) : MksR B w v l := by
  refine ⟨fun e => by subst e; exact h.nil_inv, fun hl => ?_⟩
  obtain ⟨g, cap, e, _, hg, hc⟩ := h.cell hl
  exact ⟨g, cap, e, hg, hc⟩
end Go.Proofs.YtokdclmikllepaaGreatDoor
namespace Go.Proofs.YtokdclmikllepaaGreatDoor
open Go.RowKit
set_option linter.unusedVariables false
set_option linter.unusedSimpArgs false

theorem ownsRow_set {w : World} {B : Nat} {e : TypeId} {size n : Nat} {v : Value} {xs : List Value} (h : w.ownsRow B e size v n xs) {g cap : Nat} (hv : v = .slice (some ⟨g, 0, none⟩) n cap) (j : Nat) (u : Value) :
    (w.setCell ⟨g, j, none⟩ u).ownsRow B e size v n (xs.set j u) := by
  refine ⟨by rw [List.length_set]; exact h.1, ?_⟩
  rcases h.2 with ⟨h1, _⟩ | ⟨g', cap', cur, hv', hb, hg, hnc, hcm, hsz, ht⟩
  · rw [hv] at h1; cases h1
  · have e1 : g' = g := by
      rw [hv] at hv'
      injection hv' with e1 _ _
      injection e1 with e1
      injection e1 with e1 _
      exact e1.symm
    subst e1
    refine .inr ⟨g', cap', cur.setIfInBounds j u, hv', hb, heap_set w g' j _ _ _ u hg, hnc, hcm, by simp [hsz], ?_⟩
    rw [Array.toList_setIfInBounds, List.take_set, ht]
theorem flat_set {α : Type} (f : α → List Value) (m : Nat) (hf : ∀ x, (f x).length = m) (u : Value) (k : Nat) (hk : k < m) : ∀ (l : List α) (i : Nat) (x y : α), l[i]? = some x → f y = (f x).set k u → (l.set i y).flatMap f = (l.flatMap f).set (i * m + k) u := by
  intro l
  induction l with
  | nil => intro i x y hx _; cases hx
  | cons a l ih =>
    intro i x y hx hy
    cases i with
    | zero =>
      injection hx with hx
      subst hx
      rw [List.set_cons_zero, List.flatMap_cons, List.flatMap_cons, hy, Nat.zero_mul, Nat.zero_add, List.set_append_left _ _ (by rw [hf]; exact hk)]
    | succ i =>
      rw [List.set_cons_succ, List.flatMap_cons, List.flatMap_cons, ih i x y hx hy, List.set_append_right _ _ (by rw [hf, Nat.succ_mul]; omega), hf, show (i + 1) * m + k - m = i * m + k by rw [Nat.succ_mul]; omega]
theorem AtsAt.fz {B : Nat} {w : World} {g n cap : Nat} {l : List Sp.At} (h : AtsAt B w (.slice (some ⟨g, 0, none⟩) n cap) l) (i : Nat) : w.frozen? ⟨g, i, none⟩ = false := by
  rcases h.2 with ⟨h1, _⟩ | ⟨g', cap', cur, hv', hb, hg, _⟩
  · cases h1
  · injection hv' with e1 _ _
    injection e1 with e1
    injection e1 with e1 _
    subst e1
    simp [World.frozen?, hg]
theorem MksAt.fz {B : Nat} {w : World} {g n cap : Nat} {l : List Sp.Mk} (h : MksAt B w (.slice (some ⟨g, 0, none⟩) n cap) l) (i : Nat) : w.frozen? ⟨g, i, none⟩ = false := by
  obtain ⟨ps, _, _, hown, _⟩ := h
  rcases hown.2 with ⟨h1, _⟩ | ⟨g', cap', cur, hv', hb, hg, _⟩
  · cases h1
  · injection hv' with e1 _ _
    injection e1 with e1
    injection e1 with e1 _
    subst e1
    simp [World.frozen?, hg]

end Go.Proofs.YtokdclmikllepaaGreatDoor
