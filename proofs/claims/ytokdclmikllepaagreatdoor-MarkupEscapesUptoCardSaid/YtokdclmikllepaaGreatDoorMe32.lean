import Derived.Test.YtokdclmikllepaaGreatDoorMe31
namespace Go.Proofs.YtokdclmikllepaaGreatDoor
open Go.RowKit
set_option linter.unusedVariables false
set_option linter.unusedSimpArgs false

theorem ownsRow_cells {w : World} {B : Nat} {e : TypeId} {size n : Nat} {v : Value} {xs : List Value} (h : w.ownsRow B e size v n xs) (hn : 0 < n) :
    ∃ g cap, v = .slice (some ⟨g, 0, none⟩) n cap ∧ B ≤ g ∧ g < w.heap.size ∧ ∀ j u, xs[j]? = some u → w.cell? ⟨g, j, none⟩ = some u := by
  rcases h.2 with ⟨_, h0⟩ | ⟨g, cap, cur, rfl, hb, hg, hnc, hcm, hsz, ht⟩
  · omega
  · refine ⟨g, cap, rfl, hb, (Array.getElem?_eq_some_iff.1 hg).1, fun j u hj => ?_⟩
    have hlt : j < n * size := by
      have := (List.getElem?_eq_some_iff.1 hj).1
      rw [h.1] at this; exact this
    rw [← ht, List.getElem?_take_of_lt hlt] at hj
    simp [World.cell?, hg]
    simpa using hj
theorem flat_get {α : Type} (f : α → List Value) (m : Nat) (hf : ∀ x, (f x).length = m) : ∀ (l : List α) (i k : Nat), k < m → (l.flatMap f)[i * m + k]? = (l[i]?).bind fun x => (f x)[k]? := by
  intro l
  induction l with
  | nil => intro i k _; simp
  | cons a l ih =>
    intro i k hk
    rw [List.flatMap_cons]
    cases i with
    | zero =>
      rw [Nat.zero_mul, Nat.zero_add, List.getElem?_append_left (by rw [hf]; exact hk)]
      rfl
    | succ i =>
      rw [List.getElem?_append_right (by rw [hf, Nat.succ_mul]; omega), hf, show (i + 1) * m + k - m = i * m + k by rw [Nat.succ_mul]; omega, ih i k hk]
      rfl
theorem AtsAt.cell {B : Nat} {w : World} {v : Value} {l : List Sp.At} (h : AtsAt B w v l) (hn : 0 < l.length) :
    ∃ g cap, v = .slice (some ⟨g, 0, none⟩) l.length cap ∧ B ≤ g ∧ g < w.heap.size ∧ ∀ i a, l[i]? = some a →
      w.cell? ⟨g, i * 3, none⟩ = some (.string ⟨a.name.toArray⟩) ∧ w.cell? ⟨g, i * 3 + 1, none⟩ = some (.string ⟨a.value.toArray⟩) ∧ w.cell? ⟨g, i * 3 + 2, none⟩ = some (.int .i64 a.at_) := by
  obtain ⟨g, cap, hv, hb, hlt, hc⟩ := ownsRow_cells h hn
  refine ⟨g, cap, hv, hb, hlt, fun i a ha => ?_⟩
  have hf := fun k hk => flat_get atCells 3 (fun _ => rfl) l i k hk
  refine ⟨hc _ _ ?_, hc _ _ ?_, hc _ _ ?_⟩
  · rw [show i * 3 = i * 3 + 0 from rfl, hf 0 (by omega), ha]; rfl
  · rw [hf 1 (by omega), ha]; rfl
  · rw [hf 2 (by omega), ha]; rfl
theorem MksAt.cell {B : Nat} {w : World} {v : Value} {l : List Sp.Mk} (h : MksAt B w v l) (hn : 0 < l.length) :
    ∃ g cap, v = .slice (some ⟨g, 0, none⟩) l.length cap ∧ B ≤ g ∧ g < w.heap.size ∧ ∀ i m, l[i]? = some m → ∃ av, AtsAt B w av m.attrs ∧
      w.cell? ⟨g, i * 6, none⟩ = some (.int .i64 m.kind) ∧ w.cell? ⟨g, i * 6 + 1, none⟩ = some (.string ⟨m.name.toArray⟩) ∧ w.cell? ⟨g, i * 6 + 2, none⟩ = some av ∧
      w.cell? ⟨g, i * 6 + 3, none⟩ = some (.bool m.empty) ∧ w.cell? ⟨g, i * 6 + 4, none⟩ = some (.string ⟨m.text.toArray⟩) ∧ w.cell? ⟨g, i * 6 + 5, none⟩ = some (.int .i64 m.at_) := by
  obtain ⟨ps, hps, hat, hown, _⟩ := h
  have hpl : ps.length = l.length := by rw [← hps, List.length_map]
  obtain ⟨g, cap, hv, hb, hlt, hc⟩ := ownsRow_cells hown (by omega)
  rw [hpl] at hv
  refine ⟨g, cap, hv, hb, hlt, fun i m hm => ?_⟩
  rw [← hps, List.getElem?_map] at hm
  obtain ⟨x, hx, rfl⟩ := Option.map_eq_some_iff.1 hm
  have hf := fun k hk => flat_get (fun x : Sp.Mk × Value => mkCells x.1 x.2) 6 (fun _ => rfl) ps i k hk
  refine ⟨x.2, hat x (List.mem_of_getElem? hx), hc _ _ ?_, hc _ _ ?_, hc _ _ ?_, hc _ _ ?_, hc _ _ ?_, hc _ _ ?_⟩
  · rw [show i * 6 = i * 6 + 0 from rfl, hf 0 (by omega), hx]; rfl
  · rw [hf 1 (by omega), hx]; rfl
  · rw [hf 2 (by omega), hx]; rfl
  · rw [hf 3 (by omega), hx]; rfl
  · rw [hf 4 (by omega), hx]; rfl
  · rw [hf 5 (by omega), hx]; rfl
theorem MksAt.len {B : Nat} {w : World} {v : Value} {l : List Sp.Mk} (h : MksAt B w v l) : ∃ a c, v = .slice a l.length c := by
  obtain ⟨ps, hps, _, hown, _⟩ := h
  have hpl : ps.length = l.length := by rw [← hps, List.length_map]
  rcases hown.2 with ⟨rfl, h0⟩ | ⟨g, cap, cur, rfl, _⟩
  · exact ⟨none, 0, by rw [← hpl, h0]⟩
  · exact ⟨_, cap, by rw [hpl]⟩

def doc1 : ByteArray := ⟨#[60, 97, 32, 98, 32, 61, 32, 34, 49, 38, 97, 109, 112, 59, 50, 34, 47, 62]⟩
def doc2 : ByteArray := ⟨#[60, 97, 32, 98, 61, 34, 49, 34, 99, 61, 34, 50, 34, 62]⟩
def doc3 : ByteArray := ⟨#[120, 60]⟩
theorem doc1_marks : Sp.marks (L doc1) = .ok [⟨1, [97], [⟨[98], [49, 38, 50], 3⟩], true, [], 0⟩] := by rfl
theorem doc2_marks : Sp.marks (L doc2) = .error (8, 82) := by rfl
theorem doc3_marks : Sp.marks (L doc3) = .error (1, 84) := by rfl

theorem marks_is (s : ByteArray) (w : World) (hG : Gl w) (hs : s.size ≤ 140737488351232) (R : Except Sp.Flt (List Sp.Mk)) (hR : Sp.marks (L s) = R) :
    Calls Tryz.prog 16 #[.string s] w (MarksEnd R w) := hR ▸ marks_calls s w hG hs
theorem marks_err (s : ByteArray) (w : World) (hG : Gl w) (hs : s.size ≤ 140737488351232) (p c : Nat) (hR : Sp.marks (L s) = .error (p, c)) :
    Calls Tryz.prog 16 #[.string s] w fun e w' => e = .returned (.tuple #[.slice none 0 0, .int .i64 p, .int .i64 c]) ∧ Below w.heap.size w w' :=
  (marks_is s w hG hs _ hR).mono fun e w' ⟨hb, he⟩ => ⟨he, hb⟩

set_option maxHeartbeats 4000000 in
set_option maxRecDepth 100000 in
theorem awake_calls (w : World) (hG : Gl w) : Calls Tryz.prog 18 #[] w fun e w' => e = .returned (.bool true) ∧ Below w.heap.size w w' := by
  have HG := Lib.hid hG
  clear hG
  go_enter Tryz.func18, Tryz.ntmps18
  go_wp2_with fail
  refine (marks_is doc1 _ HG.out (by decide) _ doc1_marks).mono ?_
  rintro e w1 ⟨hb1, v, rfl, hm⟩
  obtain ⟨g, cap, rfl, hg1, hg2, hc⟩ := hm.cell (by decide)
  obtain ⟨av, hat, c0, c1, c2, c3, c4, c5⟩ := hc 0 _ rfl
  obtain ⟨g', cap', rfl, hg3, hg4, hc'⟩ := hat.cell (by decide)
  obtain ⟨d0, d1, d2⟩ := hc' 0 _ rfl
  clear hc hc' hat hm
  have HB1 := Lib.hid hb1
  clear hb1
  go_wp2_with fail
  refine (marks_err doc2 _ (HG.out.below HB1.out) (by decide) 8 82 doc2_marks).mono ?_
  rintro e w2 ⟨rfl, hb2⟩
  go_wp2_with fail
  refine (marks_err doc3 _ (HG.out.below (below_then HB1.out hb2)) (by decide) 1 84 doc3_marks).mono ?_
  rintro e w3 ⟨rfl, hb3⟩
  have k : ∀ b i u, b < w1.heap.size → w1.cell? ⟨b, i, none⟩ = some u → w3.cell? ⟨b, i, none⟩ = some u := fun b i u hb h =>
    (World.cell?_of_block ((below_then hb2 hb3).block b hb)).trans h
  have e0 := k _ _ _ hg2 c0
  have e1 := k _ _ _ hg2 c1
  have e2 := k _ _ _ hg2 c2
  have e3 := k _ _ _ hg2 c3
  have x0 := k _ _ _ hg4 d0
  have x1 := k _ _ _ hg4 d1
  have x2 := k _ _ _ hg4 d2
  have HB3 := Lib.hid (below_then HB1.out (below_then hb2 hb3))
  clear k c0 c1 c2 c3 c4 c5 d0 d1 d2 hb2 hb3 HB1
  simp only [Nat.zero_mul, Nat.zero_add] at e0 e1 e2 e3 x0 x1 x2
  go_wp2_with fail
  go_ret
  exact ⟨rfl, HB3.out⟩
end Go.Proofs.YtokdclmikllepaaGreatDoor
