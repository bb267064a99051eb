import Derived.Test.YtokdclmikllepaaGreatDoorMr49
namespace Go.Proofs.YtokdclmikllepaaGreatDoor
open Go.RowKit
set_option linter.unusedVariables false
set_option linter.unusedSimpArgs false

theorem refAt_is (s t : ByteArray) (p : Nat) (b : Bool) (w : World) (hs : s.size ≤ 65536) (hp : p ≤ s.size) (ht : t.size ≤ 1000) (h : (L t).isPrefixOf ((L s).drop p) = b) :
    Calls Tryz.prog 52 #[.string s, .int .i64 p, .string t] w fun e w' => e = .returned (.bool b) ∧ w = w' := h ▸ refAt_calls s t p w (by omega) hp (by omega)
theorem refAt_1 (s : ByteArray) (p : Nat) (b : Bool) (w : World) (hs : s.size ≤ 65536) (hp : p ≤ s.size) (h : (L (⟨#[60, 33, 45, 45]⟩ : ByteArray)).isPrefixOf ((L s).drop p) = b) :
    Calls Tryz.prog 52 #[.string s, .int .i64 p, .string ⟨#[60, 33, 45, 45]⟩] w fun e w' => e = .returned (.bool b) ∧ w = w' := refAt_is s ⟨#[60, 33, 45, 45]⟩ p b w hs hp (by decide) h
theorem refAt_2 (s : ByteArray) (p : Nat) (b : Bool) (w : World) (hs : s.size ≤ 65536) (hp : p ≤ s.size) (h : (L (⟨#[60, 33, 91, 67, 68, 65, 84, 65, 91]⟩ : ByteArray)).isPrefixOf ((L s).drop p) = b) :
    Calls Tryz.prog 52 #[.string s, .int .i64 p, .string ⟨#[60, 33, 91, 67, 68, 65, 84, 65, 91]⟩] w fun e w' => e = .returned (.bool b) ∧ w = w' := refAt_is s ⟨#[60, 33, 91, 67, 68, 65, 84, 65, 91]⟩ p b w hs hp (by decide) h
theorem refAt_3 (s : ByteArray) (p : Nat) (b : Bool) (w : World) (hs : s.size ≤ 65536) (hp : p ≤ s.size) (h : (L (⟨#[60, 47]⟩ : ByteArray)).isPrefixOf ((L s).drop p) = b) :
    Calls Tryz.prog 52 #[.string s, .int .i64 p, .string ⟨#[60, 47]⟩] w fun e w' => e = .returned (.bool b) ∧ w = w' := refAt_is s ⟨#[60, 47]⟩ p b w hs hp (by decide) h
theorem refAt_4 (s : ByteArray) (p : Nat) (b : Bool) (w : World) (hs : s.size ≤ 65536) (hp : p ≤ s.size) (h : (L (⟨#[60]⟩ : ByteArray)).isPrefixOf ((L s).drop p) = b) :
    Calls Tryz.prog 52 #[.string s, .int .i64 p, .string ⟨#[60]⟩] w fun e w' => e = .returned (.bool b) ∧ w = w' := refAt_is s ⟨#[60]⟩ p b w hs hp (by decide) h
theorem refAt_xml (s : ByteArray) (b : Bool) (w : World) (hs : s.size ≤ 65536) (h : Sp.xml5.isPrefixOf (L s) = b) :
    Calls Tryz.prog 52 #[.string s, .int .i64 0, .string ⟨#[60, 63, 120, 109, 108]⟩] w fun e w' => e = .returned (.bool b) ∧ w = w' := refAt_is s ⟨#[60, 63, 120, 109, 108]⟩ 0 b w hs (by omega) (by decide) h
theorem refFind_5 (s : ByteArray) (q : Int) (w : World) (hs : s.size ≤ 65536) (h5 : 5 < s.size) (h : findAt s ⟨#[63, 62]⟩ 5 = q) :
    Calls Tryz.prog 54 #[.string s, .int .i64 5, .string ⟨#[63, 62]⟩] w fun e w' => e = .returned (.int .i64 q) ∧ w = w' := h ▸ refFind_calls s ⟨#[63, 62]⟩ 5 w (by omega) (by omega) (by decide) (by decide)
theorem refFind_4 (s : ByteArray) (p : Nat) (q : Int) (w : World) (hs : s.size ≤ 65536) (hp : p + 4 ≤ s.size) (h : findAt s ⟨#[45, 45, 62]⟩ (p + 4) = q) :
    Calls Tryz.prog 54 #[.string s, .int .i64 ((p : Int) + 4), .string ⟨#[45, 45, 62]⟩] w fun e w' => e = .returned (.int .i64 q) ∧ w = w' := h ▸ refFind_calls s ⟨#[45, 45, 62]⟩ (p + 4) w (by omega) (by omega) (by decide) (by decide)
theorem refFind_9 (s : ByteArray) (p : Nat) (q : Int) (w : World) (hs : s.size ≤ 65536) (hp : p + 9 ≤ s.size) (h : findAt s ⟨#[93, 93, 62]⟩ (p + 9) = q) :
    Calls Tryz.prog 54 #[.string s, .int .i64 ((p : Int) + 9), .string ⟨#[93, 93, 62]⟩] w fun e w' => e = .returned (.int .i64 q) ∧ w = w' := h ▸ refFind_calls s ⟨#[93, 93, 62]⟩ (p + 9) w (by omega) (by omega) (by decide) (by decide)
theorem refCheck_is (s : ByteArray) (x c : Int) (w : World) (h : YtokdclmikllepaaGreatDoorP.pavaneref08_Check.f (s.size + 1) s = some (x, c)) :
    Calls Tryz.prog 51 #[.string s] w fun e w' => e = .returned (.agg #[.int .i64 x, .int .i64 c]) ∧ Below w.heap.size w w' := YtokdclmikllepaaGreatDoorP.pavaneref08_Check.calls (s.size + 1) s x c w h

/-- How closing and opening of the document's answer end. -/
def RMkEnd (p : Nat) (R : Except Sp.Flt (Sp.Mk × Nat)) (w : World) (e : Ending) (w' : World) : Prop :=
  Below w.heap.size w w' ∧ match R with
  | .ok (m, n) => ∃ a b c, AtsAt w.heap.size w' (.slice a b c) m.attrs ∧ e = .returned (.tuple #[.agg #[.int .i64 m.kind, .string ⟨m.name.toArray⟩, .slice a b c, .bool m.empty, .string ⟨m.text.toArray⟩, .int .i64 m.at_], .int .i64 ((p + n : Nat) : Int), .agg #[.int .i64 0, .int .i64 0]])
  | .error f => ∃ r1 r2 a b c r4 r5 r6 r7, f.2 ≠ 0 ∧ e = .returned (.tuple #[.agg #[.int .i64 r1, .string r2, .slice a b c, .bool r4, .string r5, .int .i64 r6], .int .i64 r7, .agg #[.int .i64 f.1, .int .i64 f.2]])
theorem refClosing_is (s : ByteArray) (p : Nat) (w : World) (hs : s.size ≤ 65536) (hp : p + 2 ≤ s.size) (R : Except Sp.Flt (Sp.Mk × Nat)) (hR : Sp.closing p ((L s).drop p) = R) :
    Calls Tryz.prog 56 #[.string s, .int .i64 p] w (RMkEnd p R w) := by
  have h := closing_f hs 0 p hp
  rw [hR] at h
  cases R with
  | error f =>
    obtain ⟨hf, r1, r2, r3, r4, r5, r6, r7, h⟩ := h
    refine (YtokdclmikllepaaGreatDoorP.pavaneref08_closing.calls _ s _ _ _ _ _ _ _ _ _ _ w h).mono ?_
    rintro e w' ⟨v, rfl, hS, hb⟩
    obtain ⟨A, c, rfl⟩ := YtokdclmikllepaaGreatDoorW.PrintWords.Kd.R_slice hS
    exact ⟨hb, _, _, _, _, _, _, _, _, _, hf, rfl⟩
  | ok r =>
    obtain ⟨m, n⟩ := r
    refine (YtokdclmikllepaaGreatDoorP.pavaneref08_closing.calls _ s _ _ _ _ _ _ _ _ _ _ w h).mono ?_
    rintro e w' ⟨v, rfl, hS, hb⟩
    obtain ⟨A, c, rfl⟩ := YtokdclmikllepaaGreatDoorW.PrintWords.Kd.R_slice hS
    exact ⟨hb, _, _, _, kd_ats hS, rfl⟩
theorem refOpening_is (s : ByteArray) (p : Nat) (w : World) (hs : s.size ≤ 65536) (hp : p + 1 ≤ s.size) (R : Except Sp.Flt (Sp.Mk × Nat)) (hR : Sp.opening p ((L s).drop p) = R) :
    Calls Tryz.prog 57 #[.string s, .int .i64 p] w (RMkEnd p R w) := by
  have h := opening_f hs (s.size + 1) p hp (by omega)
  rw [hR] at h
  cases R with
  | error f =>
    obtain ⟨hf, r1, r2, r3, r4, r5, r6, r7, h⟩ := h
    refine (YtokdclmikllepaaGreatDoorP.pavaneref08_opening.calls _ s _ _ _ _ _ _ _ _ _ _ w h).mono ?_
    rintro e w' ⟨v, rfl, hS, hb⟩
    obtain ⟨A, c, rfl⟩ := YtokdclmikllepaaGreatDoorW.PrintWords.Kd.R_slice hS
    exact ⟨hb, _, _, _, _, _, _, _, _, _, hf, rfl⟩
  | ok r =>
    obtain ⟨m, n⟩ := r
    refine (YtokdclmikllepaaGreatDoorP.pavaneref08_opening.calls _ s _ _ _ _ _ _ _ _ _ _ w h).mono ?_
    rintro e w' ⟨v, rfl, hS, hb⟩
    obtain ⟨A, c, rfl⟩ := YtokdclmikllepaaGreatDoorW.PrintWords.Kd.R_slice hS
    exact ⟨hb, _, _, _, kd_ats hS, rfl⟩
theorem RMkEnd.err {p a c : Nat} {w w' : World} {e : Ending} (h : RMkEnd p (.error (a, c)) w e w') : Below w.heap.size w w' ∧ ∃ r1 r2 ax ay az r4 r5 r6 r7, e = .returned (.tuple #[.agg #[.int .i64 r1, .string r2, .slice ax ay az, .bool r4, .string r5, .int .i64 r6], .int .i64 r7, .agg #[.int .i64 a, .int .i64 c]]) := by
  obtain ⟨hb, r1, r2, a, b, d, r4, r5, r6, r7, _, h⟩ := h
  exact ⟨hb, _, _, _, _, _, _, _, _, _, h⟩

/-- What holds at the head of each round: the result's cells, and the marks. -/
structure RInv (w wr : World) (v : Value) (acc : List Sp.Mk) : Prop where
  below : Below w.heap.size w wr
  blk : wr.heap[w.heap.size]? = some (.cells #[.int .i64 0, .int .i64 0] 27 (0, 0))
  own : MksAt (w.heap.size + 1) wr v acc
theorem RInv.lt {w wr : World} {v : Value} {acc : List Sp.Mk} (h : RInv w wr v acc) : w.heap.size < wr.heap.size := (Array.getElem?_eq_some_iff.1 h.blk).1
theorem RInv.next {w wr w2 : World} {v : Value} {acc : List Sp.Mk} (h : RInv w wr v acc) (hb : Below wr.heap.size wr w2) : RInv w w2 v acc :=
  ⟨below_then h.below hb, (hb.block _ h.lt).trans h.blk, h.own.below hb⟩
theorem RInv.c0 {w wr : World} {v : Value} {acc : List Sp.Mk} (h : RInv w wr v acc) : wr.cell? ⟨w.heap.size, 0, none⟩ = some (.int .i64 0) := cell_of_row wr w.heap.size 0 _ _ _ h.blk
theorem RInv.c1 {w wr : World} {v : Value} {acc : List Sp.Mk} (h : RInv w wr v acc) : wr.cell? ⟨w.heap.size, 1, none⟩ = some (.int .i64 0) := cell_of_row wr w.heap.size 1 _ _ _ h.blk
theorem RInv.fz {w wr : World} {v : Value} {acc : List Sp.Mk} (h : RInv w wr v acc) (i : Nat) : wr.frozen? ⟨w.heap.size, i, none⟩ = false := by
  have := h.blk
  simp [World.frozen?, this]
theorem RInv.grow {w wr w2 : World} {v v2 : Value} {acc acc2 : List Sp.Mk} (h : RInv w wr v acc) (hb : Below (w.heap.size + 1) wr w2) (hm : MksAt (w.heap.size + 1) w2 v2 acc2) : RInv w w2 v2 acc2 :=
  ⟨h.below.trans (hb.mono (Nat.le_succ _)), (hb.block _ (Nat.lt_succ_self _)).trans h.blk, hm⟩
theorem closing_kind (p : Nat) (l : List UInt8) (m : Sp.Mk) (n : Nat) (h : Sp.closing p l = .ok (m, n)) : m.kind = 2 := by
  unfold Sp.closing at h
  simp only at h
  split at h
  · cases h
  · split at h
    · injection h with h; injection h with h1 h2; subst h1; rfl
    · cases h
theorem opening_kind (p : Nat) (l : List UInt8) (m : Sp.Mk) (n : Nat) (h : Sp.opening p l = .ok (m, n)) : m.kind = 1 := by
  unfold Sp.opening at h
  simp only at h
  split at h
  · cases h
  · split at h
    · cases h
    · injection h with h; injection h with h1 h2; subst h1; rfl
theorem RInv.drew {w wr : World} {v : Value} {acc : List Sp.Mk} (h : RInv w wr v acc) : RInv w wr.drew v acc := ⟨h.below.drew, h.blk, h.own⟩

/-- The round's own blocks: the mark (wr.heap.size) and the fault (wr.heap.size + 1). -/
structure RB (wr W : World) (c0 c1 c2 c3 c4 c5 d0 d1 : Value) : Prop where
  below : Below wr.heap.size wr W
  mb : W.heap[wr.heap.size]? = some (.cells #[c0, c1, c2, c3, c4, c5] 40 (0, 0))
  fb : W.heap[wr.heap.size + 1]? = some (.cells #[d0, d1] 27 (0, 0))
section
variable {wr W W2 : World} {c0 c1 c2 c3 c4 c5 d0 d1 : Value}
theorem RB.start (h : ((wr.alloc (.cells #[.int .i64 0, .string ⟨#[]⟩, .slice none 0 0, .bool false, .string ⟨#[]⟩, .int .i64 0] 40)).alloc (.cells #[.int .i64 0, .int .i64 0] 27)) = W) :
    RB wr W (.int .i64 0) (.string ⟨#[]⟩) (.slice none 0 0) (.bool false) (.string ⟨#[]⟩) (.int .i64 0) (.int .i64 0) (.int .i64 0) := by
  subst h
  refine ⟨((Below.refl _ _).alloc (Nat.le_refl _) _).alloc (by rw [sz_alloc]; omega) _, (heap_alloc_old _ _ (by rw [sz_alloc]; omega)).trans (heap_alloc_new wr _), ?_⟩
  have := heap_alloc_new (wr.alloc (.cells #[.int .i64 0, .string ⟨#[]⟩, .slice none 0 0, .bool false, .string ⟨#[]⟩, .int .i64 0] 40)) (.cells #[.int .i64 0, .int .i64 0] 27)
  rwa [sz_alloc] at this
theorem RB.lt (h : RB wr W c0 c1 c2 c3 c4 c5 d0 d1) : wr.heap.size + 1 < W.heap.size := (Array.getElem?_eq_some_iff.1 h.fb).1
theorem RB.next (h : RB wr W c0 c1 c2 c3 c4 c5 d0 d1) (hb : Below W.heap.size W W2) : RB wr W2 c0 c1 c2 c3 c4 c5 d0 d1 :=
  ⟨below_then h.below hb, (hb.block _ (by have := h.lt; omega)).trans h.mb, (hb.block _ h.lt).trans h.fb⟩
theorem RB.mfz (h : RB wr W c0 c1 c2 c3 c4 c5 d0 d1) (i : Nat) : W.frozen? ⟨wr.heap.size, i, none⟩ = false := by
  have := h.mb; simp [World.frozen?, this]
theorem RB.ffz (h : RB wr W c0 c1 c2 c3 c4 c5 d0 d1) (i : Nat) : W.frozen? ⟨wr.heap.size + 1, i, none⟩ = false := by
  have := h.fb; simp [World.frozen?, this]
theorem RB.m (h : RB wr W c0 c1 c2 c3 c4 c5 d0 d1) : W.cell? ⟨wr.heap.size, 0, none⟩ = some c0 ∧ W.cell? ⟨wr.heap.size, 1, none⟩ = some c1 ∧ W.cell? ⟨wr.heap.size, 2, none⟩ = some c2 ∧ W.cell? ⟨wr.heap.size, 3, none⟩ = some c3 ∧ W.cell? ⟨wr.heap.size, 4, none⟩ = some c4 ∧ W.cell? ⟨wr.heap.size, 5, none⟩ = some c5 :=
  ⟨cell_of_row W _ 0 _ _ _ h.mb, cell_of_row W _ 1 _ _ _ h.mb, cell_of_row W _ 2 _ _ _ h.mb, cell_of_row W _ 3 _ _ _ h.mb, cell_of_row W _ 4 _ _ _ h.mb, cell_of_row W _ 5 _ _ _ h.mb⟩
theorem RB.f (h : RB wr W c0 c1 c2 c3 c4 c5 d0 d1) : W.cell? ⟨wr.heap.size + 1, 0, none⟩ = some d0 ∧ W.cell? ⟨wr.heap.size + 1, 1, none⟩ = some d1 := ⟨cell_of_row W _ 0 _ _ _ h.fb, cell_of_row W _ 1 _ _ _ h.fb⟩
theorem RB.set6 (h : RB wr W c0 c1 c2 c3 c4 c5 d0 d1) (v0 v1 v2 v3 v4 v5 : Value) (hW : ((((((W.setCell ⟨wr.heap.size, 0, none⟩ v0).setCell ⟨wr.heap.size, 1, none⟩ v1).setCell ⟨wr.heap.size, 2, none⟩ v2).setCell ⟨wr.heap.size, 3, none⟩ v3).setCell ⟨wr.heap.size, 4, none⟩ v4).setCell ⟨wr.heap.size, 5, none⟩ v5) = W2) : RB wr W2 v0 v1 v2 v3 v4 v5 d0 d1 := by
  subst hW
  refine ⟨(((((h.below.trans (below_set 0 v0)).trans (below_set 1 v1)).trans (below_set 2 v2)).trans (below_set 3 v3)).trans (below_set 4 v4)).trans (below_set 5 v5),
    heap_set _ _ 5 _ _ _ _ (heap_set _ _ 4 _ _ _ _ (heap_set _ _ 3 _ _ _ _ (heap_set _ _ 2 _ _ _ _ (heap_set _ _ 1 _ _ _ _ (heap_set _ _ 0 _ _ _ _ h.mb))))), ?_⟩
  have e : ∀ (X : World) (i : Nat) (u : Value), (X.setCell ⟨wr.heap.size, i, none⟩ u).heap[wr.heap.size + 1]? = X.heap[wr.heap.size + 1]? := fun X i u => Below.heap_setCell X _ u _ (by show wr.heap.size + 1 ≠ wr.heap.size; omega)
  rw [e, e, e, e, e, e]
  exact h.fb
theorem RB.set4 (h : RB wr W c0 c1 c2 c3 c4 c5 d0 d1) (v4 : Value) (hW : W.setCell ⟨wr.heap.size, 4, none⟩ v4 = W2) : RB wr W2 c0 c1 c2 c3 v4 c5 d0 d1 := by
  subst hW
  refine ⟨h.below.trans (below_set 4 v4), heap_set _ _ 4 _ _ _ _ h.mb, ?_⟩
  rw [Below.heap_setCell W ⟨wr.heap.size, 4, none⟩ v4 _ (by show wr.heap.size + 1 ≠ wr.heap.size; omega)]
  exact h.fb
theorem RB.set2 (h : RB wr W c0 c1 c2 c3 c4 c5 d0 d1) (v0 v1 : Value) (hW : (W.setCell ⟨wr.heap.size + 1, 0, none⟩ v0).setCell ⟨wr.heap.size + 1, 1, none⟩ v1 = W2) : RB wr W2 c0 c1 c2 c3 c4 c5 v0 v1 := by
  subst hW
  have e : ∀ (X : World) (i : Nat) (u : Value), (X.setCell ⟨wr.heap.size + 1, i, none⟩ u).heap[wr.heap.size]? = X.heap[wr.heap.size]? := fun X i u => Below.heap_setCell X _ u _ (by show wr.heap.size ≠ wr.heap.size + 1; omega)
  refine ⟨(h.below.trans ((below_set (B := wr.heap.size + 1) 0 v0).mono (Nat.le_succ _))).trans ((below_set (B := wr.heap.size + 1) 1 v1).mono (Nat.le_succ _)), by rw [e, e]; exact h.mb, heap_set _ _ 1 _ _ _ _ (heap_set _ _ 0 _ _ _ _ h.fb)⟩
end
theorem AtsAt.far {B : Nat} {w : World} {v : Value} {l : List Sp.At} (h : AtsAt B w v l) {x : Addr} (hx : x.block < B) (u : Value) : AtsAt B (w.setCell x u) v l := by
  refine ⟨h.1, ?_⟩
  rcases h.2 with hn | ⟨g, cap, cur, rfl, hbg, hg, rest⟩
  · exact .inl hn
  · exact .inr ⟨g, cap, cur, rfl, hbg, (Below.heap_setCell _ _ _ _ (by omega)).trans hg, rest⟩
theorem ats_set6 {B b : Nat} {W W2 : World} {v : Value} {l : List Sp.At} (h : AtsAt B W v l) (hb : b < B) (v0 v1 v2 v3 v4 v5 : Value) (hW : ((((((W.setCell ⟨b, 0, none⟩ v0).setCell ⟨b, 1, none⟩ v1).setCell ⟨b, 2, none⟩ v2).setCell ⟨b, 3, none⟩ v3).setCell ⟨b, 4, none⟩ v4).setCell ⟨b, 5, none⟩ v5) = W2) : AtsAt B W2 v l := by
  subst hW
  exact (((((h.far (x := ⟨b, 0, none⟩) hb _).far (x := ⟨b, 1, none⟩) hb _).far (x := ⟨b, 2, none⟩) hb _).far (x := ⟨b, 3, none⟩) hb _).far (x := ⟨b, 4, none⟩) hb _).far (x := ⟨b, 5, none⟩) hb _
theorem ats_set2 {B b : Nat} {W W2 : World} {v : Value} {l : List Sp.At} (h : AtsAt B W v l) (hb : b < B) (v0 v1 : Value) (hW : (W.setCell ⟨b, 0, none⟩ v0).setCell ⟨b, 1, none⟩ v1 = W2) : AtsAt B W2 v l := by
  subst hW
  exact (h.far (x := ⟨b, 0, none⟩) hb _).far (x := ⟨b, 1, none⟩) hb _
theorem refText_60 (s : ByteArray) (p : Nat) (w : World) (hs : s.size ≤ 65536) (hp : p ≤ s.size) (R : Except Sp.Flt (List UInt8 × Nat)) (hR : Sp.text 60 false p (((L s).drop p).length + 1) p ((L s).drop p) [] 0 = R) :
    Calls Tryz.prog 58 #[.string s, .int .i64 p, .int .u8 60, .bool false] w (RTextEnd p R w) := by
  rw [List.length_drop, L_length] at hR
  exact hR ▸ refText_calls s p p 60 false w hs hp (by decide)
theorem flat_lines (s : ByteArray) (p i : Nat) : Sp.flat false (L (s.extract (p + 9) (p + 9 + i))) = Sp.lines (((L s).drop (p + 9)).take i) := by
  rw [L_extract, show p + 9 + i - (p + 9) = i by omega]; rfl
theorem findAt_some {s t : ByteArray} {p i : Nat} (h : Sp.find (L t) ((L s).drop p) = some i) : findAt s t p = ((p + i : Nat) : Int) := by unfold findAt; rw [h]
theorem findAt_none {s t : ByteArray} {p : Nat} (h : Sp.find (L t) ((L s).drop p) = none) : findAt s t p = -1 := by unfold findAt; rw [h]
theorem pre_is (x l : List UInt8) (h : ¬ x.isPrefixOf l = true) : x.isPrefixOf l = false := by
  cases hx : x.isPrefixOf l with
  | false => rfl
  | true => exact absurd hx h
/-- What a step of pieces says. -/
def stepR (k p : Nat) (s : ByteArray) (acc : List Sp.Mk) : Except Sp.Flt (List Sp.Mk × Nat) → Except Sp.Flt (List Sp.Mk)
  | .error f => .error f
  | .ok (ms, n) => Sp.pieces k (p + n) ((L s).drop (p + n)) (acc ++ ms)
theorem pieces_step (k p : Nat) (s : ByteArray) (acc : List Sp.Mk) (hp : p < s.size) : Sp.pieces (k + 1) p ((L s).drop p) acc = stepR k p s acc (Sp.piece p ((L s).drop p)) := by
  rw [L_drop s p hp, Sp.pieces, ← L_drop s p hp]
  cases Sp.piece p ((L s).drop p) with
  | error f => rfl
  | ok r => simp only [stepR, List.drop_drop]
theorem piece_facts {s : ByteArray} {p n : Nat} {ms : List Sp.Mk} (hp : p < s.size) (h : Sp.piece p ((L s).drop p) = .ok (ms, n)) : 1 ≤ n ∧ p + n ≤ s.size ∧ ms.length ≤ n := by
  have hlen : ((L s).drop p).length = s.size - p := by rw [List.length_drop, L_length]
  rw [L_drop s p hp] at h hlen
  have h1 := sp_piece_pos _ _ _ _ _ h
  have h2 := ((piece_fd p s[p] ((L s).drop (p + 1))).2 _ _ h).1
  have h3 := (piece_bd p _ _ _ _ (p + (s[p] :: (L s).drop (p + 1)).length) h (Nat.le_refl _)).2
  rw [hlen] at h2
  exact ⟨h1, by omega, h3⟩

/-- The result's cells, written. -/
theorem RInv.fin {w wr : World} {v : Value} {acc : List Sp.Mk} (h : RInv w wr v acc) (x y : Value) {W' : World} (hW : ((wr.setCell ⟨w.heap.size, 0, none⟩ x).setCell ⟨w.heap.size, 1, none⟩ y) = W') :
    Below w.heap.size w W' ∧ W'.cell? ⟨w.heap.size, 0, none⟩ = some x ∧ W'.cell? ⟨w.heap.size, 1, none⟩ = some y ∧ MksAt (w.heap.size + 1) W' v acc := by
  subst hW
  have hb := heap_set _ _ 1 _ _ _ y (heap_set _ _ 0 _ _ _ x h.blk)
  have h1 := (Only.refl w.heap.size wr).set 0 x
  have h2 := (Only.refl w.heap.size (wr.setCell ⟨w.heap.size, 0, none⟩ x)).set 1 y
  refine ⟨(h.below.trans (below_set 0 x)).trans (below_set 1 y), cell_of_row _ _ 0 _ _ _ hb, cell_of_row _ _ 1 _ _ _ hb, ?_⟩
  obtain ⟨ps, k1, k2, k3, k4⟩ := h.own
  have hb0 := heap_set _ _ 0 _ _ _ x h.blk
  exact ⟨ps, k1, fun z hz => ((k2 z hz).kept h1 (.inr (own_ne (k2 z hz) h.blk (by decide)))).kept h2 (.inr (own_ne ((k2 z hz).kept h1 (.inr (own_ne (k2 z hz) h.blk (by decide)))) hb0 (by decide))),
    (k3.kept h1 (.inr (own_ne k3 h.blk (by decide)))).kept h2 (.inr (own_ne (k3.kept h1 (.inr (own_ne k3 h.blk (by decide)))) hb0 (by decide))), k4⟩

/-- How the document's answer ends. -/
def RefEndM (R : Except Sp.Flt (List Sp.Mk)) (w : World) (e : Ending) (w' : World) : Prop :=
  Below w.heap.size w w' ∧ ∃ v, match R with
  | .error f => e = .returned (.tuple #[v, .agg #[.int .i64 f.1, .int .i64 f.2]]) ∧ MksR (w.heap.size + 1) w' v []
  | .ok ms => e = .returned (.tuple #[v, .agg #[.int .i64 0, .int .i64 0]]) ∧ MksR (w.heap.size + 1) w' v ms

set_option maxHeartbeats 32000000 in
set_option maxRecDepth 100000 in
theorem refMarks_go (s : ByteArray) (w : World) (hs : s.size ≤ 65536) (R : Except Sp.Flt (List Sp.Mk)) (n0 : Nat) (hn0 : n0 ≤ s.size) (hR : Sp.pieces (s.size + 1) n0 ((L s).drop n0) [] = R) (hchk : YtokdclmikllepaaGreatDoorP.pavaneref08_Check.f (s.size + 1) s = some (0, 0))
    (hpro : (decide ((5 : Int) < s.size) = false ∧ n0 = 0) ∨ (decide ((5 : Int) < s.size) = true ∧ Sp.xml5.isPrefixOf (L s) = false ∧ n0 = 0) ∨
      (decide ((5 : Int) < s.size) = true ∧ Sp.xml5.isPrefixOf (L s) = true ∧ (∃ h : 5 < s.size, Sp.white s[5] = false) ∧ n0 = 0) ∨
      (decide ((5 : Int) < s.size) = true ∧ Sp.xml5.isPrefixOf (L s) = true ∧ (∃ h : 5 < s.size, Sp.white s[5] = true) ∧ ∃ i : Nat, findAt s ⟨#[63, 62]⟩ 5 = ((5 + i : Nat) : Int) ∧ n0 = 5 + i + 2)) :
    Calls Tryz.prog 17 #[.string s] w (RefEndM R w) := by
  have HR := Lib.hid hR
  have HC := Lib.hid hchk
  clear hR hchk
  have HS0 : Hid (∀ w', Below w.heap.size w w' → w'.heap[w.heap.size]? = some (.cells #[.int .i64 0, .int .i64 0] 27 (0, 0)) → RInv w w' (.slice none 0 0) []) := fun w' h1 h2 => ⟨h1, h2, MksAt.nil _ _⟩
  go_enter Tryz.func17, Tryz.ntmps17
  go_wp2_with fail
  refine (refCheck_is s 0 0 _ HC.out).mono ?_
  rintro e w1 ⟨rfl, hb1⟩
  have HI0 : Hid (RInv w w1 (.slice none 0 0) []) := HS0.out w1 (((Below.refl _ _).alloc (Nat.le_refl _) _).trans (hb1.mono (by rw [sz_alloc]; omega))) ((hb1.block _ (by rw [sz_alloc]; omega)).trans (heap_alloc_new w _))
  clear hb1
  have HI1 : Hid (RInv w (w1.alloc (.cells #[.int .i64 0, .int .i64 0] 27)) (.slice none 0 0) []) := HI0.out.next ((Below.refl _ _).alloc (Nat.le_refl _) _)
  have HPRO := Lib.hid hpro
  clear hpro
  go_upto_region 5 with fail
  go_step
  go_step
  go_step
  apply_assumption
  go_step
  apply_assumption
  go_step
  go_cut [6] (fun s6 wx => s6 = .int .i64 n0 ∧ Hid (RInv w wx (.slice none 0 0) []))
  case first =>
    rcases HPRO.out with ⟨g1, g6⟩ | ⟨g1, g2, g6⟩ | ⟨g1, g2, ⟨g0, g3⟩, g6⟩ | ⟨g1, g2, ⟨g0, g3⟩, i0, g4, g6⟩
    · have hib := hn0
      rw [g6] at hib
      have G6 := Lib.hid g6
      clear g6
      go_wp2_with fail
      go_meet
      exact ⟨by rw [G6.out]; simp, HI1⟩
    · have hib := hn0
      rw [g6] at hib
      have G6 := Lib.hid g6
      clear g6
      have G2 := Lib.hid g2
      clear g2
      go_wp2_with (go_at_call 52; refine (refAt_xml s false _ hs G2.out).mono ?_; rintro e w2 ⟨rfl, rfl⟩)
      go_meet
      exact ⟨by rw [G6.out]; simp, HI1⟩
    · have hib := hn0
      rw [g6] at hib
      have G6 := Lib.hid g6
      clear g6
      have G2 := Lib.hid g2
      have G3 := Lib.hid g3
      clear g2 g3
      have g5 : (5 : Int) < s.size := of_decide_eq_true g1
      go_wp2_with (first | (go_at_call 52; refine (refAt_xml s true _ hs G2.out).mono ?_; rintro e w2 ⟨rfl, rfl⟩) | (go_at_call 53; refine (refWhite_is s[5] false _ G3.out).mono ?_; rintro e w2 ⟨rfl, rfl⟩))
      go_meet
      exact ⟨by rw [G6.out]; simp, HI1⟩
    · have hib := hn0
      rw [g6] at hib
      have G6 := Lib.hid g6
      clear g6
      have G2 := Lib.hid g2
      have G3 := Lib.hid g3
      have G4 := Lib.hid g4
      clear g2 g3 g4
      have g5 : (5 : Int) < s.size := of_decide_eq_true g1
      go_wp2_with (first | (go_at_call 52; refine (refAt_xml s true _ hs G2.out).mono ?_; rintro e w2 ⟨rfl, rfl⟩) | (go_at_call 53; refine (refWhite_is s[5] true _ G3.out).mono ?_; rintro e w2 ⟨rfl, rfl⟩) | (go_at_call 54; refine (refFind_5 s _ _ hs g0 G4.out).mono ?_; rintro e w2 ⟨rfl, rfl⟩))
      go_meet
      exact ⟨by rw [G6.out]; simp, HI1⟩
  case rest =>
  obtain ⟨rfl, HI2⟩ := hcut
  clear HI0 HI1 HPRO
  go_wp2_with fail
  go_loopg [5, 6, 8, 9, 10, 11, 12] (s.size + 1) (fun kk v i _ _ _ _ _ wr => ∃ (p' : Nat) (acc : List Sp.Mk) (vo : Value), vo = v ∧ i = .int .i64 p' ∧ p' ≤ s.size ∧ s.size - p' < kk ∧ acc.length ≤ p' ∧ Hid (Sp.pieces kk p' ((L s).drop p') acc = R) ∧ Hid (RInv w wr v acc))
  case atStart => exact ⟨n0, [], _, rfl, rfl, hn0, by omega, by simp, HR, HI2⟩
  case round =>
    obtain ⟨p, acc, v, rfl, rfl, hp, hk, hacc, HT, HI⟩ := hrel
    obtain ⟨k, rfl⟩ : ∃ m, gk = m + 1 := ⟨gk - 1, by omega⟩
    have hal : acc.length < 65537 := by omega
    have fc0 := HI.out.c0
    have fc1 := HI.out.c1
    have ff0 := HI.out.fz 0
    have ff1 := HI.out.fz 1
    have hsz := HI.out.lt
    by_cases hlt : p < s.size
    · have hd : decide ((p : Int) < s.size) = true := by simp; omega
      have HST : Hid (stepR k p s acc (Sp.piece p ((L s).drop p)) = R) := (pieces_step k p s acc hlt).symm.trans HT.out
      by_cases c1 : ([60, 33, 45, 45] : List UInt8).isPrefixOf ((L s).drop p) = true
      · have hl4 := pre_len c1
        rw [List.length_drop, L_length] at hl4
        simp only [List.length_cons, List.length_nil] at hl4
        have hp4 : p + 4 ≤ s.size := by omega
        have hP : Sp.piece p ((L s).drop p) = match Sp.find [45, 45, 62] ((L s).drop (p + 4)) with | none => .error (p, 84) | some i => .ok ([], 4 + i + 3) := by
          unfold Sp.piece; rw [if_pos c1, List.drop_drop]; cases Sp.find [45, 45, 62] ((L s).drop (p + 4)) <;> rfl
        have C1 : Hid ((L (⟨#[60, 33, 45, 45]⟩ : ByteArray)).isPrefixOf ((L s).drop p) = true) := Lib.hid c1
        clear c1 hl4
        cases hf : Sp.find [45, 45, 62] ((L s).drop (p + 4)) with
        | none =>
          have HF := Lib.hid (findAt_none (t := ⟨#[45, 45, 62]⟩) hf)
          rw [hf] at hP
          have hRR : R = .error (p, 84) := by
            have := HST.out
            rw [hP] at this
            exact this.symm
          clear hf hP
          subst hRR
          go_wp2_with (first | (go_at_call 52; (with_reducible refine (refAt_1 s p true _ hs hp C1.out).mono ?_); rintro e w2 ⟨rfl, rfl⟩) | (go_at_call 54; refine (refFind_4 s p _ _ hs hp4 HF.out).mono ?_; rintro e w2 ⟨rfl, rfl⟩))
          generalize hW : World.setCell (World.setCell _ _ _) _ _ = W'
          obtain ⟨f1, f2, f3, f4⟩ := HI.out.fin _ _ hW
          clear hW
          refine bodyPost_ret (v := .tuple #[.slice none 0 0, .agg #[(.int .i64 p), (.int .i64 84)]]) ?_ rfl ?_
          · simp [results, Tryz.f17, go_sem, f2, f3]
          · exact ⟨f1, _, rfl, (MksAt.nil _ _).toR⟩
        | some i =>
          have HF := Lib.hid (findAt_some (t := ⟨#[45, 45, 62]⟩) hf)
          rw [hf] at hP
          obtain ⟨hn1, hn2, -⟩ := piece_facts hlt hP
          have HS2 : Hid (Sp.pieces k (p + (4 + i + 3)) ((L s).drop (p + (4 + i + 3))) acc = R) := by
            have := HST.out
            rw [hP] at this
            simp only [stepR, List.append_nil] at this
            exact this
          clear hf hP
          go_wp2_with (first | (go_at_call 52; (with_reducible refine (refAt_1 s p true _ hs hp C1.out).mono ?_); rintro e w2 ⟨rfl, rfl⟩) | (go_at_call 54; refine (refFind_4 s p _ _ hs hp4 HF.out).mono ?_; rintro e w2 ⟨rfl, rfl⟩))
          go_roundg k
          case measure => omega
          case rel => exact ⟨p + (4 + i + 3), acc, _, rfl, by simp; omega, by omega, by omega, by omega, HS2, HI⟩
      · have C1 : Hid ((L (⟨#[60, 33, 45, 45]⟩ : ByteArray)).isPrefixOf ((L s).drop p) = false) := Lib.hid (pre_is _ _ c1)
        have hc1 := Lib.hid c1
        clear c1
        go_upto_region 20 with ((go_at_call 52; (with_reducible refine (refAt_1 s p false _ hs hp C1.out).mono ?_); rintro e w2 ⟨rfl, rfl⟩))
        generalize hW0 : World.alloc (World.alloc wr _) _ = W0
        have HRB := Lib.hid (RB.start hW0)
        have HI0 := Lib.hid (HI.out.next HRB.out.below)
        clear hW0 fc0 fc1 ff0 ff1
        have fc0 := HI0.out.c0
        have fc1 := HI0.out.c1
        have ff0 := HI0.out.fz 0
        have ff1 := HI0.out.fz 1
        have hsz0 := HI0.out.lt
        have hsz1 := HRB.out.lt
        by_cases c2 : Sp.cdata9.isPrefixOf ((L s).drop p) = true
        · have hl9 := pre_len c2
          rw [List.length_drop, L_length] at hl9
          simp only [Sp.cdata9, List.length_cons, List.length_nil] at hl9
          have hp9 : p + 9 ≤ s.size := by omega
          have hP : Sp.piece p ((L s).drop p) = match Sp.find [93, 93, 62] ((L s).drop (p + 9)) with | none => .error (p, 84) | some i => .ok (Sp.tell (Sp.lines (((L s).drop (p + 9)).take i)) p, 9 + i + 3) := by
            unfold Sp.piece; rw [if_neg hc1.out, if_pos c2, List.drop_drop]; cases Sp.find [93, 93, 62] ((L s).drop (p + 9)) <;> rfl
          have C2 : Hid ((L (⟨#[60, 33, 91, 67, 68, 65, 84, 65, 91]⟩ : ByteArray)).isPrefixOf ((L s).drop p) = true) := Lib.hid c2
          clear c2 hl9
          cases hf : Sp.find [93, 93, 62] ((L s).drop (p + 9)) with
          | none =>
            have HF := Lib.hid (findAt_none (t := ⟨#[93, 93, 62]⟩) hf)
            rw [hf] at hP
            have hRR : R = .error (p, 84) := by
              have := HST.out
              rw [hP] at this
              exact this.symm
            clear hf hP
            subst hRR
            go_wp2_with (first | (go_at_call 52; (with_reducible refine (refAt_2 s p true _ hs hp C2.out).mono ?_); rintro e w2 ⟨rfl, rfl⟩) | (go_at_call 54; refine (refFind_9 s p _ _ hs hp9 HF.out).mono ?_; rintro e w2 ⟨rfl, rfl⟩))
            generalize hW : World.setCell (World.setCell _ _ _) _ _ = W'
            obtain ⟨f1, f2, f3, f4⟩ := HI0.out.fin _ _ hW
            clear hW
            refine bodyPost_ret (v := .tuple #[.slice none 0 0, .agg #[(.int .i64 p), (.int .i64 84)]]) ?_ rfl ?_
            · simp [results, Tryz.f17, go_sem, f2, f3]
            · exact ⟨f1, _, rfl, (MksAt.nil _ _).toR⟩
          | some i =>
            have HF := Lib.hid (findAt_some (t := ⟨#[93, 93, 62]⟩) hf)
            rw [hf] at hP
            obtain ⟨hn1, hn2, -⟩ := piece_facts hlt hP
            obtain ⟨t, ht⟩ : ∃ t, Sp.lines (((L s).drop (p + 9)).take i) = t := ⟨_, rfl⟩
            have hP : Sp.piece p ((L s).drop p) = .ok (Sp.tell (Sp.lines (((L s).drop (p + 9)).take i)) p, 9 + i + 3) := hP
            rw [ht] at hP
            have hfl := (flat_lines s p i).trans ht
            have HFL := Lib.hid hfl
            have HS1 : Hid (Sp.pieces k (p + (9 + i + 3)) ((L s).drop (p + (9 + i + 3))) (acc ++ Sp.tell t p) = R) := by
              have := HST.out
              rw [hP] at this
              exact this
            have hy1 : (0 : Int) ≤ (p : Int) + 9 := by omega
            have hy2 : (p : Int) + 9 ≤ ((p + 9 + i : Nat) : Int) := by omega
            have hy3 : ((p + 9 + i : Nat) : Int) ≤ s.size := by omega
            have hxs : (s.extract (p + 9) (p + 9 + i)).size ≤ 65536 := by rw [ByteArray.size_extract]; omega
            clear hf hP ht hfl
            go_upto_region 32 with (first | (go_at_call 52; (with_reducible refine (refAt_2 s p true _ hs hp C2.out).mono ?_); rintro e w2 ⟨rfl, rfl⟩) | (go_at_call 54; refine (refFind_9 s p _ _ hs hp9 HF.out).mono ?_; rintro e w2 ⟨rfl, rfl⟩) | (go_at_call 55; refine (refFlat_is (s.extract (p + 9) (p + 9 + i)) false t _ hxs HFL.out).mono ?_; rintro e1 w2 ⟨v2, rfl, ho2, hb2⟩; have HRB2 := Lib.hid (HRB.out.next hb2); have HO2 := Lib.hid (HI0.out.next hb2); have hconv := ho2.conv; obtain ⟨m0, m1, m2, m3, m4, m5⟩ := HRB2.out.m; have z0 := HRB2.out.mfz 0; have z1 := HRB2.out.mfz 1; have z2 := HRB2.out.mfz 2; have z3 := HRB2.out.mfz 3; have z4 := HRB2.out.mfz 4; have z5 := HRB2.out.mfz 5))
            generalize hW3 : World.setCell (World.setCell (World.setCell (World.setCell (World.setCell (World.setCell w2 _ _) _ _) _ _) _ _) _ _) _ _ = W3
            have HRB3 := Lib.hid (HRB2.out.set6 _ _ _ _ _ _ hW3)
            clear hW3 hconv ho2 m0 m1 m2 m3 m4 m5 z0 z1 z2 z3 z4 z5 hy1 hy2 hy3 hxs
            have HI3 := Lib.hid (HI.out.next HRB3.out.below)
            clear fc0 fc1 ff0 ff1
            have fc0 := HI3.out.c0
            have fc1 := HI3.out.c1
            have ff0 := HI3.out.fz 0
            have ff1 := HI3.out.fz 1
            obtain ⟨m0, m1, m2, m3, m4, m5⟩ := HRB3.out.m
            obtain ⟨d0, d1⟩ := HRB3.out.f
            by_cases ht : t = []
            · have HS2 : Hid (Sp.pieces k (p + (9 + i + 3)) ((L s).drop (p + (9 + i + 3))) acc = R) := by
                have := HS1.out
                rw [ht] at this
                simp only [Sp.tell, if_pos, List.append_nil] at this
                exact this
              have hte : List.isEmpty t = true := by rw [ht]; rfl
              have hte2 : (!List.isEmpty t) = false := by rw [ht]; rfl
              clear ht
              go_wp2_with fail
              go_roundg k
              case measure => omega
              case rel => exact ⟨p + (9 + i + 3), acc, _, rfl, (by first | (simp; done) | (simp; omega)), by omega, by omega, by omega, HS2, HI3⟩
            · have HS2 : Hid (Sp.pieces k (p + (9 + i + 3)) ((L s).drop (p + (9 + i + 3))) (acc ++ [⟨3, [], [], false, t, p⟩]) = R) := by
                have := HS1.out
                unfold Sp.tell at this
                rw [if_neg ht] at this
                exact this
              have hte : List.isEmpty t = false := by cases t with | nil => exact absurd rfl ht | cons => rfl
              have hte2 : (!List.isEmpty t) = true := by rw [hte]; rfl
              clear ht
              go_wp2_with (at_builtin; refine wpList_appM rfl (.tmp 120) (.tmp 122) rfl ⟨3, [], [], false, t, p⟩ (by rfl) HI.out.own HRB3.out.below (AtsAt.nil _ _) (by omega) hal _ rfl (by rfl) ?_; intro v' w4 hm4 hb4; have HI4 : Hid (RInv w w4 v' (acc ++ [⟨3, [], [], false, t, p⟩])) := HI3.out.grow hb4 hm4)
              go_roundg k
              case measure => omega
              case rel => exact ⟨p + (9 + i + 3), acc ++ [⟨3, [], [], false, t, p⟩], _, rfl, (by first | (simp; done) | (simp; omega)), by omega, by omega, by rw [List.length_append]; simp only [List.length_cons, List.length_nil]; omega, HS2, HI4⟩
        · have hc2 := Lib.hid c2
          have C2 : Hid ((L (⟨#[60, 33, 91, 67, 68, 65, 84, 65, 91]⟩ : ByteArray)).isPrefixOf ((L s).drop p) = false) := Lib.hid (pre_is _ _ c2)
          clear c2
          by_cases c3 : ([60, 47] : List UInt8).isPrefixOf ((L s).drop p) = true
          · have hl2 := pre_len c3
            rw [List.length_drop, L_length] at hl2
            simp only [List.length_cons, List.length_nil] at hl2
            have hp2 : p + 2 ≤ s.size := by omega
            have hP : Sp.piece p ((L s).drop p) = (Sp.closing p ((L s).drop p)).map fun r => ([r.1], r.2) := by
              unfold Sp.piece; rw [if_neg hc1.out, if_neg hc2.out, if_pos c3]
            have C3 : Hid ((L (⟨#[60, 47]⟩ : ByteArray)).isPrefixOf ((L s).drop p) = true) := Lib.hid c3
            clear c3 hl2
            have hcl := closing_f hs 0 p hp2
            cases hR2 : Sp.closing p ((L s).drop p) with
            | error f =>
              obtain ⟨fa, fc⟩ := f
              rw [hR2] at hcl hP
              have hcn : fc ≠ 0 := hcl.1
              have hcb : ((fc : Int) != 0) = true := by rw [bne_iff_ne]; omega
              have HCL := Lib.hid hR2
              have hRR : R = .error (fa, fc) := by
                have := HST.out
                rw [hP] at this
                exact this.symm
              clear hP hR2 hcn hcl
              subst hRR
              go_upto_region 32 with (first | (go_at_call 52; (with_reducible refine (refAt_2 s p false _ hs hp C2.out).mono ?_); rintro e w2 ⟨rfl, rfl⟩) | (go_at_call 52; (with_reducible refine (refAt_3 s p true _ hs hp C3.out).mono ?_); rintro e w2 ⟨rfl, rfl⟩) | (go_at_call 56; refine (refClosing_is s p _ hs hp2 _ HCL.out).mono ?_; rintro e1 w2 hE; obtain ⟨hb2, r1, r2, ax, ay, az, r4, r5, r6, r7, rfl⟩ := hE.err; have HRB2 := Lib.hid (HRB.out.next hb2); obtain ⟨m0, m1, m2, m3, m4, m5⟩ := HRB2.out.m; obtain ⟨d0, d1⟩ := HRB2.out.f; have z0 := HRB2.out.mfz 0; have z1 := HRB2.out.mfz 1; have z2 := HRB2.out.mfz 2; have z3 := HRB2.out.mfz 3; have z4 := HRB2.out.mfz 4; have z5 := HRB2.out.mfz 5; have y0 := HRB2.out.ffz 0; have y1 := HRB2.out.ffz 1))
              generalize hW2 : World.setCell (World.setCell (World.setCell (World.setCell (World.setCell (World.setCell w2 _ _) _ _) _ _) _ _) _ _) _ _ = W2
              generalize hW3 : World.setCell (World.setCell W2 _ _) _ _ = W3
              have HRB3 := Lib.hid ((HRB2.out.set6 _ _ _ _ _ _ hW2).set2 _ _ hW3)
              clear hW2 hW3 m0 m1 m2 m3 m4 m5 z0 z1 z2 z3 z4 z5 y0 y1 d0 d1
              have HI3 := Lib.hid (HI.out.next HRB3.out.below)
              clear fc0 fc1 ff0 ff1
              have fc0 := HI3.out.c0
              have fc1 := HI3.out.c1
              have ff0 := HI3.out.fz 0
              have ff1 := HI3.out.fz 1
              obtain ⟨m0, m1, m2, m3, m4, m5⟩ := HRB3.out.m
              obtain ⟨d0, d1⟩ := HRB3.out.f
              go_wp2_with fail
              go_region
              all_goals
                go_wp2_with fail
                generalize hW : World.setCell (World.setCell _ _ _) _ _ = W'
                obtain ⟨f1, f2, f3, f4⟩ := HI3.out.fin _ _ hW
                clear hW
                refine bodyPost_ret (v := .tuple #[.slice none 0 0, .agg #[(.int .i64 fa), (.int .i64 fc)]]) ?_ rfl ?_
                · simp [results, Tryz.f17, go_sem, f2, f3]
                · first | exact ⟨f1, _, rfl, (MksAt.nil _ _).toR⟩ | exact ⟨f1.drew, _, rfl, (MksAt.nil _ _).toR⟩
            | ok r =>
              obtain ⟨m, n⟩ := r
              rw [hR2] at hP
              have hP2 : Sp.piece p ((L s).drop p) = .ok ([m], n) := hP
              obtain ⟨hn1, hn2, -⟩ := piece_facts hlt hP2
              have HS2 : Hid (Sp.pieces k (p + n) ((L s).drop (p + n)) (acc ++ [m]) = R) := by
                have := HST.out
                rw [hP2] at this
                exact this
              have hk3 : ((m.kind : Int) != 3) = true := by
                have := closing_kind _ _ _ _ hR2
                rw [bne_iff_ne]; omega
              have HCL := Lib.hid hR2
              clear hP hP2 hR2 hcl
              go_upto_region 32 with (first | (go_at_call 52; (with_reducible refine (refAt_2 s p false _ hs hp C2.out).mono ?_); rintro e w2 ⟨rfl, rfl⟩) | (go_at_call 52; (with_reducible refine (refAt_3 s p true _ hs hp C3.out).mono ?_); rintro e w2 ⟨rfl, rfl⟩) | (go_at_call 56; refine (refClosing_is s p _ hs hp2 _ HCL.out).mono ?_; rintro e1 w2 ⟨hb2, ax, ay, az, ha2, rfl⟩; have HRB2 := Lib.hid (HRB.out.next hb2); have HA2 := Lib.hid ha2; clear ha2; obtain ⟨m0, m1, m2, m3, m4, m5⟩ := HRB2.out.m; obtain ⟨d0, d1⟩ := HRB2.out.f; have z0 := HRB2.out.mfz 0; have z1 := HRB2.out.mfz 1; have z2 := HRB2.out.mfz 2; have z3 := HRB2.out.mfz 3; have z4 := HRB2.out.mfz 4; have z5 := HRB2.out.mfz 5; have y0 := HRB2.out.ffz 0; have y1 := HRB2.out.ffz 1))
              generalize hW2 : World.setCell (World.setCell (World.setCell (World.setCell (World.setCell (World.setCell w2 _ _) _ _) _ _) _ _) _ _) _ _ = W2
              generalize hW3 : World.setCell (World.setCell W2 _ _) _ _ = W3
              have HRB3 := Lib.hid ((HRB2.out.set6 _ _ _ _ _ _ hW2).set2 _ _ hW3)
              have HA3 := Lib.hid ((ats_set2 (ats_set6 HA2.out (by omega) _ _ _ _ _ _ hW2) (by omega) _ _ hW3).le (Nat.le_of_lt (Nat.lt_of_succ_lt hsz1)))
              clear hW2 hW3 m0 m1 m2 m3 m4 m5 z0 z1 z2 z3 z4 z5 y0 y1 d0 d1
              have HI3 := Lib.hid (HI.out.next HRB3.out.below)
              clear fc0 fc1 ff0 ff1
              have fc0 := HI3.out.c0
              have fc1 := HI3.out.c1
              have ff0 := HI3.out.fz 0
              have ff1 := HI3.out.fz 1
              obtain ⟨m0, m1, m2, m3, m4, m5⟩ := HRB3.out.m
              obtain ⟨d0, d1⟩ := HRB3.out.f
              go_wp2_with (at_builtin; refine wpList_appM rfl (.tmp 120) (.tmp 122) rfl m (by rfl) HI.out.own HRB3.out.below HA3.out (by omega) hal _ rfl (by rfl) ?_; intro v' w4 hm4 hb4; have HI4 : Hid (RInv w w4 v' (acc ++ [m])) := HI3.out.grow hb4 hm4)
              go_roundg k
              case measure => omega
              case rel => exact ⟨p + n, acc ++ [m], _, rfl, by simp, by omega, by omega, by rw [List.length_append]; simp only [List.length_cons, List.length_nil]; omega, HS2, HI4⟩
          · have hc3 := Lib.hid c3
            have C3 : Hid ((L (⟨#[60, 47]⟩ : ByteArray)).isPrefixOf ((L s).drop p) = false) := Lib.hid (pre_is _ _ c3)
            clear c3
            by_cases c4 : ([60] : List UInt8).isPrefixOf ((L s).drop p) = true
            · have hP : Sp.piece p ((L s).drop p) = (Sp.opening p ((L s).drop p)).map fun r => ([r.1], r.2) := by
                unfold Sp.piece; rw [if_neg hc1.out, if_neg hc2.out, if_neg hc3.out, if_pos c4]
              have C4 : Hid ((L (⟨#[60]⟩ : ByteArray)).isPrefixOf ((L s).drop p) = true) := Lib.hid c4
              clear c4
              have hcl := opening_f hs (s.size + 1) p (by omega) (by omega)
              cases hR2 : Sp.opening p ((L s).drop p) with
              | error f =>
                obtain ⟨fa, fc⟩ := f
                rw [hR2] at hcl hP
                have hcn : fc ≠ 0 := hcl.1
                have hcb : ((fc : Int) != 0) = true := by rw [bne_iff_ne]; omega
                have HCL := Lib.hid hR2
                have hRR : R = .error (fa, fc) := by
                  have := HST.out
                  rw [hP] at this
                  exact this.symm
                clear hP hR2 hcn hcl
                subst hRR
                go_upto_region 32 with (first | (go_at_call 52; (with_reducible refine (refAt_2 s p false _ hs hp C2.out).mono ?_); rintro e w2 ⟨rfl, rfl⟩) | (go_at_call 52; (with_reducible refine (refAt_3 s p false _ hs hp C3.out).mono ?_); rintro e w2 ⟨rfl, rfl⟩) | (go_at_call 52; (with_reducible refine (refAt_4 s p true _ hs hp C4.out).mono ?_); rintro e w2 ⟨rfl, rfl⟩) | (go_at_call 57; refine (refOpening_is s p _ hs (by omega) _ HCL.out).mono ?_; rintro e1 w2 hE; obtain ⟨hb2, r1, r2, ax, ay, az, r4, r5, r6, r7, rfl⟩ := hE.err; have HRB2 := Lib.hid (HRB.out.next hb2); obtain ⟨m0, m1, m2, m3, m4, m5⟩ := HRB2.out.m; obtain ⟨d0, d1⟩ := HRB2.out.f; have z0 := HRB2.out.mfz 0; have z1 := HRB2.out.mfz 1; have z2 := HRB2.out.mfz 2; have z3 := HRB2.out.mfz 3; have z4 := HRB2.out.mfz 4; have z5 := HRB2.out.mfz 5; have y0 := HRB2.out.ffz 0; have y1 := HRB2.out.ffz 1))
                generalize hW2 : World.setCell (World.setCell (World.setCell (World.setCell (World.setCell (World.setCell w2 _ _) _ _) _ _) _ _) _ _) _ _ = W2
                generalize hW3 : World.setCell (World.setCell W2 _ _) _ _ = W3
                have HRB3 := Lib.hid ((HRB2.out.set6 _ _ _ _ _ _ hW2).set2 _ _ hW3)
                clear hW2 hW3 m0 m1 m2 m3 m4 m5 z0 z1 z2 z3 z4 z5 y0 y1 d0 d1
                have HI3 := Lib.hid (HI.out.next HRB3.out.below)
                clear fc0 fc1 ff0 ff1
                have fc0 := HI3.out.c0
                have fc1 := HI3.out.c1
                have ff0 := HI3.out.fz 0
                have ff1 := HI3.out.fz 1
                obtain ⟨m0, m1, m2, m3, m4, m5⟩ := HRB3.out.m
                obtain ⟨d0, d1⟩ := HRB3.out.f
                go_wp2_with fail
                go_region
                all_goals
                  go_wp2_with fail
                  generalize hW : World.setCell (World.setCell _ _ _) _ _ = W'
                  obtain ⟨f1, f2, f3, f4⟩ := HI3.out.fin _ _ hW
                  clear hW
                  refine bodyPost_ret (v := .tuple #[.slice none 0 0, .agg #[(.int .i64 fa), (.int .i64 fc)]]) ?_ rfl ?_
                  · simp [results, Tryz.f17, go_sem, f2, f3]
                  · first | exact ⟨f1, _, rfl, (MksAt.nil _ _).toR⟩ | exact ⟨f1.drew, _, rfl, (MksAt.nil _ _).toR⟩
              | ok r =>
                obtain ⟨m, n⟩ := r
                rw [hR2] at hP
                have hP2 : Sp.piece p ((L s).drop p) = .ok ([m], n) := hP
                obtain ⟨hn1, hn2, -⟩ := piece_facts hlt hP2
                have HS2 : Hid (Sp.pieces k (p + n) ((L s).drop (p + n)) (acc ++ [m]) = R) := by
                  have := HST.out
                  rw [hP2] at this
                  exact this
                have hk3 : ((m.kind : Int) != 3) = true := by
                  have := opening_kind _ _ _ _ hR2
                  rw [bne_iff_ne]; omega
                have HCL := Lib.hid hR2
                clear hP hP2 hR2 hcl
                go_upto_region 32 with (first | (go_at_call 52; (with_reducible refine (refAt_2 s p false _ hs hp C2.out).mono ?_); rintro e w2 ⟨rfl, rfl⟩) | (go_at_call 52; (with_reducible refine (refAt_3 s p false _ hs hp C3.out).mono ?_); rintro e w2 ⟨rfl, rfl⟩) | (go_at_call 52; (with_reducible refine (refAt_4 s p true _ hs hp C4.out).mono ?_); rintro e w2 ⟨rfl, rfl⟩) | (go_at_call 57; refine (refOpening_is s p _ hs (by omega) _ HCL.out).mono ?_; rintro e1 w2 ⟨hb2, ax, ay, az, ha2, rfl⟩; have HRB2 := Lib.hid (HRB.out.next hb2); have HA2 := Lib.hid ha2; clear ha2; obtain ⟨m0, m1, m2, m3, m4, m5⟩ := HRB2.out.m; obtain ⟨d0, d1⟩ := HRB2.out.f; have z0 := HRB2.out.mfz 0; have z1 := HRB2.out.mfz 1; have z2 := HRB2.out.mfz 2; have z3 := HRB2.out.mfz 3; have z4 := HRB2.out.mfz 4; have z5 := HRB2.out.mfz 5; have y0 := HRB2.out.ffz 0; have y1 := HRB2.out.ffz 1))
                generalize hW2 : World.setCell (World.setCell (World.setCell (World.setCell (World.setCell (World.setCell w2 _ _) _ _) _ _) _ _) _ _) _ _ = W2
                generalize hW3 : World.setCell (World.setCell W2 _ _) _ _ = W3
                have HRB3 := Lib.hid ((HRB2.out.set6 _ _ _ _ _ _ hW2).set2 _ _ hW3)
                have HA3 := Lib.hid ((ats_set2 (ats_set6 HA2.out (by omega) _ _ _ _ _ _ hW2) (by omega) _ _ hW3).le (Nat.le_of_lt (Nat.lt_of_succ_lt hsz1)))
                clear hW2 hW3 m0 m1 m2 m3 m4 m5 z0 z1 z2 z3 z4 z5 y0 y1 d0 d1
                have HI3 := Lib.hid (HI.out.next HRB3.out.below)
                clear fc0 fc1 ff0 ff1
                have fc0 := HI3.out.c0
                have fc1 := HI3.out.c1
                have ff0 := HI3.out.fz 0
                have ff1 := HI3.out.fz 1
                obtain ⟨m0, m1, m2, m3, m4, m5⟩ := HRB3.out.m
                obtain ⟨d0, d1⟩ := HRB3.out.f
                go_wp2_with (at_builtin; refine wpList_appM rfl (.tmp 120) (.tmp 122) rfl m (by rfl) HI.out.own HRB3.out.below HA3.out (by omega) hal _ rfl (by rfl) ?_; intro v' w4 hm4 hb4; have HI4 : Hid (RInv w w4 v' (acc ++ [m])) := HI3.out.grow hb4 hm4)
                go_roundg k
                case measure => omega
                case rel => exact ⟨p + n, acc ++ [m], _, rfl, by simp, by omega, by omega, by rw [List.length_append]; simp only [List.length_cons, List.length_nil]; omega, HS2, HI4⟩
            · have hP : Sp.piece p ((L s).drop p) = (Sp.text 60 false p (((L s).drop p).length + 1) p ((L s).drop p) [] 0).map fun r => (Sp.tell r.1 p, r.2) := by
                unfold Sp.piece; rw [if_neg hc1.out, if_neg hc2.out, if_neg hc3.out, if_neg c4]
              have C4 : Hid ((L (⟨#[60]⟩ : ByteArray)).isPrefixOf ((L s).drop p) = false) := Lib.hid (pre_is _ _ c4)
              clear c4
              cases hR2 : Sp.text 60 false p (((L s).drop p).length + 1) p ((L s).drop p) [] 0 with
              | error f =>
                obtain ⟨fa, fc⟩ := f
                have hcn : fc ≠ 0 := text_err _ _ _ _ _ _ hR2
                have hcb : ((fc : Int) != 0) = true := by rw [bne_iff_ne]; omega
                have HCL := Lib.hid hR2
                rw [hR2] at hP
                have hRR : R = .error (fa, fc) := by
                  have := HST.out
                  rw [hP] at this
                  exact this.symm
                clear hP hR2 hcn
                subst hRR
                obtain ⟨m0, m1, m2, m3, m4, m5⟩ := HRB.out.m
                have z0 := HRB.out.mfz 0
                have z1 := HRB.out.mfz 1
                have z2 := HRB.out.mfz 2
                have z3 := HRB.out.mfz 3
                have z4 := HRB.out.mfz 4
                have z5 := HRB.out.mfz 5
                go_upto_region 31 with (first | (go_at_call 52; (with_reducible refine (refAt_2 s p false _ hs hp C2.out).mono ?_); rintro e w2 ⟨rfl, rfl⟩) | (go_at_call 52; (with_reducible refine (refAt_3 s p false _ hs hp C3.out).mono ?_); rintro e w2 ⟨rfl, rfl⟩) | (go_at_call 52; (with_reducible refine (refAt_4 s p false _ hs hp C4.out).mono ?_); rintro e w2 ⟨rfl, rfl⟩))
                generalize hW1 : World.setCell (World.setCell (World.setCell (World.setCell (World.setCell (World.setCell W0 _ _) _ _) _ _) _ _) _ _) _ _ = W1
                have HRB1 := Lib.hid (HRB.out.set6 _ _ _ _ _ _ hW1)
                clear hW1 m0 m1 m2 m3 m4 m5 z0 z1 z2 z3 z4 z5
                go_upto_region 32 with (go_at_call 58; refine (refText_60 s p _ hs hp _ HCL.out).mono ?_; rintro e1 w2 ⟨he, hb2⟩; (try unfold okV at he); (try unfold fltV at he); (try dsimp only at he); subst he; have HRB2 := Lib.hid (HRB1.out.next hb2); obtain ⟨m0, m1, m2, m3, m4, m5⟩ := HRB2.out.m; obtain ⟨d0, d1⟩ := HRB2.out.f; have z0 := HRB2.out.mfz 0; have z1 := HRB2.out.mfz 1; have z2 := HRB2.out.mfz 2; have z3 := HRB2.out.mfz 3; have z4 := HRB2.out.mfz 4; have z5 := HRB2.out.mfz 5; have y0 := HRB2.out.ffz 0; have y1 := HRB2.out.ffz 1)
                generalize hW2 : World.setCell w2 _ _ = W2
                generalize hW3 : World.setCell (World.setCell W2 _ _) _ _ = W3
                have HRB3 := Lib.hid ((HRB2.out.set4 _ hW2).set2 _ _ hW3)
                clear hW2 hW3 m0 m1 m2 m3 m4 m5 z0 z1 z2 z3 z4 z5 y0 y1 d0 d1
                have HI3 := Lib.hid (HI.out.next HRB3.out.below)
                clear fc0 fc1 ff0 ff1
                have fc0 := HI3.out.c0
                have fc1 := HI3.out.c1
                have ff0 := HI3.out.fz 0
                have ff1 := HI3.out.fz 1
                obtain ⟨m0, m1, m2, m3, m4, m5⟩ := HRB3.out.m
                obtain ⟨d0, d1⟩ := HRB3.out.f
                go_wp2_with fail
                go_region
                all_goals
                  go_wp2_with fail
                  generalize hW : World.setCell (World.setCell _ _ _) _ _ = W'
                  obtain ⟨f1, f2, f3, f4⟩ := HI3.out.fin _ _ hW
                  clear hW
                  refine bodyPost_ret (v := .tuple #[.slice none 0 0, .agg #[(.int .i64 fa), (.int .i64 fc)]]) ?_ rfl ?_
                  · simp [results, Tryz.f17, go_sem, f2, f3]
                  · first | exact ⟨f1, _, rfl, (MksAt.nil _ _).toR⟩ | exact ⟨f1.drew, _, rfl, (MksAt.nil _ _).toR⟩
              | ok r =>
                obtain ⟨t, n⟩ := r
                have HCL := Lib.hid hR2
                rw [hR2] at hP
                have hP2 : Sp.piece p ((L s).drop p) = .ok (Sp.tell t p, n) := hP
                obtain ⟨hn1, hn2, -⟩ := piece_facts hlt hP2
                have HS1 : Hid (Sp.pieces k (p + n) ((L s).drop (p + n)) (acc ++ Sp.tell t p) = R) := by
                  have := HST.out
                  rw [hP2] at this
                  exact this
                clear hP hP2 hR2
                obtain ⟨m0, m1, m2, m3, m4, m5⟩ := HRB.out.m
                have z0 := HRB.out.mfz 0
                have z1 := HRB.out.mfz 1
                have z2 := HRB.out.mfz 2
                have z3 := HRB.out.mfz 3
                have z4 := HRB.out.mfz 4
                have z5 := HRB.out.mfz 5
                go_upto_region 31 with (first | (go_at_call 52; (with_reducible refine (refAt_2 s p false _ hs hp C2.out).mono ?_); rintro e w2 ⟨rfl, rfl⟩) | (go_at_call 52; (with_reducible refine (refAt_3 s p false _ hs hp C3.out).mono ?_); rintro e w2 ⟨rfl, rfl⟩) | (go_at_call 52; (with_reducible refine (refAt_4 s p false _ hs hp C4.out).mono ?_); rintro e w2 ⟨rfl, rfl⟩))
                generalize hW1 : World.setCell (World.setCell (World.setCell (World.setCell (World.setCell (World.setCell W0 _ _) _ _) _ _) _ _) _ _) _ _ = W1
                have HRB1 := Lib.hid (HRB.out.set6 _ _ _ _ _ _ hW1)
                clear hW1 m0 m1 m2 m3 m4 m5 z0 z1 z2 z3 z4 z5
                go_upto_region 32 with (go_at_call 58; refine (refText_60 s p _ hs hp _ HCL.out).mono ?_; rintro e1 w2 ⟨he, hb2⟩; (try unfold okV at he); (try unfold fltV at he); (try dsimp only at he); subst he; have HRB2 := Lib.hid (HRB1.out.next hb2); obtain ⟨m0, m1, m2, m3, m4, m5⟩ := HRB2.out.m; obtain ⟨d0, d1⟩ := HRB2.out.f; have z0 := HRB2.out.mfz 0; have z1 := HRB2.out.mfz 1; have z2 := HRB2.out.mfz 2; have z3 := HRB2.out.mfz 3; have z4 := HRB2.out.mfz 4; have z5 := HRB2.out.mfz 5; have y0 := HRB2.out.ffz 0; have y1 := HRB2.out.ffz 1)
                generalize hW2 : World.setCell w2 _ _ = W2
                generalize hW3 : World.setCell (World.setCell W2 _ _) _ _ = W3
                have HRB3 := Lib.hid ((HRB2.out.set4 _ hW2).set2 _ _ hW3)
                clear hW2 hW3 m0 m1 m2 m3 m4 m5 z0 z1 z2 z3 z4 z5 y0 y1 d0 d1
                have HI3 := Lib.hid (HI.out.next HRB3.out.below)
                clear fc0 fc1 ff0 ff1
                have fc0 := HI3.out.c0
                have fc1 := HI3.out.c1
                have ff0 := HI3.out.fz 0
                have ff1 := HI3.out.fz 1
                obtain ⟨m0, m1, m2, m3, m4, m5⟩ := HRB3.out.m
                obtain ⟨d0, d1⟩ := HRB3.out.f
                by_cases ht : t = []
                · have HS2 : Hid (Sp.pieces k (p + (n)) ((L s).drop (p + (n))) acc = R) := by
                    have := HS1.out
                    rw [ht] at this
                    simp only [Sp.tell, if_pos, List.append_nil] at this
                    exact this
                  have hte : List.isEmpty t = true := by rw [ht]; rfl
                  have hte2 : (!List.isEmpty t) = false := by rw [ht]; rfl
                  clear ht
                  go_wp2_with fail
                  go_roundg k
                  case measure => omega
                  case rel => exact ⟨p + (n), acc, _, rfl, (by first | (simp; done) | (simp; omega)), by omega, by omega, by omega, HS2, HI3⟩
                · have HS2 : Hid (Sp.pieces k (p + (n)) ((L s).drop (p + (n))) (acc ++ [⟨3, [], [], false, t, p⟩]) = R) := by
                    have := HS1.out
                    unfold Sp.tell at this
                    rw [if_neg ht] at this
                    exact this
                  have hte : List.isEmpty t = false := by cases t with | nil => exact absurd rfl ht | cons => rfl
                  have hte2 : (!List.isEmpty t) = true := by rw [hte]; rfl
                  clear ht
                  go_wp2_with (at_builtin; refine wpList_appM rfl (.tmp 120) (.tmp 122) rfl ⟨3, [], [], false, t, p⟩ (by rfl) HI.out.own HRB3.out.below (AtsAt.nil _ _) (by omega) hal _ rfl (by rfl) ?_; intro v' w4 hm4 hb4; have HI4 : Hid (RInv w w4 v' (acc ++ [⟨3, [], [], false, t, p⟩])) := HI3.out.grow hb4 hm4)
                  go_roundg k
                  case measure => omega
                  case rel => exact ⟨p + (n), acc ++ [⟨3, [], [], false, t, p⟩], _, rfl, (by first | (simp; done) | (simp; omega)), by omega, by omega, by rw [List.length_append]; simp only [List.length_cons, List.length_nil]; omega, HS2, HI4⟩
    · have hd : decide ((p : Int) < s.size) = false := by simp; omega
      have hRR : R = .ok acc := by
        have := HT.out
        rw [List.drop_eq_nil_of_le (by rw [L_length]; omega)] at this
        exact this.symm
      subst hRR
      go_wp2_with fail
      generalize hW : World.setCell (World.setCell _ _ _) _ _ = W'
      obtain ⟨f1, f2, f3, f4⟩ := HI.out.fin _ _ hW
      clear hW
      refine bodyPost_ret (v := .tuple #[v, .agg #[(.int .i64 0), (.int .i64 0)]]) ?_ rfl ?_
      · simp [results, Tryz.f17, go_sem, f2, f3]
      · exact ⟨f1, _, rfl, f4.toR⟩
set_option maxHeartbeats 8000000 in
set_option maxRecDepth 100000 in
theorem refMarks_chk (s : ByteArray) (w : World) (x c : Nat) (hc : c ≠ 0) (hchk : YtokdclmikllepaaGreatDoorP.pavaneref08_Check.f (s.size + 1) s = some ((x : Int), (c : Int))) :
    Calls Tryz.prog 17 #[.string s] w (RefEndM (.error (x, c)) w) := by
  have HC := Lib.hid hchk
  have hcb : ((c : Int) != 0) = true := by rw [bne_iff_ne]; omega
  have HS0 : Hid (∀ w', Below w.heap.size w w' → w'.heap[w.heap.size]? = some (.cells #[.int .i64 0, .int .i64 0] 27 (0, 0)) → RInv w w' (.slice none 0 0) []) := fun w' h1 h2 => ⟨h1, h2, MksAt.nil _ _⟩
  clear hchk hc
  go_enter Tryz.func17, Tryz.ntmps17
  go_wp2_with fail
  refine (refCheck_is s x c _ HC.out).mono ?_
  rintro e w1 ⟨rfl, hb1⟩
  have HI0 : Hid (RInv w w1 (.slice none 0 0) []) := HS0.out w1 (((Below.refl _ _).alloc (Nat.le_refl _) _).trans (hb1.mono (by rw [sz_alloc]; omega))) ((hb1.block _ (by rw [sz_alloc]; omega)).trans (heap_alloc_new w _))
  clear hb1
  go_upto_region 2 with fail
  generalize hW1 : World.alloc w1 _ = W1
  have HI1 : Hid (RInv w W1 (.slice none 0 0) []) := HI0.out.next (hW1 ▸ (Below.refl _ _).alloc (Nat.le_refl _) _)
  have hblk : W1.heap[w1.heap.size]? = some (.cells #[.int .i64 x, .int .i64 c] 27 (0, 0)) := hW1 ▸ heap_alloc_new w1 _
  have d0 := cell_of_row W1 _ 0 _ _ _ hblk
  have d1 := cell_of_row W1 _ 1 _ _ _ hblk
  have fc0 := HI1.out.c0
  have fc1 := HI1.out.c1
  have ff0 := HI1.out.fz 0
  have ff1 := HI1.out.fz 1
  clear hW1 hblk
  go_wp2_with fail
  go_region
  all_goals
    go_wp2_with fail
    generalize hW : World.setCell (World.setCell _ _ _) _ _ = W'
    obtain ⟨f1, f2, f3, f4⟩ := HI1.out.fin _ _ hW
    clear hW
    refine bodyPost_ret (v := .tuple #[.slice none 0 0, .agg #[(.int .i64 x), (.int .i64 c)]]) ?_ rfl ?_
    · simp [results, Tryz.f17, go_sem, f2, f3]
    · first | exact ⟨f1, _, rfl, (MksAt.nil _ _).toR⟩ | exact ⟨f1.drew, _, rfl, (MksAt.nil _ _).toR⟩

set_option maxHeartbeats 8000000 in
set_option maxRecDepth 100000 in
/-- A document whose declaration isn't ended. -/
theorem refMarks_pro (s : ByteArray) (w : World) (hs : s.size ≤ 65536) (hchk : YtokdclmikllepaaGreatDoorP.pavaneref08_Check.f (s.size + 1) s = some (0, 0)) (h5 : 5 < s.size) (g2 : Sp.xml5.isPrefixOf (L s) = true) (g3 : Sp.white s[5] = true) (g4 : findAt s ⟨#[63, 62]⟩ 5 = -1) :
    Calls Tryz.prog 17 #[.string s] w (RefEndM (.error (0, 84)) w) := by
  have HC := Lib.hid hchk
  have HS0 : Hid (∀ w', Below w.heap.size w w' → w'.heap[w.heap.size]? = some (.cells #[.int .i64 0, .int .i64 0] 27 (0, 0)) → RInv w w' (.slice none 0 0) []) := fun w' h1 h2 => ⟨h1, h2, MksAt.nil _ _⟩
  have g1 : decide ((5 : Int) < s.size) = true := by simp; omega
  have g5 : (5 : Int) < s.size := by omega
  have G2 := Lib.hid g2
  have G3 := Lib.hid g3
  have G4 := Lib.hid g4
  clear g2 g3 g4 hchk
  go_enter Tryz.func17, Tryz.ntmps17
  go_wp2_with fail
  refine (refCheck_is s 0 0 _ HC.out).mono ?_
  rintro e w1 ⟨rfl, hb1⟩
  have HI0 : Hid (RInv w w1 (.slice none 0 0) []) := HS0.out w1 (((Below.refl _ _).alloc (Nat.le_refl _) _).trans (hb1.mono (by rw [sz_alloc]; omega))) ((hb1.block _ (by rw [sz_alloc]; omega)).trans (heap_alloc_new w _))
  clear hb1
  go_upto_region 2 with fail
  generalize hW1 : World.alloc w1 _ = W1
  have HI1 : Hid (RInv w W1 (.slice none 0 0) []) := HI0.out.next (hW1 ▸ (Below.refl _ _).alloc (Nat.le_refl _) _)
  have hblk : W1.heap[w1.heap.size]? = some (.cells #[.int .i64 0, .int .i64 0] 27 (0, 0)) := hW1 ▸ heap_alloc_new w1 _
  have d0 := cell_of_row W1 _ 0 _ _ _ hblk
  have d1 := cell_of_row W1 _ 1 _ _ _ hblk
  have fc0 := HI1.out.c0
  have fc1 := HI1.out.c1
  have ff0 := HI1.out.fz 0
  have ff1 := HI1.out.fz 1
  clear hW1 hblk
  go_wp2_with (first | (go_at_call 52; (with_reducible refine (refAt_xml s true _ hs G2.out).mono ?_); rintro e w2 ⟨rfl, rfl⟩) | (go_at_call 53; refine (refWhite_is s[5] true _ G3.out).mono ?_; rintro e w2 ⟨rfl, rfl⟩) | (go_at_call 54; refine (refFind_5 s _ _ hs h5 G4.out).mono ?_; rintro e w2 ⟨rfl, rfl⟩))
  generalize hW : World.setCell (World.setCell _ _ _) _ _ = W'
  obtain ⟨f1, f2, f3, f4⟩ := HI1.out.fin _ _ hW
  clear hW
  refine bodyPost_ret (v := .tuple #[.slice none 0 0, .agg #[(.int .i64 0), (.int .i64 84)]]) ?_ rfl ?_
  · simp [results, Tryz.f17, go_sem, f2, f3]
  · exact ⟨f1, _, rfl, (MksAt.nil _ _).toR⟩

theorem refMarks_is (s : ByteArray) (w : World) (R : Except Sp.Flt (List Sp.Mk)) (hR : Sp.marks (L s) = R) :
    Calls Tryz.prog 17 #[.string s] w (RefEndM R w) := by
  have hc := check_f (s := s) (s.size + 1) (Nat.lt_succ_self _)
  unfold Sp.marks at hR
  rw [L_length] at hR
  by_cases h : 65536 < s.size
  · rw [if_pos h] at hR hc
    subst hR
    exact refMarks_chk s w 0 3 (by decide) hc
  · rw [if_neg h] at hR hc
    have hs : s.size ≤ 65536 := by omega
    cases hb : Sp.bad (s.size + 1) 0 (L s) with
    | some i =>
      rw [hb] at hR hc
      subst hR
      exact refMarks_chk s w i 71 (by decide) hc
    | none =>
      rw [hb] at hR hc
      simp only at hR hc
      cases hch : Sp.badChar (s.size + 1) 0 (L s) with
      | some i =>
        rw [hch] at hR hc
        subst hR
        exact refMarks_chk s w i 81 (by decide) hc
      | none =>
        rw [hch] at hR hc
        simp only at hR hc
        have h0 : Sp.prolog (L s) = .ok 0 → Sp.pieces (s.size + 1) 0 ((L s).drop 0) [] = R := fun hp => by rw [hp] at hR; exact hR
        by_cases h5 : 5 < s.size
        · have hd5 := L_drop s 5 h5
          have hd : decide ((5 : Int) < s.size) = true := by simp; omega
          by_cases hx : Sp.xml5.isPrefixOf (L s) = true
          · cases hw : Sp.white s[5] with
            | true =>
              have hp : Sp.prolog (L s) = match Sp.find [63, 62] ((L s).drop 5) with | none => .error (0, 84) | some i => .ok (5 + i + 2) := by
                unfold Sp.prolog
                rw [hd5]
                simp only
                rw [if_pos ⟨hx, hw⟩]
                cases Sp.find [63, 62] (s[5] :: (L s).drop (5 + 1)) <;> rfl
              rw [hp] at hR
              cases hf : Sp.find [63, 62] ((L s).drop 5) with
              | none =>
                rw [hf] at hR
                subst hR
                exact refMarks_pro s w hs hc h5 hx hw (findAt_none (t := ⟨#[63, 62]⟩) hf)
              | some i =>
                rw [hf] at hR
                have hle := find_bound _ _ _ hf
                rw [List.length_drop, L_length] at hle
                simp only [List.length_cons, List.length_nil] at hle
                exact refMarks_go s w hs R (5 + i + 2) (by omega) hR hc (.inr (.inr (.inr ⟨hd, hx, ⟨h5, hw⟩, i, findAt_some (t := ⟨#[63, 62]⟩) hf, rfl⟩)))
            | false =>
              have hp : Sp.prolog (L s) = .ok 0 := by
                unfold Sp.prolog
                rw [hd5]
                simp only
                rw [if_neg (fun h => by rw [hw] at h; exact absurd h.2 (by simp))]
              exact refMarks_go s w hs R 0 (by omega) (h0 hp) hc (.inr (.inr (.inl ⟨hd, hx, ⟨h5, hw⟩, rfl⟩)))
          · have hp : Sp.prolog (L s) = .ok 0 := by
              unfold Sp.prolog
              rw [hd5]
              simp only
              rw [if_neg (fun h => hx h.1)]
            exact refMarks_go s w hs R 0 (by omega) (h0 hp) hc (.inr (.inl ⟨hd, pre_is _ _ hx, rfl⟩))
        · have hp : Sp.prolog (L s) = .ok 0 := by
            unfold Sp.prolog
            rw [List.drop_eq_nil_of_le (by rw [L_length]; omega)]
          exact refMarks_go s w hs R 0 (by omega) (h0 hp) hc (.inl ⟨by simp; omega, rfl⟩)
end Go.Proofs.YtokdclmikllepaaGreatDoor
