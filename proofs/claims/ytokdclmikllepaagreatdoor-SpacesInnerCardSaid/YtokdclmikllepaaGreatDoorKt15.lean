import Derived.Test.YtokdclmikllepaaGreatDoorKt14
namespace Go.Proofs.YtokdclmikllepaaGreatDoor
open Go.RowKit
set_option linter.unusedVariables false
set_option linter.unusedSimpArgs false

/-- The attribute at work (block w.heap.size + 1), and the result's place (block w.heap.size). -/
structure Loc (g : Nat) (s : ByteArray) (p fr : Nat) (out : Value) (w : World) (q : Nat) (nm vl : ByteArray) (W : World) : Prop where
  only : Only g w W
  rd : Rd W g s q fr out
  lt : g < w.heap.size
  res : W.heap[w.heap.size]? = some (.cells #[.string ⟨#[]⟩, .string ⟨#[]⟩, .int .i64 0] 42 (0, 0))
  box : W.heap[w.heap.size + 1]? = some (.cells #[.string nm, .string vl, .int .i64 p] 42 (0, 0))
theorem sz_alloc (w : World) (o : Obj) : (w.alloc o).heap.size = w.heap.size + 1 := Array.size_push ..
theorem Only.trans_set {a w : World} {g : Nat} (h : Only g a w) {x : Addr} (hx : a.heap.size ≤ x.block) (u : Value) : Only g a (w.setCell x u) :=
  ⟨h.os, h.tape, h.output, Nat.le_trans h.size (by simp [World.setCell]), fun i hi hne => (Below.heap_setCell _ _ _ _ (by omega)).trans (h.block i hi hne)⟩
theorem Rd.set_other {w : World} {g : Nat} {s : ByteArray} {p fr : Nat} {out : Value} (h : Rd w g s p fr out) {x : Addr} (hx : x.block ≠ g) (u : Value) : Rd (w.setCell x u) g s p fr out :=
  ⟨h.1, (Below.heap_setCell _ _ _ _ (fun e => hx e.symm)).trans h.2⟩
section
variable {g : Nat} {s : ByteArray} {p fr : Nat} {out : Value} {w : World} {q q' : Nat} {nm vl : ByteArray} {W W2 : World}
theorem Loc.drewN (h : Loc g s p fr out w q nm vl W) (n : Nat) : Loc g s p fr out w q nm vl (W.drewN n) := ⟨h.only.drewN n, h.rd.drewN n, h.lt, h.res, h.box⟩
theorem Loc.fz (h : Loc g s p fr out w q nm vl W) (i : Nat) : W.frozen? ⟨w.heap.size + 1, i, none⟩ = false := by
  have h2 := h.box; simp [World.frozen?, h2]
theorem Loc.goes (h : Loc g s p fr out w q nm vl W) (ho : Only g W W2) (hr : Rd W2 g s q' fr out) : Loc g s p fr out w q' nm vl W2 :=
  ⟨h.only.trans ho, hr, h.lt, (ho.block _ (Array.getElem?_eq_some_iff.1 h.res).1 (fun e => by injection e with e; have := h.lt; omega)).trans h.res,
   (ho.block _ (Array.getElem?_eq_some_iff.1 h.box).1 (fun e => by injection e with e; have := h.lt; omega)).trans h.box⟩
theorem Loc.start (hr : Rd w g s p fr out) : Loc g s p fr out w p ⟨#[]⟩ ⟨#[]⟩ ((w.alloc (.cells #[.string ⟨#[]⟩, .string ⟨#[]⟩, .int .i64 0] 42)).alloc (.cells #[.string ⟨#[]⟩, .string ⟨#[]⟩, .int .i64 p] 42)) :=
  ⟨((Only.refl g w).alloc _).alloc _, (hr.alloc _).alloc _, hr.lt,
   (heap_alloc_old _ _ (by rw [sz_alloc]; omega)).trans (heap_alloc_new w _), by
     have := heap_alloc_new (w.alloc (.cells #[.string ⟨#[]⟩, .string ⟨#[]⟩, .int .i64 0] 42)) (.cells #[.string ⟨#[]⟩, .string ⟨#[]⟩, .int .i64 p] 42)
     have e : (w.alloc (.cells #[.string ⟨#[]⟩, .string ⟨#[]⟩, .int .i64 0] 42)).heap.size = w.heap.size + 1 := sz_alloc _ _
     rwa [e] at this⟩
theorem Loc.setName (h : Loc g s p fr out w q nm vl W) (t : ByteArray) : Loc g s p fr out w q t vl (W.setCell ⟨w.heap.size + 1, 0, none⟩ (.string t)) :=
  have hs := h.lt
  ⟨h.only.trans_set (by show w.heap.size ≤ w.heap.size + 1; omega) _, h.rd.set_other (by show w.heap.size + 1 ≠ g; omega) _, h.lt, (Below.heap_setCell _ _ _ _ (by show w.heap.size ≠ w.heap.size + 1; omega)).trans h.res, heap_set _ _ 0 _ _ _ _ h.box⟩
theorem Loc.setVal (h : Loc g s p fr out w q nm vl W) (t : ByteArray) : Loc g s p fr out w q nm t (W.setCell ⟨w.heap.size + 1, 1, none⟩ (.string t)) :=
  have hs := h.lt
  ⟨h.only.trans_set (by show w.heap.size ≤ w.heap.size + 1; omega) _, h.rd.set_other (by show w.heap.size + 1 ≠ g; omega) _, h.lt, (Below.heap_setCell _ _ _ _ (by show w.heap.size ≠ w.heap.size + 1; omega)).trans h.res, heap_set _ _ 1 _ _ _ _ h.box⟩
theorem Loc.fin (h : Loc g s p fr out w q nm vl W) (x y z : Value) {W' : World} (hW : (((W.setCell ⟨w.heap.size, 0, none⟩ x).setCell ⟨w.heap.size, 1, none⟩ y).setCell ⟨w.heap.size, 2, none⟩ z) = W') :
    Only g w W' ∧ Rd W' g s q fr out ∧ W'.cell? ⟨w.heap.size, 0, none⟩ = some x ∧ W'.cell? ⟨w.heap.size, 1, none⟩ = some y ∧ W'.cell? ⟨w.heap.size, 2, none⟩ = some z := by
  subst hW
  have hs := h.lt
  have hb : (((W.setCell ⟨w.heap.size, 0, none⟩ x).setCell ⟨w.heap.size, 1, none⟩ y).setCell ⟨w.heap.size, 2, none⟩ z).heap[w.heap.size]? = some (.cells #[x, y, z] 42 (0, 0)) :=
    heap_set _ _ 2 _ _ _ _ (heap_set _ _ 1 _ _ _ _ (heap_set _ _ 0 _ _ _ _ h.res))
  exact ⟨((h.only.trans_set (Nat.le_refl _) _).trans_set (Nat.le_refl _) _).trans_set (Nat.le_refl _) _, ((h.rd.set_other (by show w.heap.size ≠ g; omega) _).set_other (by show w.heap.size ≠ g; omega) _).set_other (by show w.heap.size ≠ g; omega) _,
    cell_of_row _ _ 0 _ _ _ hb, cell_of_row _ _ 1 _ _ _ hb, cell_of_row _ _ 2 _ _ _ hb⟩
end

/-- How attr ends. -/
def AttrEnd (g : Nat) (s : ByteArray) (p fr : Nat) (out : Value) (R : Except Sp.Flt (Sp.At × Nat)) (w : World) (e : Ending) (w' : World) : Prop :=
  Only g w w' ∧ match R with
  | .error f => e = pan f
  | .ok (a, m) => e = .returned (.agg #[.string ⟨a.name.toArray⟩, .string ⟨a.value.toArray⟩, .int .i64 a.at_]) ∧ Rd w' g s (p + m) fr out

set_option maxHeartbeats 8000000 in
set_option maxRecDepth 100000 in
theorem attr_noname (s : ByteArray) (g p fr : Nat) (out : Value) (w : World) (hr : Rd w g s p fr out) (hs : s.size ≤ 65536) (hp : p ≤ s.size) (hq : nm (s.size - p + 1) true s p = p) :
    Calls Tryz.prog 126 #[.pointer (some ⟨g, 0, none⟩)] w fun e w' => e = pan (Sp.stop fr p ((L s).drop p)) ∧ Only g w w' := by
  have h1 := hr.c1
  have hglt := hr.lt
  have HL := Lib.hid (Loc.start hr)
  have HQ := Lib.hid hq
  clear hq
  go_enter Tryz.func126, Tryz.ntmps126
  go_wp2_with fail
  refine (name_none s g p fr out _ HL.out.rd (by omega) hp HQ.out).mono ?_
  rintro e w1 ⟨he, hb⟩
  have ho := HL.out.only.trans ((Only.refl g _).below hb)
  unfold pan at he
  subst he
  go_wp2_with fail
  exact ⟨rfl, rfl, ho⟩

set_option maxHeartbeats 8000000 in
set_option maxRecDepth 100000 in
/-- Attr behind a name: up to the equals sign. -/
theorem attr_nowant (s : ByteArray) (g p fr : Nat) (out : Value) (w : World) (hr : Rd w g s p fr out) (hs : s.size ≤ 65536) (hp : p ≤ s.size) (q : Nat) (hq : nm (s.size - p + 1) true s p = q) (hne : p < q)
    (u : Nat) (hu : bl s q = u) (hc : ((L s).drop u).head? ≠ some 61) :
    Calls Tryz.prog 126 #[.pointer (some ⟨g, 0, none⟩)] w fun e w' => e = pan (Sp.stop fr u ((L s).drop u)) ∧ Only g w w' := by
  have h1 := hr.c1
  have hglt := hr.lt
  have hqs := nm_le (s.size - p + 1) true s p hp
  rw [hq] at hqs
  have hqs2 := hqs.2
  have HL := Lib.hid (Loc.start hr)
  have HQ := Lib.hid hq
  have HU := Lib.hid hu
  have HC := Lib.hid hc
  clear hq hu hc hqs
  go_enter Tryz.func126, Tryz.ntmps126
  go_wp2_with fail
  refine (name_calls s g p fr out _ HL.out.rd (by omega) hp q HQ.out hne).mono ?_
  rintro e w1 ⟨rfl, ho, hr1⟩
  have HL1 := Lib.hid (HL.out.goes ho hr1)
  clear ho hr1
  have hx := cell_of_row w1 (w.heap.size + 1) 0 _ _ _ HL1.out.box
  have hf := HL1.out.fz 0
  go_wp2_with fail
  have HL2 := Lib.hid (HL1.out.setName (s.extract p q))
  clear hx hf
  refine (blanks_calls s g q fr out _ HL2.out.rd (by omega) hqs2).mono ?_
  rintro e w2 ⟨rfl, ho, hr2⟩
  rw [HU.out] at hr2
  have HL3 := Lib.hid (HL2.out.goes ho hr2)
  clear ho hr2
  go_wp2_with fail
  refine (want_fails s 61 61 rfl g u fr out _ HL3.out.rd (by omega) HC.out).mono ?_
  rintro e w3 ⟨he, n, rfl⟩
  have ho := (HL3.out.drewN n).only
  unfold pan at he
  subst he
  go_wp2_with fail
  exact ⟨rfl, rfl, ho⟩
end Go.Proofs.YtokdclmikllepaaGreatDoor
