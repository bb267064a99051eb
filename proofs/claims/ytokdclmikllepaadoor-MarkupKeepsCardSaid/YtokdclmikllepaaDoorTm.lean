import Derived.Test.YtokdclmikllepaaDoorTl
import Derived.RegionDies
namespace Go.Proofs.YtokdclmikllepaaDoor
open Go.RowKit
set_option linter.unusedVariables false
set_option linter.unusedSimpArgs false

theorem AtsAt.le {B B' : Nat} {w : World} {v : Value} {l : List Sp.At} (h : AtsAt B' w v l) (hb : B ≤ B') : AtsAt B w v l := by
  refine ⟨h.1, ?_⟩
  rcases h.2 with hn | ⟨g, cap, cur, rfl, hbg, rest⟩
  · exact .inl hn
  · exact .inr ⟨g, cap, cur, rfl, Nat.le_trans hb hbg, rest⟩

theorem infoAttr : (Tryd.prog.info? 32).map (fun i => (i.zero, i.size, i.bytes)) = some (some (.agg #[.string ⟨#[]⟩, .string ⟨#[]⟩, .int .i64 0]), 3, 40) := by kernel_rfl

/-- The mark at work (block b), its attributes so far. -/
structure OLoc (g : Nat) (s : ByteArray) (p : Nat) (out : Value) (w : World) (q b : Nat) (nm : ByteArray) (em : Bool) (av : Value) (acc : List Sp.At) (W : World) : Prop where
  only : Only g w W
  rd : Rd W g s q p out
  lt : g < w.heap.size
  le : w.heap.size ≤ b
  box : W.heap[b]? = some (.cells #[.int .i64 1, .string nm, av, .bool em, .string ⟨#[]⟩, .int .i64 p] 30 (0, 0))
  ats : AtsAt w.heap.size W av acc
section
variable {g : Nat} {s : ByteArray} {p : Nat} {out : Value} {w : World} {q q' b : Nat} {nm : ByteArray} {em : Bool} {av : Value} {acc : List Sp.At} {W W2 : World}
theorem OLoc.drewN (h : OLoc g s p out w q b nm em av acc W) (n : Nat) : OLoc g s p out w q b nm em av acc (W.drewN n) := ⟨h.only.drewN n, h.rd.drewN n, h.lt, h.le, h.box, h.ats⟩
theorem OLoc.blt (h : OLoc g s p out w q b nm em av acc W) : b < W.heap.size := (Array.getElem?_eq_some_iff.1 h.box).1
theorem OLoc.ne (h : OLoc g s p out w q b nm em av acc W) : b ≠ g := by have := h.lt; have := h.le; omega
theorem OLoc.fz (h : OLoc g s p out w q b nm em av acc W) (i : Nat) : W.frozen? ⟨b, i, none⟩ = false := by
  have h2 := h.box; simp [World.frozen?, h2]
theorem OLoc.c0 (h : OLoc g s p out w q b nm em av acc W) : W.cell? ⟨b, 0, none⟩ = some (.int .i64 1) := cell_of_row W b 0 _ _ _ h.box
theorem OLoc.c1 (h : OLoc g s p out w q b nm em av acc W) : W.cell? ⟨b, 1, none⟩ = some (.string nm) := cell_of_row W b 1 _ _ _ h.box
theorem OLoc.c2 (h : OLoc g s p out w q b nm em av acc W) : W.cell? ⟨b, 2, none⟩ = some av := cell_of_row W b 2 _ _ _ h.box
theorem OLoc.c3 (h : OLoc g s p out w q b nm em av acc W) : W.cell? ⟨b, 3, none⟩ = some (.bool em) := cell_of_row W b 3 _ _ _ h.box
theorem OLoc.c4 (h : OLoc g s p out w q b nm em av acc W) : W.cell? ⟨b, 4, none⟩ = some (.string ⟨#[]⟩) := cell_of_row W b 4 _ _ _ h.box
theorem OLoc.c5 (h : OLoc g s p out w q b nm em av acc W) : W.cell? ⟨b, 5, none⟩ = some (.int .i64 p) := cell_of_row W b 5 _ _ _ h.box
theorem OLoc.goes (h : OLoc g s p out w q b nm em av acc W) (ho : Only g W W2) (hr : Rd W2 g s q' p out) : OLoc g s p out w q' b nm em av acc W2 :=
  ⟨h.only.trans ho, hr, h.lt, h.le, (ho.block b h.blt (fun e => by injection e with e; exact h.ne e)).trans h.box, h.ats.kept ho (.inr (h.rd.row h.ats (by decide)))⟩
theorem OLoc.alloc (h : OLoc g s p out w q b nm em av acc W) (o : Obj) : OLoc g s p out w q b nm em av acc (W.alloc o) := h.goes ((Only.refl g W).alloc o) (h.rd.alloc o)
theorem OLoc.set1 (h : OLoc g s p out w q b nm em av acc W) (q' : Nat) : OLoc g s p out w q' b nm em av acc (W.setCell ⟨g, 1, none⟩ (.int .i64 q')) := h.goes ((Only.refl g W).set 1 _) (h.rd.set1 q')
theorem OLoc.setEm (h : OLoc g s p out w q b nm em av acc W) : OLoc g s p out w q b nm true av acc (W.setCell ⟨b, 3, none⟩ (.bool true)) :=
  ⟨h.only.trans_set h.le _, h.rd.set_other h.ne _, h.lt, h.le, heap_set _ _ 3 _ _ _ _ h.box,
   h.ats.kept ((Only.refl b W).set 3 _) (.inr (own_ne h.ats h.box (by decide)))⟩
theorem OLoc.more {W1 : World} {v' : Value} {a : Sp.At} (h : OLoc g s p out w q b nm em av acc W) (hgr : W.grownBy W1 av.ownBlock) (hown : W1.ownsRow w.heap.size 32 3 v' (acc.length + 1) (acc.flatMap atCells ++ atCells a)) :
    OLoc g s p out w q b nm em v' (acc ++ [a]) (W1.setCell ⟨b, 2, none⟩ v') := by
  have hne : some b ≠ av.ownBlock := fun e => own_ne h.ats h.box (by decide) e.symm
  have hbox : W1.heap[b]? = some (.cells #[.int .i64 1, .string nm, av, .bool em, .string ⟨#[]⟩, .int .i64 p] 30 (0, 0)) := (hgr.block b h.blt hne).trans h.box
  have hrd := h.rd.grown hgr (h.rd.row h.ats (by decide))
  have honly : Only g w W1 := ⟨hgr.os.trans h.only.os, hgr.tape.trans h.only.tape, hgr.output.trans h.only.output, Nat.le_trans h.only.size hgr.size, fun i hi hg =>
    (hgr.block i (Nat.lt_of_lt_of_le hi h.only.size) (fun e => by have := (World.ownsRow.lt h.ats i e.symm).1; omega)).trans (h.only.block i hi hg)⟩
  refine ⟨honly.trans_set h.le _, hrd.set_other h.ne _, h.lt, h.le, heap_set _ _ 2 _ _ _ _ hbox, ?_⟩
  have := World.ownsRow.kept hown ((Only.refl b W1).set 2 v') (.inr (own_ne hown hbox (by decide)))
  unfold AtsAt
  rw [List.length_append, List.flatMap_append]
  simpa using this
theorem OLoc.start {nv : ByteArray} (ho : Only g w W) (hr : Rd W g s q p out) (hlt : g < w.heap.size) : OLoc g s p out w q W.heap.size nv false (.slice none 0 0) [] (W.alloc (.cells #[.int .i64 1, .string nv, .slice none 0 0, .bool false, .string ⟨#[]⟩, .int .i64 p] 30)) :=
  ⟨ho.alloc _, hr.alloc _, hlt, ho.size, heap_alloc_new _ _, AtsAt.nil _ _⟩
end

set_option maxHeartbeats 8000000 in
set_option maxRecDepth 100000 in
theorem opening_noname (s : ByteArray) (g p : Nat) (out : Value) (w : World) (hr : Rd w g s p p out) (hs : s.size ≤ 65536) (hp : p + 1 ≤ s.size) (hq : nm (s.size - (p + 1) + 1) true s (p + 1) = p + 1) :
    Calls Tryd.prog 21 #[.pointer (some ⟨g, 0, none⟩)] w fun e w' => e = pan (Sp.stop p (p + 1) ((L s).drop (p + 1))) ∧ Only g w w' := by
  have h1 := hr.c1
  have hf1 := hr.fz 1
  have hglt := hr.lt
  have HQ := Lib.hid hq
  clear hq
  have HR1 : Hid (Only g w (w.setCell ⟨g, 1, none⟩ (.int .i64 ((p : Int) + 1))) ∧ Rd (w.setCell ⟨g, 1, none⟩ (.int .i64 ((p : Int) + 1))) g s (p + 1) p out) := ⟨(Only.refl g w).set 1 _, hr.set1 (p + 1)⟩
  have h2 := hr.c2
  go_enter Tryd.func21, Tryd.ntmps21
  go_wp2_with fail
  go_region_dies
  all_goals
    refine (name_none s g (p + 1) p out _ ?_ (by omega) hp HQ.out).mono ?_
    · first | exact HR1.out.2 | exact HR1.out.2.alloc _
    rintro e w1 ⟨he, hb⟩
    unfold pan at he
    subst he
    go_wp2_with fail
    refine ⟨rfl, rfl, ?_⟩
    first | exact HR1.out.1.drew.below hb | exact (HR1.out.1.alloc _).drew.below hb
end Go.Proofs.YtokdclmikllepaaDoor
