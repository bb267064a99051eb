import Derived.Test.YtokdclmikllepaaGreatDoorKt24
import Derived.Test.YtokdclmikllepaaGreatDoorKt23
import Derived.Shelf.Strings.SlTrimAscii
namespace Go.Proofs.YtokdclmikllepaaGreatDoor
open Go.RowKit Go.Maps
set_option linter.unusedVariables false
set_option linter.unusedSimpArgs false

/-- The builder at block g. -/
def Bu (w : World) (g : Nat) (outv openv : Value) : Prop := w.heap[g]? = some (.cells #[outv, openv] 108 (0, 0))
/-- The open elements' places. -/
def OpAt (B : Nat) (w : World) (v : Value) (l : List Nat) : Prop := w.ownsRow B 3 1 v l.length (l.map fun i : Nat => .int .i64 (i : Int))
section
variable {w w' : World} {g : Nat} {o p : Value}
theorem Bu.c0 (h : Bu w g o p) : w.cell? ⟨g, 0, none⟩ = some o := cell_of_row w g 0 _ _ _ h
theorem Bu.c1 (h : Bu w g o p) : w.cell? ⟨g, 1, none⟩ = some p := cell_of_row w g 1 _ _ _ h
theorem Bu.fz (h : Bu w g o p) (i : Nat) : w.frozen? ⟨g, i, none⟩ = false := by
  have h2 : w.heap[g]? = _ := h
  simp [World.frozen?, h2]
theorem Bu.lt (h : Bu w g o p) : g < w.heap.size := (Array.getElem?_eq_some_iff.1 h).1
theorem Bu.set0 (h : Bu w g o p) (x : Value) : Bu (w.setCell ⟨g, 0, none⟩ x) g x p := heap_set w g 0 _ _ _ _ h
theorem Bu.set1 (h : Bu w g o p) (x : Value) : Bu (w.setCell ⟨g, 1, none⟩ x) g o x := heap_set w g 1 _ _ _ _ h
theorem Bu.kept (h : Bu w g o p) (hh : w'.heap[g]? = w.heap[g]?) : Bu w' g o p := hh.trans h
theorem Bu.below (h : Bu w g o p) (hb : Below w.heap.size w w') : Bu w' g o p := h.kept (hb.block g h.lt)
theorem Bu.alloc (h : Bu w g o p) (x : Obj) : Bu (w.alloc x) g o p := h.below ((Below.refl _ _).alloc (Nat.le_refl _) x)
theorem Bu.drew (h : Bu w g o p) : Bu w.drew g o p := h
theorem Bu.drewN (h : Bu w g o p) (n : Nat) : Bu (w.drewN n) g o p := h.kept rfl
theorem Bu.grown {row : Option Nat} (h : Bu w g o p) (hg : w.grownBy w' row) (hne : row ≠ some g) : Bu w' g o p := h.kept (hg.block g h.lt (fun e => hne e.symm))
end

set_option maxHeartbeats 2000000 in
set_option maxRecDepth 100000 in
theorem up_calls (B g : Nat) (o p : Value) (l : List Nat) (w : World) (hb : Bu w g o p) (hp : OpAt B w p l) (hl : l.length < 100) :
    Calls Tryz.prog 73 #[.pointer (some ⟨g, 0, none⟩)] w fun e w' => e = .returned (.int .i64 (Sp.upOf l)) ∧ ∃ m, w' = w.drewN m := by
  have h1 := hb.c1
  by_cases h0 : l = []
  · subst h0
    obtain ⟨a, c, rfl⟩ : ∃ a c, p = .slice a 0 c := by
      rcases hp.2 with ⟨rfl, _⟩ | ⟨q, cap, cur, rfl, _⟩
      · exact ⟨_, _, rfl⟩
      · exact ⟨_, _, rfl⟩
    go_enter Tryz.func73, Tryz.ntmps73
    go_wp2_with fail
    go_ret
    exact ⟨rfl, 0, rfl⟩
  · have hlen : 0 < l.length := List.length_pos_iff.2 h0
    obtain ⟨q, cap, rfl, hq1, hq2, hq3⟩ := ownsRow_cells hp hlen
    obtain ⟨i, hi⟩ : ∃ i, l[l.length - 1]? = some i := ⟨_, List.getElem?_eq_getElem (by omega)⟩
    have hc := hq3 (l.length - 1) (.int .i64 (i : Int)) (by rw [List.getElem?_map, hi]; rfl)
    have hu : Sp.upOf l = (i : Int) := by
      unfold Sp.upOf
      rw [List.getLast?_eq_getElem?, hi]
    rw [hu]
    obtain ⟨n, hn⟩ : ∃ n, l.length = n + 1 := ⟨l.length - 1, by omega⟩
    rw [hn] at h1 hc hl
    simp only [Nat.add_sub_cancel] at hc
    have hnz : (((n + 1 : Nat) : Int) == 0) = false := by rw [beq_eq_false_iff_ne]; omega
    have b0 : (0 : Int) ≤ (n : Int) := by omega
    have b1 : (n : Int) < ((n + 1 : Nat) : Int) := by omega
    clear hq3 hi hu hn hlen
    go_enter Tryz.func73, Tryz.ntmps73
    go_wp2_with fail
    go_quiet (fail)
    go_wp2_with fail
    go_ret
    exact ⟨rfl, _, rfl⟩

theorem str_ne {x y : ByteArray} (h : ¬ x = y) : (x.toList == y.toList) = false := by
  rw [beq_eq_false_iff_ne, toList_L, toList_L]
  intro e
  exact h (by rw [← bs_L x, ← bs_L y, e])
theorem upOf_snoc (op : List Nat) (i : Nat) : Sp.upOf (op ++ [i]) = (i : Int) := by unfold Sp.upOf; rw [List.getLast?_concat]
/-- The builder with its elements and places; what the elements' attributes lie in was there at W1. -/
def BdAt (B0 : Nat) (W1 : World) (g : Nat) (b : Sp.Bd) (w : World) : Prop :=
  ∃ (outv openv : Value) (ps : List (Sp.EE × Value)), Bu w g outv openv ∧ OpAt W1.heap.size w openv b.2 ∧ ps.map Prod.fst = b.1 ∧ w.ownsRow W1.heap.size 53 5 outv ps.length (ps.flatMap fun x => eeCells x.1 x.2) ∧
    (∀ x ∈ ps, EasAt B0 W1 x.2 x.1.attrs) ∧ Below W1.heap.size W1 w ∧ W1.heap.size ≤ g
theorem own_below {w w' : World} {B n size : Nat} {e : TypeId} {v : Value} {xs : List Value} (h : w.ownsRow B e size v n xs) (hb : Below w.heap.size w w') : w'.ownsRow B e size v n xs := by
  refine World.ownsRow.kept h (row := none) ⟨hb.os, hb.tape, hb.output, hb.size, fun i hi _ => hb.block i hi⟩ ?_
  cases hv : v.ownBlock <;> simp
theorem own_set {w : World} {B n size g i : Nat} {e t : TypeId} {v u : Value} {xs : List Value} {cs : Array Value} {fz : Nat × Nat} (h : w.ownsRow B e size v n xs) (hg : w.heap[g]? = some (.cells cs t fz)) (hne : e ≠ t) : (w.setCell ⟨g, i, none⟩ u).ownsRow B e size v n xs :=
  h.kept ((Only.refl g w).set i u) (.inr (own_ne h hg hne))
theorem BdAt.below {B0 : Nat} {W1 : World} {g : Nat} {b : Sp.Bd} {w w' : World} (h : BdAt B0 W1 g b w) (hb : Below w.heap.size w w') : BdAt B0 W1 g b w' := by
  obtain ⟨outv, openv, ps, h1, h2, h3, h4, h5, h6, h7⟩ := h
  exact ⟨outv, openv, ps, h1.below hb, own_below h2 hb, h3, own_below h4 hb, h5, h6.trans (hb.mono (Nat.le_trans h6.size (Nat.le_refl _))), h7⟩
theorem OpAt.pop {B : Nat} {w : World} {p n cap i : Nat} {l : List Nat} (h : OpAt B w (.slice (some ⟨p, 0, none⟩) (n + 1) cap) (l ++ [i])) (hl : l.length = n) : OpAt B w (.slice (some ⟨p, 0, none⟩) n cap) l := by
  unfold OpAt at h ⊢
  refine ⟨by simp, .inr ?_⟩
  rcases h.2 with ⟨h, _⟩ | ⟨q, cap', cur, hv, hB, hh, hn, hc, hs, ht⟩
  · cases h
  · injection hv with hv1 hv2 hv3
    injection hv1 with hv1; injection hv1 with hv1
    subst hv1 hv3
    refine ⟨p, cap, cur, by rw [hl], hB, hh, by simp at hn; omega, hc, hs, ?_⟩
    have := congrArg (List.take (l.length * 1)) ht
    rw [List.take_take] at this
    simp only [List.length_append, List.length_singleton, List.map_append, List.map_singleton] at this
    rw [Nat.min_eq_left (by omega)] at this
    rw [this, List.take_left' (by simp)]
theorem BdAt.popped {B0 : Nat} {W1 : World} {g p n cap i : Nat} {E : List Sp.EE} {op : List Nat} {w w2 : World} {outv : Value} {ps : List (Sp.EE × Value)} (h1 : Bu w g outv (.slice (some ⟨p, 0, none⟩) (n + 1) cap)) (h2 : OpAt W1.heap.size w (.slice (some ⟨p, 0, none⟩) (n + 1) cap) (op ++ [i])) (hl : op.length = n)
    (h3 : ps.map Prod.fst = E) (h4 : w.ownsRow W1.heap.size 53 5 outv ps.length (ps.flatMap fun x => eeCells x.1 x.2)) (h5 : ∀ x ∈ ps, EasAt B0 W1 x.2 x.1.attrs) (h6 : Below W1.heap.size W1 w) (h7 : W1.heap.size ≤ g) (hb : Below w.heap.size w w2) :
    BdAt B0 W1 g (E, op) (w2.setCell ⟨g, 1, none⟩ (.slice (some ⟨p, 0, none⟩) n cap)) := by
  have k1 := h1.below hb
  refine ⟨outv, _, ps, k1.set1 _, own_set (own_below (h2.pop hl) hb) k1 (by decide), h3, own_set (own_below h4 hb) k1 (by decide), h5, ?_, h7⟩
  exact (h6.trans (hb.mono h6.size)).setCell h7 _
/-- A mark as a value. -/
def mkV (m : Sp.Mk) (av : Value) : Value := .agg #[.int .i64 m.kind, .string ⟨m.name.toArray⟩, av, .bool m.empty, .string ⟨m.text.toArray⟩, .int .i64 m.at_]
/-- How a step of the builder ends. -/
def StepEnd (B0 : Nat) (W1 : World) (g : Nat) (R : Except Sp.Flt Sp.Bd) (e : Ending) (w' : World) : Prop :=
  match R with
  | .error f => e = .returned (.tuple #[.int .i64 f.1, .int .i64 f.2]) ∧ Below W1.heap.size W1 w'
  | .ok b => e = .returned (.tuple #[.int .i64 0, .int .i64 0]) ∧ BdAt B0 W1 g b w'

set_option maxHeartbeats 4000000 in
set_option maxRecDepth 100000 in
theorem end_calls (B0 : Nat) (W1 : World) (g : Nat) (b : Sp.Bd) (m : Sp.Mk) (av : Value) (w : World) (hb : BdAt B0 W1 g b w) (h1 : b.1.length ≤ 4096) (h2 : b.2.length ≤ 16) (hop : ∀ k ∈ b.2, k < b.1.length) (hav : ∃ x y z, av = .slice x y z) :
    Calls Tryz.prog 71 #[.pointer (some ⟨g, 0, none⟩), mkV m av] w (StepEnd B0 W1 g (Sp.endB b m)) := by
  obtain ⟨E, op⟩ := b
  obtain ⟨outv, openv, ps, hbu, hopa, hps, hown, hat, hbel, hg⟩ := hb
  simp only at h1 h2 hop hopa hps
  obtain ⟨sx, sy, sz, rfl⟩ := hav
  unfold mkV
  obtain ⟨nm, hnm⟩ : ∃ s : ByteArray, (⟨m.name.toArray⟩ : ByteArray) = s := ⟨_, rfl⟩
  obtain ⟨tx, htx⟩ : ∃ s : ByteArray, (⟨m.text.toArray⟩ : ByteArray) = s := ⟨_, rfl⟩
  obtain ⟨kd, hkd⟩ : ∃ s : Nat, m.kind = s := ⟨_, rfl⟩
  obtain ⟨pl, hpl⟩ : ∃ s : Nat, m.at_ = s := ⟨_, rfl⟩
  obtain ⟨em, hem⟩ : ∃ s : Bool, m.empty = s := ⟨_, rfl⟩
  rw [hnm, htx, hkd, hpl, hem]
  by_cases h0 : op = []
  · subst h0
    have hR : Sp.endB (E, []) m = .error (pl, 91) := by rw [← hpl]; rfl
    rw [hR]
    have hbu1 := hbu.alloc (.cells #[.int .i64 kd, .string nm, .slice sx sy sz, .bool em, .string tx, .int .i64 pl] 40)
    have hop1 := hopa.alloc (.cells #[.int .i64 kd, .string nm, .slice sx sy sz, .bool em, .string tx, .int .i64 pl] 40)
    have HBL := Lib.hid hbel
    have hup : Sp.upOf [] = -1 := rfl
    clear hR hop h1 h2 hnm htx hkd hpl hem hown hat hps hbel hbu hopa
    go_enter Tryz.func71, Tryz.ntmps71
    go_wp2_with (go_at_call 73; refine (up_calls _ g outv openv [] _ hbu1 hop1 (by decide)).mono ?_; rw [hup]; rintro e w' ⟨rfl, q, rfl⟩)
    go_quiet (fail)
    go_wp2_with fail
    go_ret2
    exact ⟨rfl, (((HBL.out.trans ((Below.refl _ _).mono HBL.out.size)).alloc HBL.out.size _).trans (below_drewN (Below.refl _ _) _))⟩
  · obtain ⟨op, i, rfl⟩ : ∃ o k, op = o ++ [k] := by
      rcases List.eq_nil_or_concat op with h | ⟨o, k, h⟩
      · exact absurd h h0
      · exact ⟨o, k, by simpa using h⟩
    have hi : i < E.length := hop i (by simp)
    obtain ⟨x, hx⟩ : ∃ x, ps[i]? = some x := ⟨_, List.getElem?_eq_getElem (by rw [← hps, List.length_map] at hi; exact hi)⟩
    have hpl' : ps.length = E.length := by rw [← hps, List.length_map]
    have hEx : E[i]? = some x.1 := by rw [← hps, List.getElem?_map, hx]; rfl
    obtain ⟨n, hn⟩ : ∃ n, op.length = n := ⟨_, rfl⟩
    obtain ⟨q, qc, rfl, hq1, hq2, hq3⟩ := ownsRow_cells hown (by omega)
    obtain ⟨p, pc, rfl, hp1, hp2, hp3⟩ := ownsRow_cells hopa (by simp)
    have hcx := hq3 (i * 5) (.string ⟨x.1.name.toArray⟩) (by
      rw [show i * 5 = i * 5 + 0 from rfl, flat_get (fun x : Sp.EE × Value => eeCells x.1 x.2) 5 (fun _ => rfl) ps i 0 (by omega), hx]; rfl)
    have hup : Sp.upOf (op ++ [i]) = (i : Int) := by unfold Sp.upOf; rw [List.getLast?_concat]
    have hlen : (op ++ [i]).length = n + 1 := by simp [hn]
    rw [hlen] at hopa hbu h2
    rw [hpl'] at hbu hown
    obtain ⟨xn, hxn⟩ : ∃ s : ByteArray, (⟨x.1.name.toArray⟩ : ByteArray) = s := ⟨_, rfl⟩
    rw [hxn] at hcx
    have HB := Lib.hid (show Bu w g (.slice (some ⟨q, 0, none⟩) E.length qc) (.slice (some ⟨p, 0, none⟩) (n + 1) pc) from hbu)
    have hb0 : (0 : Int) ≤ (i : Int) := by omega
    have hb1 : (i : Int) < (E.length : Int) := by omega
    have hb2 : (0 : Int) ≤ (n : Int) := by omega
    have hb3 : decide ((i : Int) < 0) = false := by rw [decide_eq_false_iff_not]; omega
    have hEl : E.length ≤ 4096 := h1
    have hn16 : n + 1 ≤ 16 := h2
    have hpc : n + 1 ≤ pc := by
      rcases hopa.2 with ⟨h, _⟩ | ⟨_, cap', cur, hv, _, _, hle, _⟩
      · cases h
      · injection hv with _ _ hv; omega
    have hpcI : (n : Int) ≤ (pc : Int) := by omega
    have hbu1 := HB.out.alloc (.cells #[.int .i64 kd, .string nm, .slice sx sy sz, .bool em, .string tx, .int .i64 pl] 40)
    have hop1 := hopa.alloc (.cells #[.int .i64 kd, .string nm, .slice sx sy sz, .bool em, .string tx, .int .i64 pl] 40)
    have HOP := Lib.hid hopa
    have HOP1 := Lib.hid hop1
    have HOWN := Lib.hid hown
    have HBL := Lib.hid hbel
    have HAT := Lib.hid hat
    have HPS := Lib.hid hps
    have HHL := Lib.hid hlen
    have HNL := Lib.hid hn
    have HPL := Lib.hid hpl'
    by_cases hs : xn = nm
    · have hR : Sp.endB (E, op ++ [i]) m = .ok (E, op) := by
        unfold Sp.endB
        simp only [List.getLast?_concat, hEx, Option.map_some, List.dropLast_concat]
        rw [if_pos]
        rw [← hxn, ← hnm] at hs
        injection hs with hs
        have := congrArg Array.toList hs
        simpa using this
      rw [hR]
      subst hs
      have HBU1 := Lib.hid hbu1
      clear hR hop h1 h2 hnm htx hkd hpl hem hown hat hps hbel hbu hopa hx hpl' hEx hn hq3 hp3 hup hlen hxn hop1 h0 hi hbu1
      go_enter Tryz.func71, Tryz.ntmps71
      go_wp2_with (go_at_call 73; refine (up_calls _ g _ _ (op ++ [i]) _ HBU1.out HOP1.out (by rw [HHL.out]; omega)).mono ?_; rw [upOf_snoc]; rintro e w' ⟨rfl, qq, rfl⟩)
      have c0 := fun o n => ((HB.out.alloc o).drewN n).c0
      have c1 := fun o n => ((HB.out.alloc o).drewN n).c1
      go_quiet (fail)
      go_wp2_with fail
      have hf1 := fun o n => ((HB.out.alloc o).drewN n).fz 1
      have hwn : IntKind.i64.wrap (n : Int) = n := IntWalk.i64_in _ (by omega)
      have hwt : (n : Int).toNat = n := by simp
      go_region_law (fail)
      all_goals clear hwn hwt
      all_goals go_wp2_with fail
      all_goals
        go_ret2
        exact ⟨rfl, BdAt.popped HB.out HOP.out HNL.out HPS.out (by rw [HPL.out]; exact HOWN.out) HAT.out HBL.out hg (below_drewN ((Below.refl _ _).alloc (Nat.le_refl _) _) _)⟩
    · have hR : Sp.endB (E, op ++ [i]) m = .error (pl, 91) := by
        unfold Sp.endB
        simp only [List.getLast?_concat, hEx, Option.map_some, List.dropLast_concat]
        rw [if_neg, ← hpl]
        intro e
        injection e with e
        apply hs
        rw [← hxn, ← hnm, e]
      rw [hR]
      have HBU1 := Lib.hid hbu1
      have hse := str_ne hs
      clear hR hop h1 h2 hnm htx hkd hpl hem hown hat hps hbel hbu hopa hx hpl' hEx hn hq3 hp3 hup hlen hxn hop1 h0 hi hbu1 hs
      go_enter Tryz.func71, Tryz.ntmps71
      go_wp2_with (go_at_call 73; refine (up_calls _ g _ _ (op ++ [i]) _ HBU1.out HOP1.out (by rw [HHL.out]; omega)).mono ?_; rw [upOf_snoc]; rintro e w' ⟨rfl, qq, rfl⟩)
      have c0 := fun o n => ((HB.out.alloc o).drewN n).c0
      go_quiet (fail)
      go_wp2_with fail
      go_ret2
      exact ⟨rfl, below_drewN (HBL.out.alloc HBL.out.size _) _⟩
end Go.Proofs.YtokdclmikllepaaGreatDoor
namespace Go.Proofs.YtokdclmikllepaaGreatDoor
open Go.RowKit Go.Maps
set_option linter.unusedVariables false
set_option linter.unusedSimpArgs false

theorem modify_set (E : List Sp.EE) (i : Nat) (x : Sp.EE) (f : Sp.EE → Sp.EE) (h : E[i]? = some x) : E.modify i f = E.set i (f x) := by
  apply List.ext_getElem?
  intro k
  rw [List.getElem?_modify, List.getElem?_set]
  have hi : i < E.length := by
    rcases Nat.lt_or_ge i E.length with h1 | h1
    · exact h1
    · rw [List.getElem?_eq_none h1] at h; cases h
  by_cases hk : i = k
  · subst hk
    rw [h]
    simp [hi]
  · simp [hk]
theorem BdAt.texted {B0 : Nat} {W1 : World} {g q qc i : Nat} {E : List Sp.EE} {op : List Nat} {w w2 : World} {openv : Value} {ps : List (Sp.EE × Value)} {x : Sp.EE × Value} (t : List UInt8) (h1 : Bu w g (.slice (some ⟨q, 0, none⟩) ps.length qc) openv) (h2 : OpAt W1.heap.size w openv op)
    (h3 : ps.map Prod.fst = E) (h4 : w.ownsRow W1.heap.size 53 5 (.slice (some ⟨q, 0, none⟩) ps.length qc) ps.length (ps.flatMap fun x => eeCells x.1 x.2)) (h5 : ∀ x ∈ ps, EasAt B0 W1 x.2 x.1.attrs) (h6 : Below W1.heap.size W1 w) (h7 : W1.heap.size ≤ g) (hq : W1.heap.size ≤ q) (hx : ps[i]? = some x) (hb : Below w.heap.size w w2) :
    BdAt B0 W1 g (E.modify i (Sp.EE.more t), op) (w2.setCell ⟨q, i * 5 + 2, none⟩ (.string ⟨(x.1.text ++ t).toArray⟩)) := by
  have k1 := h1.below hb
  have k4 := own_below h4 hb
  obtain ⟨cs, hcs⟩ : ∃ cs, w2.heap[q]? = some (.cells cs 53 (0, 0)) := by
    rcases k4.2 with ⟨h, _⟩ | ⟨q', cap', cur, hv, _, hh, _⟩
    · cases h
    · injection hv with hv; injection hv with hv; injection hv with hv
      subst hv
      exact ⟨_, hh⟩
  have hgq : g ≠ q := fun e => by
    subst e
    have h : w2.heap[g]? = _ := k1
    rw [hcs] at h
    injection h with h
    injection h with _ h
    exact absurd h (by decide)
  have hE : E[i]? = some x.1 := by rw [← h3, List.getElem?_map, hx]; rfl
  refine ⟨_, openv, ps.set i (Sp.EE.more t x.1, x.2), k1.kept (Below.heap_setCell _ _ _ _ hgq), own_set (own_below h2 hb) hcs (by decide), ?_, ?_, ?_, ?_, h7⟩
  · rw [List.map_set, h3, modify_set E i x.1 _ hE]
  · have := ownsRow_set k4 rfl (i * 5 + 2) (.string ⟨(x.1.text ++ t).toArray⟩)
    rw [List.length_set, flat_set (fun x : Sp.EE × Value => eeCells x.1 x.2) 5 (fun _ => rfl) (.string ⟨(x.1.text ++ t).toArray⟩) 2 (by omega) ps i x (Sp.EE.more t x.1, x.2) hx rfl]
    exact this
  · intro y hy
    rcases List.mem_or_eq_of_mem_set hy with hy | rfl
    · exact h5 y hy
    · exact h5 x (List.mem_of_getElem? hx)
  · exact (h6.trans (hb.mono h6.size)).setCell hq _

theorem trim_nil (l : List UInt8) : Lib.trimS l [32, 9, 13, 10] = [] ↔ l.all Sp.white = true := by
  have hw : ∀ c : UInt8, ([32, 9, 13, 10] : List UInt8).contains c = Sp.white c := by
    intro c
    have : ∀ n, n < 256 → ([32, 9, 13, 10] : List UInt8).contains (UInt8.ofNat n) = Sp.white (UInt8.ofNat n) := by decide +kernel
    have h := this c.toNat (UInt8.toNat_lt c)
    rwa [UInt8.ofNat_toNat] at h
  have dn : ∀ (l : List UInt8), l.dropWhile (([32, 9, 13, 10] : List UInt8).contains ·) = [] ↔ l.all Sp.white = true := by
    intro l
    induction l with
    | nil => simp
    | cons c t ih =>
      rw [List.dropWhile_cons, hw c]
      cases hc : Sp.white c with
      | true => simp only [if_true]; rw [ih]; simp [hc]
      | false => simp [hc]
  unfold Lib.trimS Lib.trimLeftS Lib.trimRightS
  rw [dn]
  constructor
  · intro h
    rw [← dn]
    -- the last byte that stays is not white
    have h2 : l.reverse.dropWhile (([32, 9, 13, 10] : List UInt8).contains ·) = [] := by
      cases hd : l.reverse.dropWhile (([32, 9, 13, 10] : List UInt8).contains ·) with
      | nil => rfl
      | cons c t =>
        have h1 := List.head?_dropWhile_not (([32, 9, 13, 10] : List UInt8).contains ·) l.reverse
        rw [hd] at h1 h
        simp only [List.head?_cons] at h1
        rw [hw c] at h1
        rw [List.all_reverse] at h
        simp only [List.all_cons, Bool.and_eq_true] at h
        rw [h.1] at h1
        cases h1
    rw [dn, List.all_reverse] at h2
    rw [dn]; exact h2
  · intro h
    rw [List.all_reverse]
    have h2 := (dn l.reverse).2 (by rw [List.all_reverse]; exact h)
    rw [h2]; rfl
theorem trim_calls (s : ByteArray) (w : World) (hs : s.size ≤ 140737488351232) :
    Calls Tryz.prog 110 #[.string s, .string ⟨#[32, 9, 13, 10]⟩] w fun e w' => e = .returned (.string ⟨(Lib.trimS (L s) [32, 9, 13, 10]).toArray⟩) ∧ Below w.heap.size w w' :=
  Any.strings_Trim_laid Tryz.lays160 (by kernel_rfl) s ⟨#[32, 9, 13, 10]⟩ w (by omega) (by decide) (ascii_of_all (by decide))
end Go.Proofs.YtokdclmikllepaaGreatDoor
namespace Go.Proofs.YtokdclmikllepaaGreatDoor
open Go.RowKit Go.Maps
set_option linter.unusedVariables false
set_option linter.unusedSimpArgs false

theorem trim_is (s tr : ByteArray) (htr : (⟨(Lib.trimS (L s) [32, 9, 13, 10]).toArray⟩ : ByteArray) = tr) (w : World) (hs : s.size ≤ 140737488351232) :
    Calls Tryz.prog 110 #[.string s, .string ⟨#[32, 9, 13, 10]⟩] w fun e w' => e = .returned (.string tr) ∧ Below w.heap.size w w' := htr ▸ trim_calls s w hs
set_option maxHeartbeats 4000000 in
set_option maxRecDepth 100000 in
theorem btext_calls (B0 : Nat) (W1 : World) (g : Nat) (b : Sp.Bd) (m : Sp.Mk) (av : Value) (w : World) (hb : BdAt B0 W1 g b w) (h1 : b.1.length ≤ 4096) (h2 : b.2.length ≤ 16) (hop : ∀ k ∈ b.2, k < b.1.length) (hav : ∃ x y z, av = .slice x y z)
    (hm : m.text.length ≤ 1000000) (hx1 : ∀ x ∈ b.1, x.text.length ≤ 1000000000) :
    Calls Tryz.prog 72 #[.pointer (some ⟨g, 0, none⟩), mkV m av] w (StepEnd B0 W1 g (Sp.textB b m)) := by
  obtain ⟨E, op⟩ := b
  obtain ⟨outv, openv, ps, hbu, hopa, hps, hown, hat, hbel, hg⟩ := hb
  simp only at h1 h2 hop hopa hps hx1
  obtain ⟨sx, sy, sz, rfl⟩ := hav
  unfold mkV
  obtain ⟨nm, hnm⟩ : ∃ s : ByteArray, (⟨m.name.toArray⟩ : ByteArray) = s := ⟨_, rfl⟩
  obtain ⟨tx, htx⟩ : ∃ s : ByteArray, (⟨m.text.toArray⟩ : ByteArray) = s := ⟨_, rfl⟩
  obtain ⟨kd, hkd⟩ : ∃ s : Nat, m.kind = s := ⟨_, rfl⟩
  obtain ⟨pl, hpl⟩ : ∃ s : Nat, m.at_ = s := ⟨_, rfl⟩
  obtain ⟨em, hem⟩ : ∃ s : Bool, m.empty = s := ⟨_, rfl⟩
  have hLt : L tx = m.text := by rw [← htx]
  have htxs : tx.size ≤ 1000000 := by rw [← L_length, hLt]; exact hm
  rw [hnm, htx, hkd, hpl, hem]
  have hbu1 := hbu.alloc (.cells #[.int .i64 kd, .string nm, .slice sx sy sz, .bool em, .string tx, .int .i64 pl] 40)
  have hop1 := hopa.alloc (.cells #[.int .i64 kd, .string nm, .slice sx sy sz, .bool em, .string tx, .int .i64 pl] 40)
  by_cases h0 : op = []
  · subst h0
    obtain ⟨tr, htr⟩ : ∃ tr : ByteArray, (⟨(Lib.trimS (L tx) [32, 9, 13, 10]).toArray⟩ : ByteArray) = tr := ⟨_, rfl⟩
    have hLr : L tr = Lib.trimS m.text [32, 9, 13, 10] := by rw [← htr, hLt]
    have HTR := Lib.hid htr
    have HBD : Hid (BdAt B0 W1 g (E, []) w) := ⟨outv, openv, ps, hbu, hopa, hps, hown, hat, hbel, hg⟩
    have HBL := Lib.hid hbel
    have hup : Sp.upOf [] = -1 := rfl
    by_cases hw : m.text.all Sp.white = true
    · have hR : Sp.textB (E, []) m = .ok (E, []) := by
        unfold Sp.textB; simp only [List.getLast?_nil]; rw [if_pos hw]
      rw [hR]
      have hte : tr.toList.isEmpty = true := by rw [toList_L, hLr, (trim_nil _).2 hw]; rfl
      clear hR hop h1 h2 hnm htx hkd hpl hem hown hat hps hbel hbu hopa hw htr hLr hLt hx1 hm
      go_enter Tryz.func72, Tryz.ntmps72
      go_wp2_with (first | (go_at_call 73; refine (up_calls _ g outv openv [] _ hbu1 hop1 (by decide)).mono ?_; rw [hup]; rintro e w' ⟨rfl, q, rfl⟩) | (go_at_call 110; refine (trim_is tx tr HTR.out _ (by omega)).mono ?_; rintro e w2 ⟨rfl, hb2⟩; have HB2 := Lib.hid hb2; clear hb2))
      go_ret2
      exact ⟨rfl, HBD.out.below ((below_drewN ((Below.refl _ _).alloc (Nat.le_refl _) _) _).trans (HB2.out.mono (by simp)))⟩
    · have hR : Sp.textB (E, []) m = .error (pl, 95) := by
        unfold Sp.textB; simp only [List.getLast?_nil]; rw [if_neg hw, hpl]
      rw [hR]
      have hte : tr.toList.isEmpty = false := by
        rw [toList_L, hLr]
        cases hh : Lib.trimS m.text [32, 9, 13, 10] with
        | nil => exact absurd ((trim_nil _).1 hh) hw
        | cons => rfl
      clear hR hop h1 h2 hnm htx hkd hpl hem hown hat hps hbel hbu hopa hw htr hLr hLt hx1 hm
      go_enter Tryz.func72, Tryz.ntmps72
      go_wp2_with (first | (go_at_call 73; refine (up_calls _ g outv openv [] _ hbu1 hop1 (by decide)).mono ?_; rw [hup]; rintro e w' ⟨rfl, q, rfl⟩) | (go_at_call 110; refine (trim_is tx tr HTR.out _ (by omega)).mono ?_; rintro e w2 ⟨rfl, hb2⟩; have c5 : w2.cell? ⟨w.heap.size, 5, none⟩ = some (.int .i64 pl) := (World.cell?_of_block (hb2.block _ (by simp))).trans (cell_of_row _ _ 5 _ _ _ (heap_alloc_new w _)); have HB2 := Lib.hid hb2; clear hb2))
      go_ret2
      exact ⟨rfl, HBL.out.trans (((below_drewN ((Below.refl _ _).alloc (Nat.le_refl _) _) _).trans (HB2.out.mono (by simp))).mono HBL.out.size)⟩
  · obtain ⟨op, i, rfl⟩ : ∃ o k, op = o ++ [k] := by
      rcases List.eq_nil_or_concat op with h | ⟨o, k, h⟩
      · exact absurd h h0
      · exact ⟨o, k, by simpa using h⟩
    have hi : i < E.length := hop i (by simp)
    obtain ⟨x, hx⟩ : ∃ x, ps[i]? = some x := ⟨_, List.getElem?_eq_getElem (by rw [← hps, List.length_map] at hi; exact hi)⟩
    have hpl' : ps.length = E.length := by rw [← hps, List.length_map]
    have hEx : E[i]? = some x.1 := by rw [← hps, List.getElem?_map, hx]; rfl
    have hxl := hx1 x.1 (List.mem_of_getElem? hEx)
    obtain ⟨q, qc, rfl, hq1, hq2, hq3⟩ := ownsRow_cells hown (by omega)
    have hcx := hq3 (i * 5 + 2) (.string ⟨x.1.text.toArray⟩) (by
      rw [flat_get (fun x : Sp.EE × Value => eeCells x.1 x.2) 5 (fun _ => rfl) ps i 2 (by omega), hx]; rfl)
    have hfx : w.frozen? ⟨q, i * 5 + 2, none⟩ = false := by
      rcases hown.2 with ⟨h, _⟩ | ⟨q', cap', cur, hv, _, hh, _⟩
      · cases h
      · injection hv with hv; injection hv with hv; injection hv with hv
        subst hv
        simp [World.frozen?, hh]
    obtain ⟨n, hn⟩ : ∃ n, (op ++ [i]).length = n := ⟨_, rfl⟩
    obtain ⟨xt, hxt⟩ : ∃ s : ByteArray, (⟨x.1.text.toArray⟩ : ByteArray) = s := ⟨_, rfl⟩
    rw [hxt] at hcx
    have hxts : xt.size ≤ 1000000000 := by rw [← hxt]; simpa [ByteArray.size] using hxl
    have hR : Sp.textB (E, op ++ [i]) m = .ok (E.modify i (Sp.EE.more m.text), op ++ [i]) := by
      unfold Sp.textB; simp only [List.getLast?_concat]
    rw [hR]
    have hst : xt ++ tx = ⟨(x.1.text ++ m.text).toArray⟩ := by
      rw [← hxt, ← htx]; apply ByteArray.ext; simp
    have hpost := fun w2 (hb2 : Below w.heap.size w w2) => BdAt.texted m.text hbu hopa hps hown hat hbel hg hq1 hx hb2
    rw [← hst] at hpost
    have HPOST := Lib.hid hpost
    have hb0 : (0 : Int) ≤ (i : Int) := by omega
    have hb1 : (i : Int) < (E.length : Int) := by omega
    have hEl : E.length ≤ 4096 := h1
    rw [hpl'] at hbu
    have HBU := Lib.hid hbu
    have HBU1 := Lib.hid hbu1
    have HOP1 := Lib.hid hop1
    have HL16 := Lib.hid (show (op ++ [i]).length < 100 by omega)
    have HCX := Lib.hid hcx
    have HFX := Lib.hid hfx
    have hqlt := hq2
    clear hR hop h1 h2 hnm htx hkd hpl hem hown hat hps hbel hbu hopa hx hpl' hEx hn hq3 hxt hop1 h0 hi hbu1 hpost hst hcx hfx hxl hx1 hm hLt
    go_enter Tryz.func72, Tryz.ntmps72
    go_wp2_with (go_at_call 73; refine (up_calls _ g _ _ (op ++ [i]) _ HBU1.out HOP1.out HL16.out).mono ?_; rw [upOf_snoc]; rintro e w' ⟨rfl, qq, rfl⟩)
    have c0 := fun o n => ((HBU.out.alloc o).drewN n).c0
    have cx : ∀ o n, ((w.alloc o).drewN n).cell? ⟨q, i * 5 + 2, none⟩ = some (.string xt) := fun o n => by
      rw [World.cell?_drewN, World.cell?_of_block (heap_alloc_old w o hqlt)]; exact HCX.out
    have fx : ∀ o n, ((w.alloc o).drewN n).frozen? ⟨q, i * 5 + 2, none⟩ = false := fun o n => by
      rw [World.frozen?_drewN]
      have h := HFX.out
      unfold World.frozen? at h ⊢
      rw [heap_alloc_old w o hqlt]; exact h
    have hcat : ¬ (9223372036854775807 < xt.size + tx.size) := by omega
    go_region_law (fail)
    all_goals go_wp2_with fail
    all_goals
      go_ret2
      exact ⟨rfl, HPOST.out _ (below_drewN ((Below.refl _ _).alloc (Nat.le_refl _) _) _)⟩
end Go.Proofs.YtokdclmikllepaaGreatDoor
namespace Go.Proofs.YtokdclmikllepaaGreatDoor
open Go.RowKit Go.Maps
set_option linter.unusedVariables false
set_option linter.unusedSimpArgs false

theorem own_len {w : World} {B n size : Nat} {e : TypeId} {v : Value} {xs : List Value} (h : w.ownsRow B e size v n xs) : ∃ a c, v = .slice a n c := by
  rcases h.2 with ⟨rfl, rfl⟩ | ⟨g, cap, cur, rfl, _⟩
  · exact ⟨_, _, rfl⟩
  · exact ⟨_, _, rfl⟩
theorem place_at (l : List Sp.At) (i : Nat) (x : Sp.EA) (h : (l.map Sp.At.ea)[i]? = some x) : x.at_ = (Sp.placeOf l i : Int) := by
  rw [List.getElem?_map] at h
  obtain ⟨a, ha, rfl⟩ := Option.map_eq_some_iff.1 h
  unfold Sp.placeOf
  rw [List.getD_eq_getElem?_getD, List.getElem?_map, ha]
  rfl
theorem twiceN_lt : ∀ (l : List Sp.EA) (seen : List (List UInt8)) (i j : Nat), Sp.twiceN seen i l = some j → j < i + l.length := by
  intro l
  induction l with
  | nil => intro seen i j h; cases h
  | cons a t ih =>
    intro seen i j h
    rw [twiceN_cons] at h
    split at h
    · injection h with h; rw [List.length_cons]; omega
    · have := ih _ _ _ h; rw [List.length_cons]; omega

theorem twice_is (w : World) (v : Value) (l : List Sp.EA) (h : AtsR w v l) (hl : l.length ≤ 100000) (hn : ∀ a ∈ l, a.name.length ≤ 140737488351232) (R : Option Nat) (hR : Sp.twice l = R) (r : Int) (hr : twI R = r) :
    Calls Tryz.prog 109 #[v] w fun e w' => e = .returned (.int .i64 r) ∧ Below w.heap.size w w' := by
  have := twice_calls w v l h hl hn
  rw [hR, hr] at this
  exact this
set_option maxHeartbeats 8000000 in
set_option maxRecDepth 100000 in
theorem start_err (B0 : Nat) (W1 : World) (g : Nat) (b : Sp.Bd) (m : Sp.Mk) (av : Value) (w : World) (hb : BdAt B0 W1 g b w) (h1 : b.1.length ≤ 4096) (h2 : b.2.length ≤ 16) (hop : b.2 ≠ [] → b.1 ≠ [])
    (hav : EasAt B0 W1 av (m.attrs.map Sp.At.ea)) (hm : m.attrs.length ≤ 100000) (hnm : ∀ a ∈ m.attrs, a.name.length ≤ 100000) (f : Sp.Flt) (hf : Sp.startB b m = .error f) :
    Calls Tryz.prog 70 #[.pointer (some ⟨g, 0, none⟩), mkV m av] w (StepEnd B0 W1 g (.error f)) := by
  obtain ⟨E, op⟩ := b
  obtain ⟨outv, openv, ps, hbu, hopa, hps, hown, hat, hbel, hg⟩ := hb
  simp only at h1 h2 hop hopa hps
  have hpl' : ps.length = E.length := by rw [← hps, List.length_map]
  rw [hpl'] at hown
  obtain ⟨ea, ec, rfl⟩ := own_len hown
  obtain ⟨oa, oc, rfl⟩ := own_len hopa
  have HAR := Lib.hid (hav.toR.below hbel)
  obtain ⟨sx, sz, rfl⟩ := own_len hav
  unfold mkV
  obtain ⟨nm, hnm'⟩ : ∃ s : ByteArray, (⟨m.name.toArray⟩ : ByteArray) = s := ⟨_, rfl⟩
  obtain ⟨tx, htx⟩ : ∃ s : ByteArray, (⟨m.text.toArray⟩ : ByteArray) = s := ⟨_, rfl⟩
  obtain ⟨kd, hkd⟩ : ∃ s : Nat, m.kind = s := ⟨_, rfl⟩
  obtain ⟨pl, hpl⟩ : ∃ s : Nat, m.at_ = s := ⟨_, rfl⟩
  obtain ⟨em, hem⟩ : ∃ s : Bool, m.empty = s := ⟨_, rfl⟩
  obtain ⟨k, hk⟩ : ∃ k, E.length = k := ⟨_, rfl⟩
  obtain ⟨n, hn⟩ : ∃ n, op.length = n := ⟨_, rfl⟩
  obtain ⟨na, hna⟩ : ∃ n, (m.attrs.map Sp.At.ea).length = n := ⟨_, rfl⟩
  rw [hnm', htx, hkd, hpl, hem, hna]
  rw [hk] at h1 hbu
  rw [hn] at h2 hbu
  have HBL := Lib.hid hbel
  have c0 := fun o => (hbu.alloc o).c0
  have c1 := fun o => (hbu.alloc o).c1
  unfold Sp.startB at hf
  simp only at hf
  by_cases hc1 : op = [] ∧ E ≠ []
  · rw [if_pos hc1, hpl] at hf
    injection hf with hf
    subst hf
    obtain rfl : n = 0 := by rw [← hn, hc1.1]; rfl
    have hgt : decide (0 < k) = true := by
      have := List.length_pos_iff.2 hc1.2
      simp; omega
    clear hc1 hop hnm' htx hkd hpl hem hna hown hat hbel hopa hps hpl' hk hn hav hnm hm
    go_enter Tryz.func70, Tryz.ntmps70
    go_wp2_with fail
    go_ret2
    exact ⟨rfl, HBL.out.alloc HBL.out.size _⟩
  · rw [if_neg hc1] at hf
    have hfst : (((n : Int) == 0) = false) ∨ (((n : Int) == 0) = true ∧ decide (0 < k) = false) := by
      by_cases h0 : op = []
      · right
        have hE : E = [] := by
          rcases Classical.em (E = []) with h | h
          · exact h
          · exact absurd ⟨h0, h⟩ hc1
        subst hE
        subst h0
        simp at hn hk
        subst hn hk
        exact ⟨rfl, rfl⟩
      · left
        have := List.length_pos_iff.2 h0
        rw [beq_eq_false_iff_ne]; omega
    by_cases hc2 : 16 ≤ op.length
    · rw [if_pos hc2, hpl] at hf
      injection hf with hf
      subst hf
      rw [hn] at hc2
      have hge : decide ((16 : Int) ≤ (n : Int)) = true := by simp; omega
      have hz : ((n : Int) == 0) = false := by rw [beq_eq_false_iff_ne]; omega
      clear hc1 hop hnm' htx hkd hpl hem hna hown hat hbel hopa hps hpl' hk hn hav hnm hm hfst
      all_goals
        go_enter Tryz.func70, Tryz.ntmps70
        go_wp2_with fail
        go_ret2
        exact ⟨rfl, HBL.out.alloc HBL.out.size _⟩
    · rw [if_neg hc2] at hf
      have hlt : decide ((16 : Int) ≤ (n : Int)) = false := by simp; omega
      by_cases hc3 : 4096 ≤ E.length
      · rw [if_pos hc3, hpl] at hf
        injection hf with hf
        subst hf
        rw [hk] at hc3
        have hge : decide ((4096 : Int) ≤ (k : Int)) = true := by simp; omega
        have hz : ((n : Int) == 0) = false := by
          rw [beq_eq_false_iff_ne]
          intro h0
          refine hc1 ⟨List.eq_nil_of_length_eq_zero (by omega), fun e => ?_⟩
          rw [e] at hk
          simp at hk
          omega
        clear hc1 hop hnm' htx hkd hpl hem hna hown hat hbel hopa hps hpl' hk hn hav hnm hm hc2 hfst
        all_goals
          go_enter Tryz.func70, Tryz.ntmps70
          go_wp2_with fail
          go_ret2
          exact ⟨rfl, HBL.out.alloc HBL.out.size _⟩
      · rw [if_neg hc3] at hf
        have hlt3 : decide ((4096 : Int) ≤ (k : Int)) = false := by simp; omega
        cases htw : Sp.twice (m.attrs.map Sp.At.ea) with
        | none => rw [htw] at hf; cases hf
        | some j =>
          rw [htw] at hf
          injection hf with hf
          subst hf
          have hjl := twiceN_lt _ _ _ _ htw
          rw [Nat.zero_add, hna] at hjl
          obtain ⟨x, hx⟩ : ∃ x, (m.attrs.map Sp.At.ea)[j]? = some x := ⟨_, List.getElem?_eq_getElem (by omega)⟩
          have hxp := place_at _ _ _ hx
          obtain ⟨pj, hpj⟩ : ∃ pj, Sp.placeOf m.attrs j = pj := ⟨_, rfl⟩
          rw [hpj] at hxp ⊢
          have HT := Lib.hid htw
          have hnm2 : ∀ a ∈ m.attrs.map Sp.At.ea, a.name.length ≤ 140737488351232 := fun a ha => by
            obtain ⟨a', ha', rfl⟩ := List.mem_map.1 ha
            have := hnm a' ha'
            show a'.name.length ≤ _
            omega
          have HNM2 := Lib.hid hnm2
          have HNA := Lib.hid hna
          have HX := Lib.hid hx
          have HXP := Lib.hid hxp
          have hna2 : na ≤ 100000 := by rw [← hna, List.length_map]; exact hm
          have hj0 : decide ((0 : Int) ≤ (j : Int)) = true := by simp
          have hx0 : (0 : Int) ≤ (j : Int) := by omega
          have hx1 : (j : Int) < (na : Int) := by omega
          clear hc1 hop hnm' htx hkd hpl hem hna hown hat hbel hopa hps hpl' hk hn hav hnm hm hc2 hc3 htw hnm2 hx hxp hpj
          have HAR2 : Hid (AtsR (w.alloc (.cells #[.int .i64 kd, .string nm, .slice sx na sz, .bool em, .string tx, .int .i64 pl] 40)) (.slice sx na sz) (m.attrs.map Sp.At.ea)) := by
            have := HAR.out.below ((Below.refl _ _).alloc (Nat.le_refl _) (.cells #[.int .i64 kd, .string nm, .slice sx na sz, .bool em, .string tx, .int .i64 pl] 40))
            rw [HNA.out] at this; exact this
          have HNA2 : Hid ((m.attrs.map Sp.At.ea).length ≤ 100000) := by show _ ≤ _; rw [HNA.out]; exact hna2
          clear HAR
          rcases hfst with hz | ⟨hz, hz2⟩
          all_goals
            go_enter Tryz.func70, Tryz.ntmps70
            go_wp2_with fail
            refine (twice_is _ _ (m.attrs.map Sp.At.ea) HAR2.out HNA2.out HNM2.out (some j) HT.out (j : Int) rfl).mono ?_
            rintro e w2 ⟨rfl, hb2⟩
            have HB2 := Lib.hid hb2
            obtain ⟨ax, ac, hae, hac⟩ := HAR2.out.below HB2.out
            rw [HNA.out] at hae hac
            injection hae with hae1 hae2 hae3
            subst hae1 hae3
            obtain ⟨ga, oa', hga, hgl, hcell⟩ := hac (by omega)
            subst hga
            obtain ⟨-, -, y2⟩ := hcell j x HX.out
            rw [HXP.out] at y2
            have cb : ∀ i, w2.cell? ⟨w.heap.size, i, none⟩ = (w.alloc (.cells #[.int .i64 kd, .string nm, .slice (some ⟨ga, oa', none⟩) na sz, .bool em, .string tx, .int .i64 pl] 40)).cell? ⟨w.heap.size, i, none⟩ := fun i => World.cell?_of_block (hb2.block _ (by simp))
            have cb2 : w2.cell? ⟨w.heap.size, 2, none⟩ = some (.slice (some ⟨ga, oa', none⟩) na sz) := (cb 2).trans (cell_of_row _ _ 2 _ _ _ (heap_alloc_new w _))
            clear hcell hac hae2 hb2 cb
            go_wp2_with fail
            go_ret2
            exact ⟨rfl, (HBL.out.alloc HBL.out.size _).trans (HB2.out.mono (by rw [sz_alloc]; have := HBL.out.size; omega))⟩
end Go.Proofs.YtokdclmikllepaaGreatDoor
