import Derived.Test.YtokdclmikllepaaGreatDoorMf27
import Derived.Recover
import Derived.Defers
import Derived.Lib.OthersKept
import Derived.Lib.TrimUEq
namespace Go.Proofs.YtokdclmikllepaaGreatDoor
open Go.RowKit
set_option linter.unusedVariables false
set_option linter.unusedSimpArgs false

theorem opsS_recover {P : Program} {ops : Array Oper} {Q : Exit → Act → List Frame → World → Prop} {i : Nat} {rest : List Nat} {a : Act} {cs cs' : List Frame} {w : World} {o : Oper} {v : Value}
    (ho : ops[i]? = some o) (hw : Region.wanted o (yielded ops a.tmps) = true) (hr : (execOp a.eval o).run P w = .ok .recover w) (hrec : recoverD cs = some (v, cs')) (h : wpOpsS P ops Q rest (a.put o.dst v) cs' w) : wpOpsS P ops Q (i :: rest) a cs w := by
  simp only [wpOpsS, ho]
  rw [if_pos hw, hr]
  simp only [hrec]
  exact h
theorem opsS_recover_none {P : Program} {ops : Array Oper} {Q : Exit → Act → List Frame → World → Prop} {i : Nat} {rest : List Nat} {a : Act} {cs : List Frame} {w : World} {o : Oper}
    (ho : ops[i]? = some o) (hw : Region.wanted o (yielded ops a.tmps) = true) (hr : (execOp a.eval o).run P w = .ok .recover w) (hrec : recoverD cs = none) (h : wpOpsS P ops Q rest (a.put o.dst .nilIface) cs w) : wpOpsS P ops Q (i :: rest) a cs w := by
  simp only [wpOpsS, ho]
  rw [if_pos hw, hr]
  simp only [hrec]
  exact h

theorem assert_fault (v : Value) (w : World) : (Instr.typeAssert (.iface 76 v) 20 76 true).run Tryz.prog w = .ok (.tuple #[v, .bool true]) w := by kernel_rfl

set_option maxHeartbeats 2000000 in
set_option maxRecDepth 100000 in
/-- The deferred function, when all has given up. -/
theorem catch_fault (b0 b1 b2 : Nat) (f : Sp.Flt) (x0 x1 x2 : Value) (older : List PanicEntry) (w : World)
    (h0 : w.cell? ⟨b0, 0, none⟩ = some x0) (h1 : w.cell? ⟨b1, 0, none⟩ = some x1) (h2 : w.cell? ⟨b2, 0, none⟩ = some x2)
    (z0 : w.frozen? ⟨b0, 0, none⟩ = false) (z1 : w.frozen? ⟨b1, 0, none⟩ = false) (z2 : w.frozen? ⟨b2, 0, none⟩ = false)
    (n0 : b0 < w.heap.size) (n1 : b1 < w.heap.size) (n2 : b2 < w.heap.size) (d01 : b0 ≠ b1) (d02 : b0 ≠ b2) (d12 : b1 ≠ b2) :
    CallsD Tryz.prog 49 #[.pointer (some ⟨b0, 0, none⟩), .pointer (some ⟨b1, 0, none⟩), .pointer (some ⟨b2, 0, none⟩)] (.panicking ({ v := .iface 76 (.agg #[.int .i64 f.1, .int .i64 f.2]), recovered := false } :: older)) w fun e u' w' =>
      e = .returned (.tuple #[]) ∧ u' = .panicking ({ v := .iface 76 (.agg #[.int .i64 f.1, .int .i64 f.2]), recovered := true } :: older) ∧
        w' = ((((w.setCell ⟨b0, 0, none⟩ (.slice none 0 0)).setCell ⟨b1, 0, none⟩ (.int .i64 f.1)).setCell ⟨b2, 0, none⟩ (.int .i64 f.2)).alloc (.cells #[.int .i64 f.1, .int .i64 f.2] 76)).drew := by
  refine callsD_of_wpS Tryz.func49 rfl fun c₀ cs hu => ?_
  apply wpS_seq
  apply wpS_region
  generalize hK : Exit.thenS _ _ = K
  rw [Tryz.ntmps49]
  refine (show wpOpsS _ _ K [0, 1] _ _ w from ?_)
  have hrec : recoverD (c₀ :: cs) = some (.iface 76 (.agg #[.int .i64 f.1, .int .i64 f.2]), { c₀ with mode := .panicking ({ v := .iface 76 (.agg #[.int .i64 f.1, .int .i64 f.2]), recovered := true } :: older) } :: cs) := by simp [recoverD, hu]
  refine opsS_recover rfl rfl rfl hrec ?_
  clear hrec
  simp [wpOpsS, go_sem, Act.put, Array.replicate]
  subst hK
  show Code.wpS _ _ _ _ _ _
  refine wpS_of_wp ?_
  have hta := assert_fault (.agg #[.int .i64 f.1, .int .i64 f.2]) w
  go_wp2_with fail
  go_region
  all_goals
    go_wp2_with fail
    cases c₀
    simp_all [bodyPostS, results, Tryz.results49]

theorem catch_idle (b0 b1 b2 : Nat) (w : World) :
    CallsD Tryz.prog 49 #[.pointer (some ⟨b0, 0, none⟩), .pointer (some ⟨b1, 0, none⟩), .pointer (some ⟨b2, 0, none⟩)] .returning w fun e u' w' => e = .returned (.tuple #[]) ∧ u' = .returning ∧ w' = w := by
  refine callsD_of_wpS Tryz.func49 rfl fun c₀ cs hu => ?_
  apply wpS_seq
  apply wpS_region
  generalize hK : Exit.thenS _ _ = K
  rw [Tryz.ntmps49]
  refine (show wpOpsS _ _ K [0, 1] _ _ w from ?_)
  refine opsS_recover_none rfl rfl rfl (by simp [recoverD, hu]) ?_
  simp [wpOpsS, go_sem, Act.put, Array.replicate]
  subst hK
  show Code.wpS _ _ _ _ _ _
  refine wpS_of_wp ?_
  go_wp2_with fail
  cases c₀
  simp_all [bodyPostS, results, Tryz.results49]
end Go.Proofs.YtokdclmikllepaaGreatDoor
namespace Go.Proofs.YtokdclmikllepaaGreatDoor
open Go.RowKit
set_option linter.unusedVariables false
set_option linter.unusedSimpArgs false

/-- How Marks ends. -/
def MarksEnd (R : Except Sp.Flt (List Sp.Mk)) (w : World) (e : Ending) (w' : World) : Prop :=
  Below w.heap.size w w' ∧ match R with
  | .error f => e = .returned (.tuple #[.slice none 0 0, .int .i64 f.1, .int .i64 f.2])
  | .ok ms => ∃ v, e = .returned (.tuple #[v, .int .i64 0, .int .i64 0]) ∧ MksAt w.heap.size w' v ms

/-- The results' places. -/
structure MInv (w : World) (W : World) : Prop where
  bel : Below w.heap.size w W
  a0 : W.heap[w.heap.size]? = some (.cells #[.slice none 0 0] 22 (0, 0))
  a1 : W.heap[w.heap.size + 1]? = some (.cells #[.int .i64 0] 3 (0, 0))
  a2 : W.heap[w.heap.size + 1 + 1]? = some (.cells #[.int .i64 0] 23 (0, 0))
section
variable {w W W2 : World}
theorem MInv.lt (h : MInv w W) : w.heap.size + 2 < W.heap.size := (Array.getElem?_eq_some_iff.1 h.a2).1
theorem MInv.goes (h : MInv w W) (hb : Below (w.heap.size + 3) W W2) : MInv w W2 :=
  ⟨h.bel.trans (hb.mono (by omega)), (hb.block _ (by omega)).trans h.a0, (hb.block _ (by omega)).trans h.a1, (hb.block _ (by omega)).trans h.a2⟩
theorem MInv.start (w : World) : MInv w (((w.alloc (.cells #[.slice none 0 0] 22)).alloc (.cells #[.int .i64 0] 3)).alloc (.cells #[.int .i64 0] 23)) := by
  refine ⟨(((Below.refl _ _).alloc (Nat.le_refl _) _).alloc ?_ _).alloc ?_ _, ?_, ?_, ?_⟩
  · rw [sz_alloc]; omega
  · rw [sz_alloc, sz_alloc]; omega
  · exact (heap_alloc_old _ _ (by rw [sz_alloc, sz_alloc]; omega)).trans ((heap_alloc_old _ _ (by rw [sz_alloc]; omega)).trans (heap_alloc_new w _))
  · have := heap_alloc_new (w.alloc (.cells #[.slice none 0 0] 22)) (.cells #[.int .i64 0] 3)
    rw [sz_alloc] at this
    exact (heap_alloc_old _ _ (by rw [sz_alloc, sz_alloc]; omega)).trans this
  · have := heap_alloc_new ((w.alloc (.cells #[.slice none 0 0] 22)).alloc (.cells #[.int .i64 0] 3)) (.cells #[.int .i64 0] 23)
    rw [sz_alloc, sz_alloc] at this
    exact this
theorem MInv.c0 (h : MInv w W) : W.cell? ⟨w.heap.size, 0, none⟩ = some (.slice none 0 0) := cell_of_row W _ 0 _ _ _ h.a0
theorem MInv.c1 (h : MInv w W) : W.cell? ⟨w.heap.size + 1, 0, none⟩ = some (.int .i64 0) := cell_of_row W _ 0 _ _ _ h.a1
theorem MInv.c2 (h : MInv w W) : W.cell? ⟨w.heap.size + 1 + 1, 0, none⟩ = some (.int .i64 0) := cell_of_row W _ 0 _ _ _ h.a2
theorem MInv.f0 (h : MInv w W) : W.frozen? ⟨w.heap.size, 0, none⟩ = false := by have := h.a0; simp [World.frozen?, this]
theorem MInv.f1 (h : MInv w W) : W.frozen? ⟨w.heap.size + 1, 0, none⟩ = false := by have := h.a1; simp [World.frozen?, this]
theorem MInv.f2 (h : MInv w W) : W.frozen? ⟨w.heap.size + 1 + 1, 0, none⟩ = false := by have := h.a2; simp [World.frozen?, this]
/-- The results laid. -/
theorem MInv.laid (h : MInv w W) (x y z : Value) {W' : World} (hW : (((W.setCell ⟨w.heap.size, 0, none⟩ x).setCell ⟨w.heap.size + 1, 0, none⟩ y).setCell ⟨w.heap.size + 1 + 1, 0, none⟩ z) = W') :
    Below w.heap.size w W' ∧ W'.cell? ⟨w.heap.size, 0, none⟩ = some x ∧ W'.cell? ⟨w.heap.size + 1, 0, none⟩ = some y ∧ W'.cell? ⟨w.heap.size + 1 + 1, 0, none⟩ = some z ∧ (∀ i, i ≠ w.heap.size → i ≠ w.heap.size + 1 → i ≠ w.heap.size + 1 + 1 → W'.heap[i]? = W.heap[i]?) ∧ W'.heap.size = W.heap.size := by
  subst hW
  have e0 := heap_set W w.heap.size 0 _ _ _ x h.a0
  have e1 := heap_set (W.setCell ⟨w.heap.size, 0, none⟩ x) (w.heap.size + 1) 0 _ _ _ y ((Below.heap_setCell _ _ _ _ (by show w.heap.size + 1 ≠ w.heap.size; omega)).trans h.a1)
  have e2 := heap_set ((W.setCell ⟨w.heap.size, 0, none⟩ x).setCell ⟨w.heap.size + 1, 0, none⟩ y) (w.heap.size + 1 + 1) 0 _ _ _ z ((Below.heap_setCell _ _ _ _ (by show w.heap.size + 1 + 1 ≠ w.heap.size + 1; omega)).trans ((Below.heap_setCell _ _ _ _ (by show w.heap.size + 1 + 1 ≠ w.heap.size; omega)).trans h.a2))
  refine ⟨((h.bel.setCell (Nat.le_refl _) _).setCell (by show w.heap.size ≤ w.heap.size + 1; omega) _).setCell (by show w.heap.size ≤ w.heap.size + 1 + 1; omega) _, ?_, ?_, cell_of_row _ _ 0 _ _ _ e2, ?_, by simp [World.setCell]⟩
  · refine cell_of_row _ _ 0 _ _ _ ((Below.heap_setCell _ _ _ _ (by show w.heap.size ≠ w.heap.size + 1 + 1; omega)).trans ((Below.heap_setCell _ _ _ _ (by show w.heap.size ≠ w.heap.size + 1; omega)).trans e0))
  · refine cell_of_row _ _ 0 _ _ _ ((Below.heap_setCell _ _ _ _ (by show w.heap.size + 1 ≠ w.heap.size + 1 + 1; omega)).trans e1)
  · intro i h0 h1 h2
    exact (Below.heap_setCell _ _ _ _ h2).trans ((Below.heap_setCell _ _ _ _ h1).trans (Below.heap_setCell _ _ _ _ h0))
end

theorem spm_long {l : List UInt8} (h : 65536 < l.length) : Sp.marks l = .error (0, 3) := by unfold Sp.marks; rw [if_pos h]
theorem spm_bad {l : List UInt8} {i : Nat} (h : ¬ 65536 < l.length) (hb : Sp.bad (l.length + 1) 0 l = some i) : Sp.marks l = .error (i, 71) := by unfold Sp.marks; rw [if_neg h, hb]
theorem spm_char {l : List UInt8} {i : Nat} (h : ¬ 65536 < l.length) (hb : Sp.bad (l.length + 1) 0 l = none) (hc : Sp.badChar (l.length + 1) 0 l = some i) : Sp.marks l = .error (i, 81) := by
  unfold Sp.marks; rw [if_neg h, hb]; simp only; rw [hc]
theorem spm_all {l : List UInt8} (h : ¬ 65536 < l.length) (hb : Sp.bad (l.length + 1) 0 l = none) (hc : Sp.badChar (l.length + 1) 0 l = none) :
    Sp.marks l = match Sp.prolog l with | .error f => .error f | .ok n => Sp.pieces (l.length + 1) n (l.drop n) [] := by
  unfold Sp.marks; rw [if_neg h, hb]; simp only; rw [hc]
  rfl

set_option maxHeartbeats 4000000 in
set_option maxRecDepth 100000 in
theorem marks_long (s : ByteArray) (w : World) (hs : s.size ≤ 140737488351232) (h : 65536 < s.size) :
    Calls Tryz.prog 16 #[.string s] w (MarksEnd (Sp.marks (L s)) w) := by
  rw [spm_long (by rw [L_length]; exact h)]
  have hgt2 : decide ((65536 : Int) < s.size) = true := by simp; omega
  have HM := Lib.hid (MInv.start w)
  go_enter_defers Tryz.func16, Tryz.ntmps16
  go_wp2_with fail
  refine ⟨.tuple #[.slice none 0 0, .int .i64 0, .int .i64 3], ?_, ?_, rfl⟩
  · simp [results, Tryz.results16, Tryz.f16, go_sem]
  · refine (((Below.refl _ _).alloc (Nat.le_refl _) _).alloc ?_ _).alloc ?_ _
    · rw [sz_alloc]; omega
    · rw [sz_alloc, sz_alloc]; omega

set_option maxHeartbeats 4000000 in
set_option maxRecDepth 100000 in
theorem marks_bad (s : ByteArray) (w : World) (h : ¬ 65536 < s.size) (i : Nat) (hb : Sp.bad (s.size + 1) 0 (L s) = some i) :
    Calls Tryz.prog 16 #[.string s] w (MarksEnd (Sp.marks (L s)) w) := by
  rw [spm_bad (by rw [L_length]; exact h) (by rw [L_length]; exact hb)]
  have hgt2 : decide ((65536 : Int) < s.size) = false := by simp; omega
  have HM := Lib.hid (MInv.start w)
  have HB := Lib.hid hb
  clear hb
  go_enter_defers Tryz.func16, Tryz.ntmps16
  go_wp2_with fail
  refine (bad_calls s _ (by omega)).mono ?_
  rw [HB.out]
  rintro e w1 ⟨rfl, hb1⟩
  have hlt := HM.out.lt
  have HM1 := Lib.hid (HM.out.goes (hb1.mono (by omega)))
  clear hlt hb1
  have c0 := HM1.out.c0
  have c1 := HM1.out.c1
  have c2 := HM1.out.c2
  have f0 := HM1.out.f0
  have f1 := HM1.out.f1
  have f2 := HM1.out.f2
  have hi : badI (some i) = (i : Int) := rfl
  have hge : decide ((0 : Int) ≤ i) = true := by simp
  rw [hi]
  go_wp2_with fail
  generalize hW : (((w1.setCell _ _).setCell _ _).setCell _ _) = W'
  obtain ⟨g1, g2, g3, g4, -, -⟩ := HM1.out.laid _ _ _ hW
  clear hW c0 c1 c2 f0 f1 f2
  refine ⟨.tuple #[.slice none 0 0, .int .i64 i, .int .i64 71], ?_, g1, rfl⟩
  simp [results, Tryz.results16, Tryz.f16, go_sem, g2, g3, g4]
end Go.Proofs.YtokdclmikllepaaGreatDoor
