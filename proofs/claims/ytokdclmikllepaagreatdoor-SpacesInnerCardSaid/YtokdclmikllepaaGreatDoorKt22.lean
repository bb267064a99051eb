import Derived.Test.YtokdclmikllepaaGreatDoorKt21
import Derived.Recover
import Derived.Defers
import Derived.Lib.OthersKept
import Derived.Lib.TrimUEq
namespace Go.Proofs.YtokdclmikllepaaGreatDoor
open Go.RowKit
set_option linter.unusedVariables false
set_option linter.unusedSimpArgs false

theorem opsS_recover {P : Program} {ops : Array Oper} {Q : Exit → Act → List Frame → World → Prop} {i : Nat} {rest : List Nat} {a : Act} {cs cs' : List Frame} {w : World} {o : Oper} {v : Value}
    (ho : ops[i]? = some o) (hw : Region.wanted o (yielded ops a.tmps) = true) (hr : (execOp a.eval o).run P w = .ok .recover w) (hrec : recoverD cs = some (v, cs')) (h : wpOpsS P ops Q rest (a.put o.dst v) cs' w) : wpOpsS P ops Q (i :: rest) a cs w := by
  simp only [wpOpsS, ho]
  rw [if_pos hw, hr]
  simp only [hrec]
  exact h
theorem opsS_recover_none {P : Program} {ops : Array Oper} {Q : Exit → Act → List Frame → World → Prop} {i : Nat} {rest : List Nat} {a : Act} {cs : List Frame} {w : World} {o : Oper}
    (ho : ops[i]? = some o) (hw : Region.wanted o (yielded ops a.tmps) = true) (hr : (execOp a.eval o).run P w = .ok .recover w) (hrec : recoverD cs = none) (h : wpOpsS P ops Q rest (a.put o.dst .nilIface) cs w) : wpOpsS P ops Q (i :: rest) a cs w := by
  simp only [wpOpsS, ho]
  rw [if_pos hw, hr]
  simp only [hrec]
  exact h

theorem assert_fault (v : Value) (w : World) : (Instr.typeAssert (.iface 76 v) 20 76 true).run Tryz.prog w = .ok (.tuple #[v, .bool true]) w := by kernel_rfl

set_option maxHeartbeats 2000000 in
set_option maxRecDepth 100000 in
/-- The deferred function, when all has given up. -/
theorem catch_fault (b0 b1 b2 : Nat) (f : Sp.Flt) (x0 x1 x2 : Value) (older : List PanicEntry) (w : World)
    (h0 : w.cell? ⟨b0, 0, none⟩ = some x0) (h1 : w.cell? ⟨b1, 0, none⟩ = some x1) (h2 : w.cell? ⟨b2, 0, none⟩ = some x2)
    (z0 : w.frozen? ⟨b0, 0, none⟩ = false) (z1 : w.frozen? ⟨b1, 0, none⟩ = false) (z2 : w.frozen? ⟨b2, 0, none⟩ = false)
    (n0 : b0 < w.heap.size) (n1 : b1 < w.heap.size) (n2 : b2 < w.heap.size) (d01 : b0 ≠ b1) (d02 : b0 ≠ b2) (d12 : b1 ≠ b2) :
    CallsD Tryz.prog 49 #[.pointer (some ⟨b0, 0, none⟩), .pointer (some ⟨b1, 0, none⟩), .pointer (some ⟨b2, 0, none⟩)] (.panicking ({ v := .iface 76 (.agg #[.int .i64 f.1, .int .i64 f.2]), recovered := false } :: older)) w fun e u' w' =>
      e = .returned (.tuple #[]) ∧ u' = .panicking ({ v := .iface 76 (.agg #[.int .i64 f.1, .int .i64 f.2]), recovered := true } :: older) ∧
        w' = ((((w.setCell ⟨b0, 0, none⟩ (.slice none 0 0)).setCell ⟨b1, 0, none⟩ (.int .i64 f.1)).setCell ⟨b2, 0, none⟩ (.int .i64 f.2)).alloc (.cells #[.int .i64 f.1, .int .i64 f.2] 76)).drew := by
  refine callsD_of_wpS Tryz.func49 rfl fun c₀ cs hu => ?_
  apply wpS_seq
  apply wpS_region
  generalize hK : Exit.thenS _ _ = K
  rw [Tryz.ntmps49]
  refine (show wpOpsS _ _ K [0, 1] _ _ w from ?_)
  have hrec : recoverD (c₀ :: cs) = some (.iface 76 (.agg #[.int .i64 f.1, .int .i64 f.2]), { c₀ with mode := .panicking ({ v := .iface 76 (.agg #[.int .i64 f.1, .int .i64 f.2]), recovered := true } :: older) } :: cs) := by simp [recoverD, hu]
  refine opsS_recover rfl rfl rfl hrec ?_
  clear hrec
  simp [wpOpsS, go_sem, Act.put, Array.replicate]
  subst hK
  show Code.wpS _ _ _ _ _ _
  refine wpS_of_wp ?_
  have hta := assert_fault (.agg #[.int .i64 f.1, .int .i64 f.2]) w
  go_wp2_with fail
  go_region
  all_goals
    go_wp2_with fail
    cases c₀
    simp_all [bodyPostS, results, Tryz.results49]

theorem catch_idle (b0 b1 b2 : Nat) (w : World) :
    CallsD Tryz.prog 49 #[.pointer (some ⟨b0, 0, none⟩), .pointer (some ⟨b1, 0, none⟩), .pointer (some ⟨b2, 0, none⟩)] .returning w fun e u' w' => e = .returned (.tuple #[]) ∧ u' = .returning ∧ w' = w := by
  refine callsD_of_wpS Tryz.func49 rfl fun c₀ cs hu => ?_
  apply wpS_seq
  apply wpS_region
  generalize hK : Exit.thenS _ _ = K
  rw [Tryz.ntmps49]
  refine (show wpOpsS _ _ K [0, 1] _ _ w from ?_)
  refine opsS_recover_none rfl rfl rfl (by simp [recoverD, hu]) ?_
  simp [wpOpsS, go_sem, Act.put, Array.replicate]
  subst hK
  show Code.wpS _ _ _ _ _ _
  refine wpS_of_wp ?_
  go_wp2_with fail
  cases c₀
  simp_all [bodyPostS, results, Tryz.results49]
end Go.Proofs.YtokdclmikllepaaGreatDoor
namespace Go.Proofs.YtokdclmikllepaaGreatDoor
open Go.RowKit
set_option linter.unusedVariables false
set_option linter.unusedSimpArgs false

/-- How Marks ends. -/
def MarksEnd (R : Except Sp.Flt (List Sp.Mk)) (w : World) (e : Ending) (w' : World) : Prop :=
  Below w.heap.size w w' ∧ match R with
  | .error f => e = .returned (.tuple #[.slice none 0 0, .int .i64 f.1, .int .i64 f.2])
  | .ok ms => ∃ v, e = .returned (.tuple #[v, .int .i64 0, .int .i64 0]) ∧ MksAt w.heap.size w' v ms

/-- The results' places. -/
structure MInv (w : World) (W : World) : Prop where
  bel : Below w.heap.size w W
  a0 : W.heap[w.heap.size]? = some (.cells #[.slice none 0 0] 22 (0, 0))
  a1 : W.heap[w.heap.size + 1]? = some (.cells #[.int .i64 0] 3 (0, 0))
  a2 : W.heap[w.heap.size + 1 + 1]? = some (.cells #[.int .i64 0] 23 (0, 0))
section
variable {w W W2 : World}
theorem MInv.lt (h : MInv w W) : w.heap.size + 2 < W.heap.size := (Array.getElem?_eq_some_iff.1 h.a2).1
theorem MInv.goes (h : MInv w W) (hb : Below (w.heap.size + 3) W W2) : MInv w W2 :=
  ⟨h.bel.trans (hb.mono (by omega)), (hb.block _ (by omega)).trans h.a0, (hb.block _ (by omega)).trans h.a1, (hb.block _ (by omega)).trans h.a2⟩
theorem MInv.start (w : World) : MInv w (((w.alloc (.cells #[.slice none 0 0] 22)).alloc (.cells #[.int .i64 0] 3)).alloc (.cells #[.int .i64 0] 23)) := by
  refine ⟨(((Below.refl _ _).alloc (Nat.le_refl _) _).alloc ?_ _).alloc ?_ _, ?_, ?_, ?_⟩
  · rw [sz_alloc]; omega
  · rw [sz_alloc, sz_alloc]; omega
  · exact (heap_alloc_old _ _ (by rw [sz_alloc, sz_alloc]; omega)).trans ((heap_alloc_old _ _ (by rw [sz_alloc]; omega)).trans (heap_alloc_new w _))
  · have := heap_alloc_new (w.alloc (.cells #[.slice none 0 0] 22)) (.cells #[.int .i64 0] 3)
    rw [sz_alloc] at this
    exact (heap_alloc_old _ _ (by rw [sz_alloc, sz_alloc]; omega)).trans this
  · have := heap_alloc_new ((w.alloc (.cells #[.slice none 0 0] 22)).alloc (.cells #[.int .i64 0] 3)) (.cells #[.int .i64 0] 23)
    rw [sz_alloc, sz_alloc] at this
    exact this
theorem MInv.c0 (h : MInv w W) : W.cell? ⟨w.heap.size, 0, none⟩ = some (.slice none 0 0) := cell_of_row W _ 0 _ _ _ h.a0
theorem MInv.c1 (h : MInv w W) : W.cell? ⟨w.heap.size + 1, 0, none⟩ = some (.int .i64 0) := cell_of_row W _ 0 _ _ _ h.a1
theorem MInv.c2 (h : MInv w W) : W.cell? ⟨w.heap.size + 1 + 1, 0, none⟩ = some (.int .i64 0) := cell_of_row W _ 0 _ _ _ h.a2
theorem MInv.f0 (h : MInv w W) : W.frozen? ⟨w.heap.size, 0, none⟩ = false := by have := h.a0; simp [World.frozen?, this]
theorem MInv.f1 (h : MInv w W) : W.frozen? ⟨w.heap.size + 1, 0, none⟩ = false := by have := h.a1; simp [World.frozen?, this]
theorem MInv.f2 (h : MInv w W) : W.frozen? ⟨w.heap.size + 1 + 1, 0, none⟩ = false := by have := h.a2; simp [World.frozen?, this]
/-- The results laid. -/
theorem MInv.laid (h : MInv w W) (x y z : Value) {W' : World} (hW : (((W.setCell ⟨w.heap.size, 0, none⟩ x).setCell ⟨w.heap.size + 1, 0, none⟩ y).setCell ⟨w.heap.size + 1 + 1, 0, none⟩ z) = W') :
    Below w.heap.size w W' ∧ W'.cell? ⟨w.heap.size, 0, none⟩ = some x ∧ W'.cell? ⟨w.heap.size + 1, 0, none⟩ = some y ∧ W'.cell? ⟨w.heap.size + 1 + 1, 0, none⟩ = some z ∧ (∀ i, i ≠ w.heap.size → i ≠ w.heap.size + 1 → i ≠ w.heap.size + 1 + 1 → W'.heap[i]? = W.heap[i]?) ∧ W'.heap.size = W.heap.size := by
  subst hW
  have e0 := heap_set W w.heap.size 0 _ _ _ x h.a0
  have e1 := heap_set (W.setCell ⟨w.heap.size, 0, none⟩ x) (w.heap.size + 1) 0 _ _ _ y ((Below.heap_setCell _ _ _ _ (by show w.heap.size + 1 ≠ w.heap.size; omega)).trans h.a1)
  have e2 := heap_set ((W.setCell ⟨w.heap.size, 0, none⟩ x).setCell ⟨w.heap.size + 1, 0, none⟩ y) (w.heap.size + 1 + 1) 0 _ _ _ z ((Below.heap_setCell _ _ _ _ (by show w.heap.size + 1 + 1 ≠ w.heap.size + 1; omega)).trans ((Below.heap_setCell _ _ _ _ (by show w.heap.size + 1 + 1 ≠ w.heap.size; omega)).trans h.a2))
  refine ⟨((h.bel.setCell (Nat.le_refl _) _).setCell (by show w.heap.size ≤ w.heap.size + 1; omega) _).setCell (by show w.heap.size ≤ w.heap.size + 1 + 1; omega) _, ?_, ?_, cell_of_row _ _ 0 _ _ _ e2, ?_, by simp [World.setCell]⟩
  · refine cell_of_row _ _ 0 _ _ _ ((Below.heap_setCell _ _ _ _ (by show w.heap.size ≠ w.heap.size + 1 + 1; omega)).trans ((Below.heap_setCell _ _ _ _ (by show w.heap.size ≠ w.heap.size + 1; omega)).trans e0))
  · refine cell_of_row _ _ 0 _ _ _ ((Below.heap_setCell _ _ _ _ (by show w.heap.size + 1 ≠ w.heap.size + 1 + 1; omega)).trans e1)
  · intro i h0 h1 h2
    exact (Below.heap_setCell _ _ _ _ h2).trans ((Below.heap_setCell _ _ _ _ h1).trans (Below.heap_setCell _ _ _ _ h0))
end

theorem spm_long {l : List UInt8} (h : 65536 < l.length) : Sp.marks l = .error (0, 3) := by unfold Sp.marks; rw [if_pos h]
theorem spm_bad {l : List UInt8} {i : Nat} (h : ¬ 65536 < l.length) (hb : Sp.bad (l.length + 1) 0 l = some i) : Sp.marks l = .error (i, 71) := by unfold Sp.marks; rw [if_neg h, hb]
theorem spm_char {l : List UInt8} {i : Nat} (h : ¬ 65536 < l.length) (hb : Sp.bad (l.length + 1) 0 l = none) (hc : Sp.badChar (l.length + 1) 0 l = some i) : Sp.marks l = .error (i, 81) := by
  unfold Sp.marks; rw [if_neg h, hb]; simp only; rw [hc]
theorem spm_all {l : List UInt8} (h : ¬ 65536 < l.length) (hb : Sp.bad (l.length + 1) 0 l = none) (hc : Sp.badChar (l.length + 1) 0 l = none) :
    Sp.marks l = match Sp.prolog l with | .error f => .error f | .ok n => Sp.pieces (l.length + 1) n (l.drop n) [] := by
  unfold Sp.marks; rw [if_neg h, hb]; simp only; rw [hc]
  rfl

set_option maxHeartbeats 4000000 in
set_option maxRecDepth 100000 in
theorem marks_long (s : ByteArray) (w : World) (hs : s.size ≤ 140737488351232) (h : 65536 < s.size) :
    Calls Tryz.prog 16 #[.string s] w (MarksEnd (Sp.marks (L s)) w) := by
  rw [spm_long (by rw [L_length]; exact h)]
  have hgt2 : decide ((65536 : Int) < s.size) = true := by simp; omega
  have HM := Lib.hid (MInv.start w)
  go_enter_defers Tryz.func16, Tryz.ntmps16
  go_wp2_with fail
  refine ⟨.tuple #[.slice none 0 0, .int .i64 0, .int .i64 3], ?_, ?_, rfl⟩
  · simp [results, Tryz.results16, Tryz.f16, go_sem]
  · refine (((Below.refl _ _).alloc (Nat.le_refl _) _).alloc ?_ _).alloc ?_ _
    · rw [sz_alloc]; omega
    · rw [sz_alloc, sz_alloc]; omega

set_option maxHeartbeats 4000000 in
set_option maxRecDepth 100000 in
theorem marks_bad (s : ByteArray) (w : World) (h : ¬ 65536 < s.size) (i : Nat) (hb : Sp.bad (s.size + 1) 0 (L s) = some i) :
    Calls Tryz.prog 16 #[.string s] w (MarksEnd (Sp.marks (L s)) w) := by
  rw [spm_bad (by rw [L_length]; exact h) (by rw [L_length]; exact hb)]
  have hgt2 : decide ((65536 : Int) < s.size) = false := by simp; omega
  have HM := Lib.hid (MInv.start w)
  have HB := Lib.hid hb
  clear hb
  go_enter_defers Tryz.func16, Tryz.ntmps16
  go_wp2_with fail
  refine (bad_calls s _ (by omega)).mono ?_
  rw [HB.out]
  rintro e w1 ⟨rfl, hb1⟩
  have hlt := HM.out.lt
  have HM1 := Lib.hid (HM.out.goes (hb1.mono (by omega)))
  clear hlt hb1
  have c0 := HM1.out.c0
  have c1 := HM1.out.c1
  have c2 := HM1.out.c2
  have f0 := HM1.out.f0
  have f1 := HM1.out.f1
  have f2 := HM1.out.f2
  have hi : badI (some i) = (i : Int) := rfl
  have hge : decide ((0 : Int) ≤ i) = true := by simp
  rw [hi]
  go_wp2_with fail
  generalize hW : (((w1.setCell _ _).setCell _ _).setCell _ _) = W'
  obtain ⟨g1, g2, g3, g4, -, -⟩ := HM1.out.laid _ _ _ hW
  clear hW c0 c1 c2 f0 f1 f2
  refine ⟨.tuple #[.slice none 0 0, .int .i64 i, .int .i64 71], ?_, g1, rfl⟩
  simp [results, Tryz.results16, Tryz.f16, go_sem, g2, g3, g4]
end Go.Proofs.YtokdclmikllepaaGreatDoor
namespace Go.Proofs.YtokdclmikllepaaGreatDoor
open Go.RowKit
set_option linter.unusedVariables false
set_option linter.unusedSimpArgs false

theorem ownsRow_at {w w' : World} {base : Nat} {e : TypeId} {size n : Nat} {v : Value} {xs : List Value} (h : w.ownsRow base e size v n xs) (hh : ∀ k, base ≤ k → w'.heap[k]? = w.heap[k]?) : w'.ownsRow base e size v n xs := by
  refine ⟨h.1, ?_⟩
  rcases h.2 with hn | ⟨g, cap, cur, rfl, hb, hg, rest⟩
  · exact .inl hn
  · exact .inr ⟨g, cap, cur, rfl, hb, (hh g hb).trans hg, rest⟩
theorem ownsRow_le {w : World} {b b' : Nat} {e : TypeId} {size n : Nat} {v : Value} {xs : List Value} (h : w.ownsRow b' e size v n xs) (hb : b ≤ b') : w.ownsRow b e size v n xs := by
  refine ⟨h.1, ?_⟩
  rcases h.2 with hn | ⟨g, cap, cur, rfl, hbg, rest⟩
  · exact .inl hn
  · exact .inr ⟨g, cap, cur, rfl, Nat.le_trans hb hbg, rest⟩
theorem MksAt.at_ {B : Nat} {w w' : World} {v : Value} {ms : List Sp.Mk} (h : MksAt B w v ms) (hh : ∀ k, B ≤ k → w'.heap[k]? = w.heap[k]?) : MksAt B w' v ms := by
  obtain ⟨ps, h1, h2, h3, h4⟩ := h
  exact ⟨ps, h1, fun x hx => ownsRow_at (h2 x hx) hh, ownsRow_at h3 hh, h4⟩
theorem MksAt.le {B B' : Nat} {w : World} {v : Value} {ms : List Sp.Mk} (h : MksAt B' w v ms) (hb : B ≤ B') : MksAt B w v ms := by
  obtain ⟨ps, h1, h2, h3, h4⟩ := h
  exact ⟨ps, h1, fun x hx => ownsRow_le (h2 x hx) hb, ownsRow_le h3 hb, h4⟩

/-- What a document is, behind the looks at it as a text. -/
def restOf (l : List UInt8) : Except Sp.Flt (List Sp.Mk) := match Sp.prolog l with | .error f => .error f | .ok n => Sp.pieces (l.length + 1) n (l.drop n) []

def chk (l : List UInt8) : Option Nat → Except Sp.Flt (List Sp.Mk)
  | some i => .error (i, 81)
  | none => restOf l

theorem all_calls (s : ByteArray) (g : Nat) (w : World) (hG : Gl w) (hr : Rd w g s 0 0 (.slice none 0 0)) (hs : s.size ≤ 65536) (hU : U8 (L s)) :
    Calls Tryz.prog 50 #[.pointer (some ⟨g, 0, none⟩)] w (AllEnd g s (restOf (L s)) w) := by
  unfold restOf
  cases hp : Sp.prolog (L s) with
  | error f => exact (all_prolog_fails s g w hG hr hs f hp).mono fun e w' ⟨he, ho⟩ => ⟨ho, he⟩
  | ok n =>
    have hn := ((prolog_fd (L s)).2 n hp).1
    rw [L_length] at hn
    rw [L_length]
    exact all_goes s g w hG hr hs hU n hp hn _ rfl

theorem dec_next (s : ByteArray) (pos : Nat) (h : pos < s.size) (r : Int) (n : Nat) (hn : Sp.next ((L s).drop pos) = (r, n)) (h0 : n ≠ 0) : Utf8.decode s pos = (r.toNat, n) ∧ 0 ≤ r := by
  rw [L_drop s pos h] at hn
  have := next_dec _ _ r n hn h0
  rw [← L_drop s pos h] at this
  have e : Lib.decodeL ((L s).drop pos) = Utf8.decode s pos := Lib.decodeL_drop s pos
  rw [e] at this
  exact ⟨this.1, this.2.1⟩

theorem bad_go {k p : Nat} {l : List UInt8} {r : Int} {n : Nat} (hl : l ≠ []) (hn : Sp.next l = (r, n)) (h : Sp.bad (k + 1) p l = none) : n ≠ 0 ∧ Sp.bad k (p + n) (l.drop n) = none := by
  rw [bad_step k p l hl, hn] at h
  simp only at h
  split at h
  · cases h
  · rename_i h0; exact ⟨h0, h⟩
theorem badChar_yes {k p : Nat} {l : List UInt8} {r : Int} {n : Nat} (hl : l ≠ []) (hn : Sp.next l = (r, n)) (hc : Sp.isChar r = true) : Sp.badChar (k + 1) p l = Sp.badChar k (p + n) (l.drop n) := by
  cases l with
  | nil => exact absurd rfl hl
  | cons c t =>
    have e : Sp.badChar (k + 1) p (c :: t) = if Sp.isChar (Sp.next (c :: t)).1 = true then Sp.badChar k (p + (Sp.next (c :: t)).2) ((c :: t).drop (Sp.next (c :: t)).2) else some p := rfl
    rw [e, hn]; simp only; rw [if_pos hc]
theorem badChar_no {k p : Nat} {l : List UInt8} {r : Int} {n : Nat} (hl : l ≠ []) (hn : Sp.next l = (r, n)) (hc : Sp.isChar r = false) : Sp.badChar (k + 1) p l = some p := by
  cases l with
  | nil => exact absurd rfl hl
  | cons c t =>
    have e : Sp.badChar (k + 1) p (c :: t) = if Sp.isChar (Sp.next (c :: t)).1 = true then Sp.badChar k (p + (Sp.next (c :: t)).2) ((c :: t).drop (Sp.next (c :: t)).2) else some p := rfl
    rw [e, hn]; simp only; rw [if_neg (by rw [hc]; simp)]
theorem badChar_nil (k p : Nat) : Sp.badChar k p [] = none := by cases k <;> rfl
set_option maxHeartbeats 16000000 in
set_option maxRecDepth 100000 in
theorem marks_rest (s : ByteArray) (w : World) (hG : Gl w) (h : ¬ 65536 < s.size) (hb : Sp.bad (s.size + 1) 0 (L s) = none) :
    Calls Tryz.prog 16 #[.string s] w (MarksEnd (Sp.marks (L s)) w) := by
  obtain ⟨RC, hRC⟩ : ∃ x, Sp.badChar (s.size + 1) 0 (L s) = x := ⟨_, rfl⟩
  have hR : Sp.marks (L s) = chk (L s) RC := by
    cases RC with
    | some i => exact spm_char (by rw [L_length]; exact h) (by rw [L_length]; exact hb) (by rw [L_length]; exact hRC)
    | none => exact spm_all (by rw [L_length]; exact h) (by rw [L_length]; exact hb) (by rw [L_length]; exact hRC)
  rw [hR]
  clear hR
  have hU := U8.of_bad _ _ _ hb
  have HU := Lib.hid hU
  have hgt2 : decide ((65536 : Int) < s.size) = false := by simp; omega
  have HM := Lib.hid (MInv.start w)
  have HB := Lib.hid hb
  have HC := Lib.hid hRC
  have HG := Lib.hid hG
  have hbig := hG.big
  have hmf := mk_fn
  clear hb hRC hG hU
  go_enter_defers Tryz.func16, Tryz.ntmps16
  go_wp2_with fail
  refine (bad_calls s _ (by omega)).mono ?_
  rw [HB.out]
  rintro e w1 ⟨rfl, hb1⟩
  have hlt := HM.out.lt
  have HM1 := Lib.hid (HM.out.goes (hb1.mono (by omega)))
  clear hlt hb1 HM
  have hi : badI none = -1 := rfl
  rw [hi]
  clear hi
  go_wp2_with fail
  have HI : Hid (MInv w (w1.iter s 0) ∧ (w1.iter s 0).heap[w1.heap.size]? = some (.stringIter s 0)) := ⟨HM1.out.goes ((Below.refl _ _).alloc (by have := HM1.out.lt; omega) _), World.iter_heap w1 s 0⟩
  have hik : w.heap.size + 3 ≤ w1.heap.size := HM1.out.lt
  clear HM1
  generalize w1.iter s 0 = W at HI ⊢
  generalize w1.heap.size = ik at HI hik ⊢
  go_loopg [6, 7] (s.size + 1) (fun k _ _ wr => ∃ pos, pos ≤ s.size ∧ s.size - pos < k ∧ Hid (Sp.bad k pos ((L s).drop pos) = none) ∧ Hid (Sp.badChar k pos ((L s).drop pos) = RC) ∧ Hid (MInv w wr ∧ wr.heap[ik]? = some (.stringIter s pos)))
  case atStart => exact ⟨0, Nat.zero_le _, by omega, HB, HC, HI⟩
  case round =>
    clear HB HC HI
    obtain ⟨pos, hps, hk, HB, HC, HI⟩ := hrel
    obtain ⟨k', rfl⟩ : ∃ m, gk = m + 1 := ⟨gk - 1, by omega⟩
    by_cases hp : pos < s.size
    · have hne := drop_ne s pos hp
      obtain ⟨r, n, hn⟩ : ∃ r n, Sp.next ((L s).drop pos) = (r, n) := ⟨_, _, rfl⟩
      obtain ⟨hn0, hb2⟩ := bad_go hne hn HB.out
      have hbd := next_bd ((L s).drop pos)
      have hle := (next_le ((L s).drop pos)).1
      rw [hn] at hbd hle
      simp only at hbd hle
      rw [List.length_drop, L_length] at hle
      have hr0 := hbd.1
      have hr1 := hbd.2
      obtain ⟨hdec, -⟩ := dec_next s pos hp r n hn hn0
      have hnx : ∀ ty, (Instr.next (.pointer (some ⟨ik, 0, none⟩)) true ty).run Tryz.prog wr = .ok (.tuple #[.bool true, .int .i64 pos, .int .i32 r]) (wr.iterAt ik s (pos + n)) := fun ty => by
        rw [Lib.run_next_any_at wr ik s pos ty HI.out.2 hp, hdec]
        simp [Int.toNat_of_nonneg hr0]
      rw [List.drop_drop] at hb2
      have HB2 := Lib.hid hb2
      have HI2 : Hid (∀ w2, Below (wr.iterAt ik s (pos + n)).heap.size (wr.iterAt ik s (pos + n)) w2 → MInv w w2 ∧ w2.heap[ik]? = some (.stringIter s (pos + n))) := fun w2 hb => by
        have hlt : ik < (wr.iterAt ik s (pos + n)).heap.size := by rw [Lib.iterAt_size]; exact (Array.getElem?_eq_some_iff.1 HI.out.2).1
        exact ⟨HI.out.1.goes ((Lib.below_iterAt (Below.refl _ _) hik s _).trans (hb.mono (by omega))), (hb.block ik hlt).trans (Lib.iterAt_heap wr ik s pos _ HI.out.2)⟩
      have HN := Lib.hid hn
      have hne2 := Lib.hid hne
      cases hc : Sp.isChar r with
      | true =>
        have HC2 : Hid (Sp.badChar k' (pos + n) ((L s).drop (pos + n)) = RC) := by
          have h := HC.out
          rw [badChar_yes hne hn hc, List.drop_drop] at h
          exact h
        have HCC := Lib.hid hc
        clear hc hn hne hb2 hbd hdec HC HB
        go_wp2_with fail
        refine (char_is r true _ (by omega) (by omega) HCC.out).mono ?_
        rintro e w2 ⟨rfl, hbw⟩
        have HI3 := Lib.hid (HI2.out w2 hbw)
        clear hbw hnx
        go_wp2_with fail
        go_roundg k'
        case measure => omega
        case rel => exact ⟨pos + n, by omega, by omega, HB2, HC2, HI3⟩
      | false =>
        have hRC : RC = some pos := by
          have h := HC.out
          rw [badChar_no hne hn hc] at h
          exact h.symm
        have HCC := Lib.hid hc
        clear hc hn hne hb2 hbd hdec HC HB
        subst hRC
        go_wp2_with fail
        refine (char_is r false _ (by omega) (by omega) HCC.out).mono ?_
        rintro e w2 ⟨rfl, hbw⟩
        have HI3 := Lib.hid (HI2.out w2 hbw)
        clear hbw hnx HI
        have c0 := HI3.out.1.c0
        have c1 := HI3.out.1.c1
        have c2 := HI3.out.1.c2
        have f0 := HI3.out.1.f0
        have f1 := HI3.out.1.f1
        have f2 := HI3.out.1.f2
        go_wp2_with fail
        generalize hW : (((w2.setCell _ _).setCell _ _).setCell _ _) = W'
        obtain ⟨g1, g2, g3, g4, -, -⟩ := HI3.out.1.laid _ _ _ hW
        clear hW c0 c1 c2 f0 f1 f2
        refine ⟨.tuple #[.slice none 0 0, .int .i64 pos, .int .i64 81], ?_, g1, rfl⟩
        simp [results, Tryz.results16, Tryz.f16, go_sem, g2, g3, g4]
    · have hps' : pos = s.size := by omega
      subst hps'
      have hRC : RC = none := by
        have h := HC.out
        rw [List.drop_eq_nil_of_le (by rw [L_length]; exact Nat.le_refl _), badChar_nil] at h
        exact h.symm
      subst hRC
      have hnx : ∀ ty, (Instr.next (.pointer (some ⟨ik, 0, none⟩)) true ty).run Tryz.prog wr = .ok (.tuple #[.bool false]) wr := fun ty => Lib.run_next_end_at wr ik s s.size ty HI.out.2 (by omega)
      clear HB HC
      go_wp2_with fail
      have hbr : Below w.heap.size w wr := HI.out.1.bel
      have hsz := hbr.size
      have hlt3 := HI.out.1.lt
      have HX : Hid (Gl (wr.alloc (.cells #[.string s, .int .i64 0, .int .i64 0, .slice none 0 0] 80)) ∧ Rd (wr.alloc (.cells #[.string s, .int .i64 0, .int .i64 0, .slice none 0 0] 80)) wr.heap.size s 0 0 (.slice none 0 0)) :=
        ⟨HG.out.below (hbr.alloc hsz _), by omega, heap_alloc_new _ _⟩
      obtain ⟨RR, hRR⟩ : ∃ x, restOf (L s) = x := ⟨_, rfl⟩
      have HRR := Lib.hid hRR
      show Calls _ _ _ _ _
      refine (all_calls s wr.heap.size _ HX.out.1 HX.out.2 (by omega) HU.out).mono ?_
      rintro e w3 ⟨ho, he⟩
      have HM3 : Hid (MInv w w3) := HI.out.1.goes (by
        have h1 : Below (w.heap.size + 3) wr (wr.alloc (.cells #[.string s, .int .i64 0, .int .i64 0, .slice none 0 0] 80)) := (Below.refl _ _).alloc (by omega) _
        exact h1.trans ⟨ho.os, ho.tape, ho.output, ho.size, fun i hi => ho.block i (by rw [sz_alloc]; omega) (fun e => by injection e with e; omega)⟩)
      have c0 := HM3.out.c0
      have c1 := HM3.out.c1
      have c2 := HM3.out.c2
      have f0 := HM3.out.f0
      have f1 := HM3.out.f1
      have f2 := HM3.out.f2
      have hlt4 := HM3.out.lt
      have hch : chk (L s) none = RR := hRR
      rw [hRR] at he
      have HCH := Lib.hid hch
      clear hch hRR hnx
      cases RR with
      | error f =>
        have he : e = pan f := he
        unfold pan at he
        subst he
        go_wp2_with fail
        refine leaves_cons (f := 49) (args := #[.pointer (some ⟨w.heap.size, 0, none⟩), .pointer (some ⟨w.heap.size + 1, 0, none⟩), .pointer (some ⟨w.heap.size + 1 + 1, 0, none⟩)]) (by simp) (by simp [go_sem]) ?_
        refine (catch_fault w.heap.size (w.heap.size + 1) (w.heap.size + 1 + 1) f _ _ _ [] w3 c0 c1 c2 f0 f1 f2 (by omega) (by omega) (by omega) (by omega) (by omega) (by omega)).mono ?_
        rintro e u' w'' ⟨rfl, rfl, rfl⟩
        generalize hW : (((w3.setCell _ _).setCell _ _).setCell _ _) = W'
        obtain ⟨g1, g2, g3, g4, -, g6⟩ := HM3.out.laid _ _ _ hW
        clear hW c0 c1 c2 f0 f1 f2
        have q : ∀ o b u, b < W'.heap.size → W'.cell? ⟨b, 0, none⟩ = some u → (World.drew (W'.alloc o)).cell? ⟨b, 0, none⟩ = some u := fun o b u hb hu => (World.cell?_of_block (w' := W'.alloc o) (heap_alloc_old W' o hb)).trans hu
        have q0 := fun o => q o _ _ (by omega) g2
        have q1 := fun o => q o _ _ (by omega) g3
        have q2 := fun o => q o _ _ (by omega) g4
        show ∃ v, _ ∧ _
        refine ⟨.tuple #[.slice none 0 0, .int .i64 f.1, .int .i64 f.2], ?_, ?_⟩
        · simp only [results, Tryz.results16, Tryz.f16]
          simp [go_sem, q0, q1, q2]
        · rw [HCH.out]
          exact ⟨below_drewN (g1.alloc (by omega) _) 1, rfl⟩
      | ok ms =>
        obtain ⟨rfl, v, p9, fr9, hr9, hm9⟩ : e = .returned (.tuple #[]) ∧ ∃ v p fr, Rd w3 wr.heap.size s p fr v ∧ MksAt (wr.alloc (.cells #[.string s, .int .i64 0, .int .i64 0, .slice none 0 0] 80)).heap.size w3 v ms := he
        rw [sz_alloc] at hm9
        obtain ⟨va, vn, vc, rfl⟩ : ∃ va vn vc, v = .slice va vn vc := by
          obtain ⟨n, xs, hown⟩ := hm9.own
          rcases hown.2 with ⟨rfl, _⟩ | ⟨g', cap, cur, rfl, _⟩
          · exact ⟨_, _, _, rfl⟩
          · exact ⟨_, _, _, rfl⟩
        have h3 := hr9.c3
        have HM9 := Lib.hid hm9
        clear hr9 hm9
        go_wp2_with fail
        generalize hW : (((w3.setCell _ _).setCell _ _).setCell _ _) = W'
        obtain ⟨g1, g2, g3, g4, g5, g6⟩ := HM3.out.laid _ _ _ hW
        clear hW c0 c1 c2 f0 f1 f2
        refine leaves_cons (f := 49) (args := #[.pointer (some ⟨w.heap.size, 0, none⟩), .pointer (some ⟨w.heap.size + 1, 0, none⟩), .pointer (some ⟨w.heap.size + 1 + 1, 0, none⟩)]) (by simp) (by simp [go_sem]) ?_
        refine (catch_idle _ _ _ _).mono ?_
        rintro e u' w'' ⟨rfl, rfl, rfl⟩
        show ∃ v, _ ∧ _
        refine ⟨.tuple #[.slice va vn vc, .int .i64 0, .int .i64 0], ?_, ?_⟩
        · simp only [results, Tryz.results16, Tryz.f16]
          simp [go_sem, g2, g3, g4]
        · rw [HCH.out]
          exact ⟨g1, _, rfl, (HM9.out.at_ fun k hk => g5 k (by omega) (by omega) (by omega)).le (by omega)⟩

theorem marks_calls (s : ByteArray) (w : World) (hG : Gl w) (hs : s.size ≤ 140737488351232) :
    Calls Tryz.prog 16 #[.string s] w (MarksEnd (Sp.marks (L s)) w) := by
  by_cases h : 65536 < s.size
  · exact marks_long s w hs h
  · cases hb : Sp.bad (s.size + 1) 0 (L s) with
    | some i => exact marks_bad s w h i hb
    | none => exact marks_rest s w hG h hb
end Go.Proofs.YtokdclmikllepaaGreatDoor
