import Derived.Test.YtokdclmikllepaaGreatDoorMe3
import Derived.Deep.RegionWith
import Derived.Deep.LoopGhost
import Derived.Test.YtokdclmikllepaaGreatDoorMe4
namespace Go.Proofs.YtokdclmikllepaaGreatDoor
open Go.RowKit
set_option linter.unusedVariables false
set_option linter.unusedSimpArgs false

/-- The reader at block g: its text, where it is, where the mark at work begins, what it has told. -/
def Rd (w : World) (g : Nat) (s : ByteArray) (p fr : Nat) (out : Value) : Prop :=
  8 ≤ g ∧ w.heap[g]? = some (.cells #[.string s, .int .i64 p, .int .i64 fr, out] 80 (0, 0))

section
variable {w w' : World} {g : Nat} {s : ByteArray} {p fr : Nat} {out : Value}
theorem Rd.c0 (h : Rd w g s p fr out) : w.cell? ⟨g, 0, none⟩ = some (.string s) := cell_of_row w g 0 _ _ _ h.2
theorem Rd.c1 (h : Rd w g s p fr out) : w.cell? ⟨g, 1, none⟩ = some (.int .i64 p) := cell_of_row w g 1 _ _ _ h.2
theorem Rd.c2 (h : Rd w g s p fr out) : w.cell? ⟨g, 2, none⟩ = some (.int .i64 fr) := cell_of_row w g 2 _ _ _ h.2
theorem Rd.c3 (h : Rd w g s p fr out) : w.cell? ⟨g, 3, none⟩ = some out := cell_of_row w g 3 _ _ _ h.2
theorem Rd.fz (h : Rd w g s p fr out) (i : Nat) : w.frozen? ⟨g, i, none⟩ = false := by
  have h2 := h.2; simp [World.frozen?, h2]
theorem Rd.lt (h : Rd w g s p fr out) : g < w.heap.size := (Array.getElem?_eq_some_iff.1 h.2).1
theorem Rd.drewN (h : Rd w g s p fr out) (n : Nat) : Rd (w.drewN n) g s p fr out := h
theorem Rd.below (h : Rd w g s p fr out) (hb : Below w.heap.size w w') : Rd w' g s p fr out := ⟨h.1, (hb.block g h.lt).trans h.2⟩
theorem heap_set (w : World) (g i : Nat) (cs : Array Value) (t : TypeId) (fz : Nat × Nat) (u : Value) (h : w.heap[g]? = some (.cells cs t fz)) :
    (w.setCell ⟨g, i, none⟩ u).heap[g]? = some (.cells (cs.setIfInBounds i u) t fz) := by
  unfold World.setCell
  simp [Array.getElem?_modify, h]
theorem Rd.set1 (h : Rd w g s p fr out) (q : Nat) : Rd (w.setCell ⟨g, 1, none⟩ (.int .i64 q)) g s q fr out := ⟨h.1, heap_set w g 1 _ _ _ _ h.2⟩
theorem Rd.set2 (h : Rd w g s p fr out) (q : Nat) : Rd (w.setCell ⟨g, 2, none⟩ (.int .i64 q)) g s p q out := ⟨h.1, heap_set w g 2 _ _ _ _ h.2⟩
theorem Rd.set3 (h : Rd w g s p fr out) (v : Value) : Rd (w.setCell ⟨g, 3, none⟩ v) g s p fr v := ⟨h.1, heap_set w g 3 _ _ _ _ h.2⟩
end

/-- Nothing that was there has turned but block g. -/
abbrev Only (g : Nat) (w w' : World) : Prop := w.grownBy w' (some g)
section
variable {a w w' : World} {g : Nat}
theorem Only.refl (g : Nat) (w : World) : Only g w w := ⟨rfl, rfl, rfl, Nat.le_refl _, fun _ _ _ => rfl⟩
theorem Only.drewN (h : Only g a w) (n : Nat) : Only g a (w.drewN n) := ⟨h.os, h.tape, h.output, h.size, h.block⟩
theorem Only.set (h : Only g a w) (i : Nat) (u : Value) : Only g a (w.setCell ⟨g, i, none⟩ u) :=
  ⟨h.os, h.tape, h.output, by simpa [World.setCell] using h.size, fun i hi hne => (Below.heap_setCell w _ u i (by
    rintro rfl; exact hne rfl)).trans (h.block i hi hne)⟩
theorem Only.trans (h : Only g a w) (k : Only g w w') : Only g a w' :=
  ⟨k.os.trans h.os, k.tape.trans h.tape, k.output.trans h.output, Nat.le_trans h.size k.size, fun i hi hne => (k.block i (Nat.lt_of_lt_of_le hi h.size) hne).trans (h.block i hi hne)⟩
theorem Only.of_below (h : Below a.heap.size a w) (g : Nat) : Only g a w := ⟨h.os, h.tape, h.output, h.size, fun i hi _ => h.block i hi⟩
theorem Only.below (h : Only g a w) (k : Below w.heap.size w w') : Only g a w' := h.trans (Only.of_below k g)
end

theorem quiet_left {P : Program} {f : FuncId} {args : Array Value} {w : World} {n : Nat} {v : Value}
    (h : Calls P f args (w.drewN n) fun e w' => e = .returned v ∧ w.drewN n = w') : Calls P f args (w.drewN n) fun e w'' => e = .returned v ∧ ∃ m, w'' = w.drewN m :=
  h.mono fun _ _ ⟨he, hm⟩ => ⟨he, n, hm.symm⟩

theorem white_calls (c : UInt8) (w : World) :
    Calls Tryz.prog 88 #[.int .u8 (c.toNat : Int)] w fun e w' => e = .returned (.bool (Sp.white c)) ∧ w = w' := by
  go_enter Tryz.func88, Tryz.ntmps88
  go_wp2_with fail
  all_goals
    go_ret
    refine ⟨ret_bool ?_, rfl⟩
    simp only [Sp.white]
    rw [Bool.eq_iff_iff]; simp; try omega

theorem white_is (c : UInt8) (b : Bool) (w : World) (h : Sp.white c = b) :
    Calls Tryz.prog 88 #[.int .u8 (c.toNat : Int)] w fun e w' => e = .returned (.bool b) ∧ w = w' := h ▸ white_calls c w

/-- How a call ends that gives up. -/
def pan (f : Sp.Flt) : Ending := .panicked [{ v := .iface 76 (.agg #[.int .i64 f.1, .int .i64 f.2]), recovered := false }]

set_option maxHeartbeats 1000000 in
theorem stop_calls (s : ByteArray) (g p fr : Nat) (out : Value) (w : World) (hr : Rd w g s p fr out) (hs : s.size ≤ 140737488351232) :
    Calls Tryz.prog 125 #[.pointer (some ⟨g, 0, none⟩)] w fun e w' => e = pan (Sp.stop fr p ((L s).drop p)) ∧ ∃ n, w' = w.drewN n := by
  have h0 := hr.c0
  have h1 := hr.c1
  have h2 := hr.c2
  by_cases hp : s.size ≤ p
  · have hle : decide ((s.size : Int) ≤ p) = true := by simp; omega
    have hst : Sp.stop fr p ((L s).drop p) = (fr, 84) := by
      rw [Sp.stop, if_pos (List.drop_eq_nil_of_le (by rw [L_length]; exact hp))]
    rw [hst]
    go_enter Tryz.func125, Tryz.ntmps125
    go_wp2_with fail
    go_quiet (fail)
    go_wp2_with fail
    exact ⟨rfl, rfl, _, rfl⟩
  · have hle : decide ((s.size : Int) ≤ p) = false := by simp; omega
    have hst : Sp.stop fr p ((L s).drop p) = (p, 82) := by
      rw [Sp.stop, if_neg (drop_ne s p (by omega))]
    rw [hst]
    go_enter Tryz.func125, Tryz.ntmps125
    go_wp2_with fail
    go_quiet (fail)
    go_wp2_with fail
    exact ⟨rfl, rfl, _, rfl⟩

/-- Where the white that begins at a place ends. -/
def bl (s : ByteArray) (p : Nat) : Nat := p + Sp.blanksN ((L s).drop p)
theorem bl_white (s : ByteArray) (p : Nat) (h : p < s.size) (hw : Sp.white s[p] = true) : bl s p = bl s (p + 1) := by
  unfold bl Sp.blanksN
  rw [L_drop s p h, List.takeWhile_cons, hw]
  simp; omega
theorem bl_not (s : ByteArray) (p : Nat) (h : p < s.size) (hw : Sp.white s[p] = false) : bl s p = p := by
  unfold bl Sp.blanksN
  rw [L_drop s p h, List.takeWhile_cons, hw]
  simp
theorem bl_end (s : ByteArray) (p : Nat) (h : s.size ≤ p) : bl s p = p := by
  unfold bl Sp.blanksN
  rw [List.drop_eq_nil_of_le (by rw [L_length]; exact h)]
  simp
theorem bl_le (s : ByteArray) (p : Nat) (h : p ≤ s.size) : p ≤ bl s p ∧ bl s p ≤ s.size := by
  unfold bl Sp.blanksN
  have := (List.takeWhile_prefix Sp.white (l := (L s).drop p)).length_le
  rw [List.length_drop, L_length] at this
  omega

set_option maxHeartbeats 2000000 in
set_option maxRecDepth 100000 in
theorem blanks_calls (s : ByteArray) (g p fr : Nat) (out : Value) (w : World) (hr : Rd w g s p fr out) (hs : s.size ≤ 140737488351232) (hp : p ≤ s.size) :
    Calls Tryz.prog 123 #[.pointer (some ⟨g, 0, none⟩)] w fun e w' => e = .returned (.bool (decide (p < bl s p))) ∧ Only g w w' ∧ Rd w' g s (bl s p) fr out := by
  obtain ⟨q, hq⟩ : ∃ q, bl s p = q := ⟨_, rfl⟩
  have hqb := bl_le s p hp
  rw [hq] at hqb ⊢
  have HQ := Lib.hid hq
  clear hq
  have h1 := hr.c1
  go_enter Tryz.func123, Tryz.ntmps123
  go_wp2_with fail
  go_loopg [8] (s.size + 1) (fun k _ wr => ∃ p', p ≤ p' ∧ p' ≤ q ∧ s.size - p' < k ∧ Hid (bl s p' = q) ∧ Hid (Only g w wr ∧ Rd wr g s p' fr out))
  case atStart => exact ⟨p, Nat.le_refl _, hqb.1, by omega, HQ, Only.refl g w, hr⟩
  case round =>
    clear h1
    obtain ⟨p', hpp, hpq, hk, HB, HR⟩ := hrel
    have hr' := HR.out.2
    have hon := HR.out.1
    have h0 := hr'.c0
    have h1 := hr'.c1
    have hf1 := hr'.fz 1
    by_cases hlt : p' < s.size
    · have hd : decide ((p' : Int) < s.size) = true := by simp; omega
      have hx0 : (0 : Int) ≤ p' := by omega
      have hx1 : (p' : Int) < s.size := by omega
      cases hw : Sp.white s[p'] with
      | true =>
        have HW := Lib.hid hw
        clear hw
        go_wp2_with fail
        go_quiet ((go_at_call 88; exact quiet_left (white_is s[p'] true _ HW.out)))
        go_wp2_with fail
        have hqs := hqb.2
        have hq' := bl_le s (p' + 1) (by omega)
        have hstep := bl_white s p' hlt HW.out
        rw [HB.out] at hstep
        go_roundg (gk - 1)
        case measure => omega
        case rel => exact ⟨p' + 1, by omega, by omega, by omega, hstep.symm, (hon.drewN _).set 1 _, Rd.set1 (hr'.drewN _) (p' + 1)⟩
      | false =>
        have HW := Lib.hid hw
        clear hw
        have hpq' : p' = q := (bl_not s p' hlt HW.out).symm.trans HB.out
        subst hpq'
        go_wp2_with fail
        go_quiet ((go_at_call 88; exact quiet_left (white_is s[p'] false _ HW.out)))
        go_wp2_with fail
        go_ret
        exact ⟨ret_bool (by simp), hon.drewN _, hr'.drewN _⟩
    · have hpq' : p' = q := (bl_end s p' (by omega)).symm.trans HB.out
      subst hpq'
      have hd : decide ((p' : Int) < s.size) = false := by simp; omega
      go_wp2_with fail
      go_quiet (fail)
      go_wp2_with fail
      go_ret
      exact ⟨ret_bool (by simp), hon.drewN _, hr'.drewN _⟩

theorem quiet_same {P : Program} {f : FuncId} {args : Array Value} {w : World} {n : Nat} {v : Value}
    (h : Calls P f args (w.drewN n) fun e w' => e = .returned v ∧ w' = w.drewN n) : Calls P f args (w.drewN n) fun e w'' => e = .returned v ∧ ∃ m, w'' = w.drewN m :=
  h.mono fun _ _ ⟨he, hm⟩ => ⟨he, n, hm⟩

theorem L_from (s : ByteArray) (p : Nat) : L (s.extract p s.size) = (L s).drop p := by
  rw [L_extract]
  exact List.take_of_length_le (by simp)

set_option maxHeartbeats 1000000 in
theorem has_calls (s pre : ByteArray) (g p fr : Nat) (out : Value) (w : World) (hr : Rd w g s p fr out) (hs : s.size ≤ 140737488351232) (hp : p ≤ s.size) :
    Calls Tryz.prog 87 #[.pointer (some ⟨g, 0, none⟩), .string pre] w fun e w' => e = .returned (.bool ((L pre).isPrefixOf ((L s).drop p))) ∧ ∃ n, w' = w.drewN n := by
  have h0 := hr.c0
  have h1 := hr.c1
  have hx0 : (0 : Int) ≤ p := by omega
  have hx1 : (p : Int) ≤ s.size := by omega
  rw [← L_from]
  go_enter Tryz.func87, Tryz.ntmps87
  go_wp2_with fail
  go_quiet ((go_at_call 118; exact quiet_same (Tryz.strings_HasPrefix _ _ _)))
  go_wp2_with fail
  go_ret
  exact ⟨rfl, _, rfl⟩

set_option maxHeartbeats 1000000 in
set_option maxRecDepth 100000 in
theorem want_calls (s : ByteArray) (c : UInt8) (g p fr : Nat) (out : Value) (w : World) (hr : Rd w g s p fr out) (hs : s.size ≤ 140737488351232) (hp : p < s.size) (hc : s[p] = c) :
    Calls Tryz.prog 124 #[.pointer (some ⟨g, 0, none⟩), .int .u8 (c.toNat : Int)] w fun e w' => e = .returned (.tuple #[]) ∧ Only g w w' ∧ Rd w' g s (p + 1) fr out := by
  have h0 := hr.c0
  have h1 := hr.c1
  have hf1 := hr.fz 1
  have hx0 : (0 : Int) ≤ p := by omega
  have hx1 : (p : Int) < s.size := by omega
  have hd : decide ((s.size : Int) ≤ p) = false := by simp; omega
  subst hc
  go_enter Tryz.func124, Tryz.ntmps124
  go_wp2_with fail
  go_quiet (fail)
  go_wp2_with fail
  go_end0
  exact ⟨rfl, ((Only.refl g w).drewN _).set 1 _, Rd.set1 (hr.drewN _) (p + 1)⟩

theorem want_not (s : ByteArray) (c : UInt8) (g p fr : Nat) (out : Value) (w : World) (hr : Rd w g s p fr out) (hs : s.size ≤ 140737488351232) (hc : ((L s).drop p).head? ≠ some c) :
    Calls Tryz.prog 124 #[.pointer (some ⟨g, 0, none⟩), .int .u8 (c.toNat : Int)] w fun e w' => e = pan (Sp.stop fr p ((L s).drop p)) ∧ ∃ n, w' = w.drewN n := by
  have h0 := hr.c0
  have h1 := hr.c1
  by_cases hp : p < s.size
  · have hx0 : (0 : Int) ≤ p := by omega
    have hx1 : (p : Int) < s.size := by omega
    have hd : decide ((s.size : Int) ≤ p) = false := by simp; omega
    have hne : ((s[p].toNat : Int) != c.toNat) = true := by
      rw [bne_iff_ne]
      intro e
      rw [L_drop s p hp] at hc
      exact hc (by rw [List.head?_cons]; exact congrArg some (UInt8.toNat_inj.1 (by omega)))
    clear hc
    go_enter Tryz.func124, Tryz.ntmps124
    go_wp2_with fail
    go_quiet (fail)
    go_wp2_with (go_at_call 125; refine (stop_calls s g p fr out _ (hr.drewN _) hs).mono ?_; rintro e w' ⟨he, n, rfl⟩; unfold pan at he; subst he)
    exact ⟨rfl, rfl, _, rfl⟩
  · have hd : decide ((s.size : Int) ≤ p) = true := by simp; omega
    clear hc
    go_enter Tryz.func124, Tryz.ntmps124
    go_wp2_with fail
    go_quiet (fail)
    go_wp2_with (go_at_call 125; refine (stop_calls s g p fr out _ (hr.drewN _) hs).mono ?_; rintro e w' ⟨he, n, rfl⟩; unfold pan at he; subst he)
    exact ⟨rfl, rfl, _, rfl⟩


end Go.Proofs.YtokdclmikllepaaGreatDoor
