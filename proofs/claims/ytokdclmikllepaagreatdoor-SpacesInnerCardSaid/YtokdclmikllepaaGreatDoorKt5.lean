import Derived.Test.YtokdclmikllepaaGreatDoorKt3
import Derived.Deep.RegionWith
import Derived.Deep.LoopGhost
import Derived.Test.YtokdclmikllepaaGreatDoorKt4
import Derived.Deep.RegionHeld3
namespace Go.Proofs.YtokdclmikllepaaGreatDoor
open Go.RowKit
set_option linter.unusedVariables false
set_option linter.unusedSimpArgs false

/-- The reader at block g: its text, where it is, where the mark at work begins, what it has told. -/
def Rd (w : World) (g : Nat) (s : ByteArray) (p fr : Nat) (out : Value) : Prop :=
  8 ≤ g ∧ w.heap[g]? = some (.cells #[.string s, .int .i64 p, .int .i64 fr, out] 80 (0, 0))

section
variable {w w' : World} {g : Nat} {s : ByteArray} {p fr : Nat} {out : Value}
theorem Rd.c0 (h : Rd w g s p fr out) : w.cell? ⟨g, 0, none⟩ = some (.string s) := cell_of_row w g 0 _ _ _ h.2
theorem Rd.c1 (h : Rd w g s p fr out) : w.cell? ⟨g, 1, none⟩ = some (.int .i64 p) := cell_of_row w g 1 _ _ _ h.2
theorem Rd.c2 (h : Rd w g s p fr out) : w.cell? ⟨g, 2, none⟩ = some (.int .i64 fr) := cell_of_row w g 2 _ _ _ h.2
theorem Rd.c3 (h : Rd w g s p fr out) : w.cell? ⟨g, 3, none⟩ = some out := cell_of_row w g 3 _ _ _ h.2
theorem Rd.fz (h : Rd w g s p fr out) (i : Nat) : w.frozen? ⟨g, i, none⟩ = false := by
  have h2 := h.2; simp [World.frozen?, h2]
theorem Rd.lt (h : Rd w g s p fr out) : g < w.heap.size := (Array.getElem?_eq_some_iff.1 h.2).1
theorem Rd.drewN (h : Rd w g s p fr out) (n : Nat) : Rd (w.drewN n) g s p fr out := h
theorem Rd.below (h : Rd w g s p fr out) (hb : Below w.heap.size w w') : Rd w' g s p fr out := ⟨h.1, (hb.block g h.lt).trans h.2⟩
theorem heap_set (w : World) (g i : Nat) (cs : Array Value) (t : TypeId) (fz : Nat × Nat) (u : Value) (h : w.heap[g]? = some (.cells cs t fz)) :
    (w.setCell ⟨g, i, none⟩ u).heap[g]? = some (.cells (cs.setIfInBounds i u) t fz) := by
  unfold World.setCell
  simp [Array.getElem?_modify, h]
theorem Rd.set1 (h : Rd w g s p fr out) (q : Nat) : Rd (w.setCell ⟨g, 1, none⟩ (.int .i64 q)) g s q fr out := ⟨h.1, heap_set w g 1 _ _ _ _ h.2⟩
theorem Rd.set2 (h : Rd w g s p fr out) (q : Nat) : Rd (w.setCell ⟨g, 2, none⟩ (.int .i64 q)) g s p q out := ⟨h.1, heap_set w g 2 _ _ _ _ h.2⟩
theorem Rd.set3 (h : Rd w g s p fr out) (v : Value) : Rd (w.setCell ⟨g, 3, none⟩ v) g s p fr v := ⟨h.1, heap_set w g 3 _ _ _ _ h.2⟩
end

/-- Nothing that was there has turned but block g. -/
abbrev Only (g : Nat) (w w' : World) : Prop := w.grownBy w' (some g)
section
variable {a w w' : World} {g : Nat}
theorem Only.refl (g : Nat) (w : World) : Only g w w := ⟨rfl, rfl, rfl, Nat.le_refl _, fun _ _ _ => rfl⟩
theorem Only.drewN (h : Only g a w) (n : Nat) : Only g a (w.drewN n) := ⟨h.os, h.tape, h.output, h.size, h.block⟩
theorem Only.set (h : Only g a w) (i : Nat) (u : Value) : Only g a (w.setCell ⟨g, i, none⟩ u) :=
  ⟨h.os, h.tape, h.output, by simpa [World.setCell] using h.size, fun i hi hne => (Below.heap_setCell w _ u i (by
    rintro rfl; exact hne rfl)).trans (h.block i hi hne)⟩
theorem Only.trans (h : Only g a w) (k : Only g w w') : Only g a w' :=
  ⟨k.os.trans h.os, k.tape.trans h.tape, k.output.trans h.output, Nat.le_trans h.size k.size, fun i hi hne => (k.block i (Nat.lt_of_lt_of_le hi h.size) hne).trans (h.block i hi hne)⟩
theorem Only.of_below (h : Below a.heap.size a w) (g : Nat) : Only g a w := ⟨h.os, h.tape, h.output, h.size, fun i hi _ => h.block i hi⟩
theorem Only.below (h : Only g a w) (k : Below w.heap.size w w') : Only g a w' := h.trans (Only.of_below k g)
end

theorem quiet_left {P : Program} {f : FuncId} {args : Array Value} {w : World} {n : Nat} {v : Value}
    (h : Calls P f args (w.drewN n) fun e w' => e = .returned v ∧ w.drewN n = w') : Calls P f args (w.drewN n) fun e w'' => e = .returned v ∧ ∃ m, w'' = w.drewN m :=
  h.mono fun _ _ ⟨he, hm⟩ => ⟨he, n, hm.symm⟩

theorem white_calls (c : UInt8) (w : World) :
    Calls Tryz.prog 88 #[.int .u8 (c.toNat : Int)] w fun e w' => e = .returned (.bool (Sp.white c)) ∧ w = w' := by
  go_enter Tryz.func88, Tryz.ntmps88
  go_wp2_with fail
  all_goals
    go_ret
    refine ⟨ret_bool ?_, rfl⟩
    simp only [Sp.white]
    rw [Bool.eq_iff_iff]; simp; try omega

theorem white_is (c : UInt8) (b : Bool) (w : World) (h : Sp.white c = b) :
    Calls Tryz.prog 88 #[.int .u8 (c.toNat : Int)] w fun e w' => e = .returned (.bool b) ∧ w = w' := h ▸ white_calls c w

/-- How a call ends that gives up. -/
def pan (f : Sp.Flt) : Ending := .panicked [{ v := .iface 76 (.agg #[.int .i64 f.1, .int .i64 f.2]), recovered := false }]

set_option maxHeartbeats 1000000 in
theorem stop_calls (s : ByteArray) (g p fr : Nat) (out : Value) (w : World) (hr : Rd w g s p fr out) (hs : s.size ≤ 140737488351232) :
    Calls Tryz.prog 125 #[.pointer (some ⟨g, 0, none⟩)] w fun e w' => e = pan (Sp.stop fr p ((L s).drop p)) ∧ ∃ n, w' = w.drewN n := by
  have h0 := hr.c0
  have h1 := hr.c1
  have h2 := hr.c2
  by_cases hp : s.size ≤ p
  · have hle : decide ((s.size : Int) ≤ p) = true := by simp; omega
    have hst : Sp.stop fr p ((L s).drop p) = (fr, 84) := by
      rw [Sp.stop, if_pos (List.drop_eq_nil_of_le (by rw [L_length]; exact hp))]
    rw [hst]
    go_enter Tryz.func125, Tryz.ntmps125
    go_wp2_with fail
    go_quiet (fail)
    go_wp2_with fail
    exact ⟨rfl, rfl, _, rfl⟩
  · have hle : decide ((s.size : Int) ≤ p) = false := by simp; omega
    have hst : Sp.stop fr p ((L s).drop p) = (p, 82) := by
      rw [Sp.stop, if_neg (drop_ne s p (by omega))]
    rw [hst]
    go_enter Tryz.func125, Tryz.ntmps125
    go_wp2_with fail
    go_quiet (fail)
    go_wp2_with fail
    exact ⟨rfl, rfl, _, rfl⟩

/-- Where the white that begins at a place ends. -/
def bl (s : ByteArray) (p : Nat) : Nat := p + Sp.blanksN ((L s).drop p)
theorem bl_white (s : ByteArray) (p : Nat) (h : p < s.size) (hw : Sp.white s[p] = true) : bl s p = bl s (p + 1) := by
  unfold bl Sp.blanksN
  rw [L_drop s p h, List.takeWhile_cons, hw]
  simp; omega
theorem bl_not (s : ByteArray) (p : Nat) (h : p < s.size) (hw : Sp.white s[p] = false) : bl s p = p := by
  unfold bl Sp.blanksN
  rw [L_drop s p h, List.takeWhile_cons, hw]
  simp
theorem bl_end (s : ByteArray) (p : Nat) (h : s.size ≤ p) : bl s p = p := by
  unfold bl Sp.blanksN
  rw [List.drop_eq_nil_of_le (by rw [L_length]; exact h)]
  simp
theorem bl_le (s : ByteArray) (p : Nat) (h : p ≤ s.size) : p ≤ bl s p ∧ bl s p ≤ s.size := by
  unfold bl Sp.blanksN
  have := (List.takeWhile_prefix Sp.white (l := (L s).drop p)).length_le
  rw [List.length_drop, L_length] at this
  omega

set_option maxHeartbeats 2000000 in
set_option maxRecDepth 100000 in
theorem blanks_calls (s : ByteArray) (g p fr : Nat) (out : Value) (w : World) (hr : Rd w g s p fr out) (hs : s.size ≤ 140737488351232) (hp : p ≤ s.size) :
    Calls Tryz.prog 123 #[.pointer (some ⟨g, 0, none⟩)] w fun e w' => e = .returned (.bool (decide (p < bl s p))) ∧ Only g w w' ∧ Rd w' g s (bl s p) fr out := by
  obtain ⟨q, hq⟩ : ∃ q, bl s p = q := ⟨_, rfl⟩
  have hqb := bl_le s p hp
  rw [hq] at hqb ⊢
  have HQ := Lib.hid hq
  clear hq
  have h1 := hr.c1
  go_enter Tryz.func123, Tryz.ntmps123
  go_wp2_with fail
  go_loopg [8] (s.size + 1) (fun k _ wr => ∃ p', p ≤ p' ∧ p' ≤ q ∧ s.size - p' < k ∧ Hid (bl s p' = q) ∧ Hid (Only g w wr ∧ Rd wr g s p' fr out))
  case atStart => exact ⟨p, Nat.le_refl _, hqb.1, by omega, HQ, Only.refl g w, hr⟩
  case round =>
    clear h1
    obtain ⟨p', hpp, hpq, hk, HB, HR⟩ := hrel
    have hr' := HR.out.2
    have hon := HR.out.1
    have h0 := hr'.c0
    have h1 := hr'.c1
    have hf1 := hr'.fz 1
    by_cases hlt : p' < s.size
    · have hd : decide ((p' : Int) < s.size) = true := by simp; omega
      have hx0 : (0 : Int) ≤ p' := by omega
      have hx1 : (p' : Int) < s.size := by omega
      cases hw : Sp.white s[p'] with
      | true =>
        have HW := Lib.hid hw
        clear hw
        go_wp2_with fail
        go_quiet ((go_at_call 88; exact quiet_left (white_is s[p'] true _ HW.out)))
        go_wp2_with fail
        have hqs := hqb.2
        have hq' := bl_le s (p' + 1) (by omega)
        have hstep := bl_white s p' hlt HW.out
        rw [HB.out] at hstep
        go_roundg (gk - 1)
        case measure => omega
        case rel => exact ⟨p' + 1, by omega, by omega, by omega, hstep.symm, (hon.drewN _).set 1 _, Rd.set1 (hr'.drewN _) (p' + 1)⟩
      | false =>
        have HW := Lib.hid hw
        clear hw
        have hpq' : p' = q := (bl_not s p' hlt HW.out).symm.trans HB.out
        subst hpq'
        go_wp2_with fail
        go_quiet ((go_at_call 88; exact quiet_left (white_is s[p'] false _ HW.out)))
        go_wp2_with fail
        go_ret
        exact ⟨ret_bool (by simp), hon.drewN _, hr'.drewN _⟩
    · have hpq' : p' = q := (bl_end s p' (by omega)).symm.trans HB.out
      subst hpq'
      have hd : decide ((p' : Int) < s.size) = false := by simp; omega
      go_wp2_with fail
      go_quiet (fail)
      go_wp2_with fail
      go_ret
      exact ⟨ret_bool (by simp), hon.drewN _, hr'.drewN _⟩

theorem quiet_same {P : Program} {f : FuncId} {args : Array Value} {w : World} {n : Nat} {v : Value}
    (h : Calls P f args (w.drewN n) fun e w' => e = .returned v ∧ w' = w.drewN n) : Calls P f args (w.drewN n) fun e w'' => e = .returned v ∧ ∃ m, w'' = w.drewN m :=
  h.mono fun _ _ ⟨he, hm⟩ => ⟨he, n, hm⟩

theorem L_from (s : ByteArray) (p : Nat) : L (s.extract p s.size) = (L s).drop p := by
  rw [L_extract]
  exact List.take_of_length_le (by simp)

set_option maxHeartbeats 1000000 in
theorem has_calls (s pre : ByteArray) (g p fr : Nat) (out : Value) (w : World) (hr : Rd w g s p fr out) (hs : s.size ≤ 140737488351232) (hp : p ≤ s.size) :
    Calls Tryz.prog 87 #[.pointer (some ⟨g, 0, none⟩), .string pre] w fun e w' => e = .returned (.bool ((L pre).isPrefixOf ((L s).drop p))) ∧ ∃ n, w' = w.drewN n := by
  have h0 := hr.c0
  have h1 := hr.c1
  have hx0 : (0 : Int) ≤ p := by omega
  have hx1 : (p : Int) ≤ s.size := by omega
  rw [← L_from]
  go_enter Tryz.func87, Tryz.ntmps87
  go_wp2_with fail
  go_quiet ((go_at_call 118; exact quiet_same (Tryz.strings_HasPrefix _ _ _)))
  go_wp2_with fail
  go_ret
  exact ⟨rfl, _, rfl⟩

set_option maxHeartbeats 1000000 in
set_option maxRecDepth 100000 in
theorem want_calls (s : ByteArray) (c : UInt8) (g p fr : Nat) (out : Value) (w : World) (hr : Rd w g s p fr out) (hs : s.size ≤ 140737488351232) (hp : p < s.size) (hc : s[p] = c) :
    Calls Tryz.prog 124 #[.pointer (some ⟨g, 0, none⟩), .int .u8 (c.toNat : Int)] w fun e w' => e = .returned (.tuple #[]) ∧ Only g w w' ∧ Rd w' g s (p + 1) fr out := by
  have h0 := hr.c0
  have h1 := hr.c1
  have hf1 := hr.fz 1
  have hx0 : (0 : Int) ≤ p := by omega
  have hx1 : (p : Int) < s.size := by omega
  have hd : decide ((s.size : Int) ≤ p) = false := by simp; omega
  subst hc
  go_enter Tryz.func124, Tryz.ntmps124
  go_wp2_with fail
  go_quiet (fail)
  go_wp2_with fail
  go_end0
  exact ⟨rfl, ((Only.refl g w).drewN _).set 1 _, Rd.set1 (hr.drewN _) (p + 1)⟩

theorem want_not (s : ByteArray) (c : UInt8) (g p fr : Nat) (out : Value) (w : World) (hr : Rd w g s p fr out) (hs : s.size ≤ 140737488351232) (hc : ((L s).drop p).head? ≠ some c) :
    Calls Tryz.prog 124 #[.pointer (some ⟨g, 0, none⟩), .int .u8 (c.toNat : Int)] w fun e w' => e = pan (Sp.stop fr p ((L s).drop p)) ∧ ∃ n, w' = w.drewN n := by
  have h0 := hr.c0
  have h1 := hr.c1
  by_cases hp : p < s.size
  · have hx0 : (0 : Int) ≤ p := by omega
    have hx1 : (p : Int) < s.size := by omega
    have hd : decide ((s.size : Int) ≤ p) = false := by simp; omega
    have hne : ((s[p].toNat : Int) != c.toNat) = true := by
      rw [bne_iff_ne]
      intro e
      rw [L_drop s p hp] at hc
      exact hc (by rw [List.head?_cons]; exact congrArg some (UInt8.toNat_inj.1 (by omega)))
    clear hc
    go_enter Tryz.func124, Tryz.ntmps124
    go_wp2_with fail
    go_quiet (fail)
    go_wp2_with (go_at_call 125; refine (stop_calls s g p fr out _ (hr.drewN _) hs).mono ?_; rintro e w' ⟨he, n, rfl⟩; unfold pan at he; subst he)
    exact ⟨rfl, rfl, _, rfl⟩
  · have hd : decide ((s.size : Int) ≤ p) = true := by simp; omega
    clear hc
    go_enter Tryz.func124, Tryz.ntmps124
    go_wp2_with fail
    go_quiet (fail)
    go_wp2_with (go_at_call 125; refine (stop_calls s g p fr out _ (hr.drewN _) hs).mono ?_; rintro e w' ⟨he, n, rfl⟩; unfold pan at he; subst he)
    exact ⟨rfl, rfl, _, rfl⟩


end Go.Proofs.YtokdclmikllepaaGreatDoor
namespace Go.Proofs.YtokdclmikllepaaGreatDoor
open Go.RowKit
set_option linter.unusedVariables false
set_option linter.unusedSimpArgs false

/-- Where the name that goes on at a place ends. -/
def nm (k : Nat) (first : Bool) (s : ByteArray) (p : Nat) : Nat := p + Sp.nameN k first ((L s).drop p)
theorem nameN_step (k : Nat) (first : Bool) (l : List UInt8) (h : l ≠ []) : Sp.nameN (k + 1) first l = if (Sp.next l).1 = 58 ∨ (first = false ∧ Sp.nameRune (Sp.next l).1 = true) ∨ Sp.letter (Sp.next l).1 = true then (Sp.next l).2 + Sp.nameN k false (l.drop (Sp.next l).2) else 0 := by
  cases l with
  | nil => exact absurd rfl h
  | cons c t => rfl
theorem next_bd (l : List UInt8) : 0 ≤ (Sp.next l).1 ∧ (Sp.next l).1 ≤ 1114111 := by
  have ht : ∀ n r t, 0 < n → 0 ≤ (Sp.tailR n r t).1 ∧ (Sp.tailR n r t).1 ≤ 1114111 := fun n r t hn => by
    unfold Sp.tailR
    split
    · simp
    · split
      · split
        · rename_i h
          have hp : Sp.isRune (Sp.foldR r (t.take (n - 1))) = true := by
            cases hr : Sp.isRune (Sp.foldR r (t.take (n - 1))) with
            | true => rfl
            | false => rw [Sp.putI, hr] at h; simp at h; omega
          simp [Sp.isRune] at hp; simp only; omega
        · simp
      · simp
  cases l with
  | nil => simp [Sp.next]
  | cons c t =>
    have hc := c.toNat_lt
    simp only [Sp.next]
    repeat' split
    all_goals first | exact ht _ _ _ (by omega) | (simp only; omega)

theorem next_zero (l : List UInt8) (h : (Sp.next l).2 = 0) : (Sp.next l).1 = 0 := by
  have ht : ∀ n r t, 0 < n → (Sp.tailR n r t).2 = 0 → (Sp.tailR n r t).1 = 0 := fun n r t hn => by
    unfold Sp.tailR
    repeat' split
    all_goals (intro h; first | rfl | (simp only at h; omega))
  cases l with
  | nil => rfl
  | cons c t =>
    simp only [Sp.next] at h ⊢
    repeat' split
    all_goals simp_all
    all_goals exact ht _ _ _ (by omega) (by assumption)

theorem nameRune_is (r : Int) (b : Bool) (w : World) (h0 : -2147483648 ≤ r) (h1 : r ≤ 2147483647) (h : Sp.nameRune r = b) :
    Calls Tryz.prog 144 #[.int .i32 r] w fun e w' => e = .returned (.bool b) ∧ Below w.heap.size w w' := h ▸ nameRune_calls r w h0 h1
theorem letter_is (r : Int) (b : Bool) (w : World) (h0 : -2147483648 ≤ r) (h1 : r ≤ 2147483647) (h : Sp.letter r = b) :
    Calls Tryz.prog 143 #[.int .i32 r] w fun e w' => e = .returned (.bool b) ∧ Below w.heap.size w w' := h ▸ letter_calls r w h0 h1

theorem rd_at {w w1 w2 : World} {g : Nat} {s : ByteArray} {p fr : Nat} {out : Value} (h : Rd w1 g s p fr out) (ho : Only g w w1) (hb : Below w1.heap.size w1 w2) : Hid (Only g w w2 ∧ Rd w2 g s p fr out) :=
  ⟨ho.below hb, h.below hb⟩

theorem rd_facts {w w2 : World} {g : Nat} {s : ByteArray} {p fr : Nat} {out : Value} (h : Hid (Only g w w2 ∧ Rd w2 g s p fr out)) :
    w2.cell? ⟨g, 0, none⟩ = some (.string s) ∧ w2.cell? ⟨g, 1, none⟩ = some (.int .i64 p) ∧ w2.cell? ⟨g, 2, none⟩ = some (.int .i64 fr) ∧ w2.cell? ⟨g, 3, none⟩ = some out ∧
      w2.frozen? ⟨g, 1, none⟩ = false ∧ w2.frozen? ⟨g, 3, none⟩ = false :=
  have k := h.out.2
  ⟨k.c0, k.c1, k.c2, k.c3, k.fz 1, k.fz 3⟩

set_option maxHeartbeats 4000000 in
set_option maxRecDepth 100000 in
theorem name_calls (s : ByteArray) (g p fr : Nat) (out : Value) (w : World) (hr : Rd w g s p fr out) (hs : s.size ≤ 140737488351232) (hp : p ≤ s.size) (q : Nat) (hq : nm (s.size - p + 1) true s p = q) (hne : p < q) :
    Calls Tryz.prog 122 #[.pointer (some ⟨g, 0, none⟩)] w fun e w' => e = .returned (.string (s.extract p q)) ∧ Only g w w' ∧ Rd w' g s q fr out := by
  have HQ := Lib.hid hq
  clear hq
  have h1 := hr.c1
  go_enter Tryz.func122, Tryz.ntmps122
  go_wp2_with fail
  clear h1
  go_loopg [4, 5] (s.size - p + 1) (fun k _ _ wr => ∃ p', p ≤ p' ∧ p' ≤ s.size ∧ s.size - p' < k ∧ Hid (nm k (decide (p' = p)) s p' = q) ∧ Hid (Only g w wr ∧ Rd wr g s p' fr out))
  case atStart => exact ⟨p, Nat.le_refl _, hp, by omega, by simpa using HQ, Only.refl g w, hr⟩
  case round =>
    obtain ⟨p', hpp, hps, hk, HB, HR⟩ := hrel
    have hr' := HR.out.2
    have hon := HR.out.1
    have h0 := hr'.c0
    have h1 := hr'.c1
    have hf1 := hr'.fz 1
    by_cases hlt : p' < s.size
    · have hd : decide ((p' : Int) < s.size) = true := by simp; omega
      have hx0 : (0 : Int) ≤ p' := by omega
      have hx1 : (p' : Int) < s.size := by omega
      go_wp2_with fail
      go_quiet (fail)
      have hle := next_le ((L s).drop p')
      rw [List.length_drop, L_length] at hle
      have hbd := next_bd ((L s).drop p')
      have hst := fun m => nameN_step m (decide (p' = p)) _ (drop_ne s p' hlt)
      have HN : ∃ r n, Hid (Sp.next ((L s).drop p') = (r, n)) := ⟨_, _, rfl⟩
      obtain ⟨r, n, HN⟩ := HN
      rw [HN.out] at hle hbd
      simp only [HN.out] at hst
      have HS := Lib.hid hst
      have hn1 := hle.1
      have hn2 := hle.2
      have hb1 := hbd.1
      have hb2 := hbd.2
      simp only at hn1 hn2 hb1 hb2
      clear hle hbd hst
      go_wp2_with fail
      go_region_held3 (fun w' => w'.cell? ⟨g, 0, none⟩ = some (.string s) ∧ w'.cell? ⟨g, 1, none⟩ = some (.int .i64 p')) (first | exact ⟨h0, h1⟩ | exact ⟨(Rd.below (hr'.drewN _) (by assumption)).c0, (Rd.below (hr'.drewN _) (by assumption)).c1⟩) (first | (go_at_call 85; refine (next_calls s p' _ hs ?_).mono ?_; (· omega); rw [HN.out]; rintro e w' ⟨rfl, hb⟩))
      have HR2 := rd_at (hr'.drewN _) (hon.drewN _) hb
      clear HR h0 h1 hf1 hr' hon hb
      have hon := HR2.out.1
      have hr' := HR2.out.2
      have h0 := hr'.c0
      have h1 := hr'.c1
      have hf1 := hr'.fz 1
      obtain ⟨k, rfl⟩ : ∃ m, gk = m + 1 := ⟨gk - 1, by omega⟩
      by_cases hc : r = 58 ∨ (p < p' ∧ Sp.nameRune r = true) ∨ (¬ p < p' ∧ Sp.letter r = true)
      · have hn0 : 0 < n := by
          rcases Nat.eq_zero_or_pos n with h | h
          · exfalso
            have hz := next_zero ((L s).drop p') (by rw [HN.out]; exact h)
            rw [HN.out] at hz
            simp only at hz
            subst hz
            rcases hc with hc | ⟨_, hc⟩ | ⟨_, hc⟩
            · omega
            · simp [Sp.nameRune, Sp.letter] at hc
            · simp [Sp.letter] at hc
          · exact h
        have hstep : Hid (nm k (decide (p' + n = p)) s (p' + n) = q) := by
          have h := HB.out
          unfold nm at h ⊢
          rw [HS.out, if_pos ?_] at h
          · have hf : decide (p' + n = p) = false := by simp; omega
            rw [hf]
            rw [List.drop_drop] at h
            show _ = q
            omega
          · rcases hc with hc | ⟨hc, hc2⟩ | ⟨hc, hc2⟩
            · exact .inl hc
            · exact .inr (.inl ⟨by simp; omega, hc2⟩)
            · exact .inr (.inr hc2)
        by_cases h58 : r = 58
        · have hb58 : (r != 58) = false := by rw [h58]; rfl
          clear h58 hc
          go_wp2_with fail
          go_roundg k
          case measure => omega
          case rel => exact ⟨p' + n, by omega, by omega, by omega, hstep, hon.set 1 _, hr'.set1 (p' + n)⟩
        · have hb58 : (r != 58) = true := by rw [bne_iff_ne]; exact h58
          rcases hc with hc | ⟨hc, hc2⟩ | ⟨hc, hc2⟩
          · exact absurd hc h58
          · have hgt : decide ((p : Int) < p') = true := by simp; omega
            have HC := Lib.hid hc2
            clear hc2 h58
            go_wp2_with (go_at_call 144; refine (nameRune_is r true _ ?_ ?_ HC.out).mono ?_; (· omega); (· omega); rintro e w2 ⟨rfl, hb2⟩; have HR3 := rd_at hr' hon hb2; clear hb2; obtain ⟨k0, k1, -, -, kf, -⟩ := rd_facts HR3)
            go_roundg k
            case measure => omega
            case rel => exact ⟨p' + n, by omega, by omega, by omega, hstep, HR3.out.1.set 1 _, HR3.out.2.set1 (p' + n)⟩
          · have hgt : decide ((p : Int) < p') = false := by simp; omega
            have HC := Lib.hid hc2
            clear hc2 h58
            go_wp2_with (go_at_call 143; refine (letter_is r true _ ?_ ?_ HC.out).mono ?_; (· omega); (· omega); rintro e w2 ⟨rfl, hb2⟩; have HR3 := rd_at hr' hon hb2; clear hb2; obtain ⟨k0, k1, -, -, kf, -⟩ := rd_facts HR3)
            go_roundg k
            case measure => omega
            case rel => exact ⟨p' + n, by omega, by omega, by omega, hstep, HR3.out.1.set 1 _, HR3.out.2.set1 (p' + n)⟩
      · have h58 : (r != 58) = true := by rw [bne_iff_ne]; exact fun h => hc (.inl h)
        have hnot : ¬ (r = 58 ∨ (decide (p' = p) = false ∧ Sp.nameRune r = true) ∨ Sp.letter r = true) := by
          have hln : Sp.letter r = true → Sp.nameRune r = true := fun h => by simp [Sp.nameRune, h]
          rintro (h | ⟨h, h2⟩ | h)
          · exact hc (.inl h)
          · exact hc (.inr (.inl ⟨by simp at h; omega, h2⟩))
          · by_cases hgt : p < p'
            · exact hc (.inr (.inl ⟨hgt, hln h⟩))
            · exact hc (.inr (.inr ⟨hgt, h⟩))
        have hpq : p' = q := by
          have h := HB.out
          unfold nm at h
          rw [HS.out, if_neg hnot] at h
          omega
        subst hpq
        have hgt : decide ((p : Int) < p') = true := by simp; omega
        have hnr : Sp.nameRune r = false := by
          cases hx : Sp.nameRune r with
          | false => rfl
          | true => exact absurd (.inr (.inl ⟨hne, hx⟩)) hc
        have hnl : Sp.letter r = false := by
          cases hx : Sp.letter r with
          | false => rfl
          | true => exact absurd (.inr (.inr hx)) hnot
        have H1 := Lib.hid hnr
        have H2 := Lib.hid hnl
        have heq : ((p' : Int) == p) = false := by rw [beq_eq_false_iff_ne]; omega
        have hle1 : (p : Int) ≤ p' := by omega
        have hle2 : (0 : Int) ≤ p := by omega
        have hle3 : (p' : Int) ≤ s.size := by omega
        clear hnr hnl hnot hc
        go_wp2_with (first | (go_at_call 144; refine (nameRune_is r false _ ?_ ?_ H1.out).mono ?_; (· omega); (· omega); rintro e w2 ⟨rfl, hb2⟩; have HR3 := rd_at hr' hon hb2; clear hb2; obtain ⟨k0, k1, -, -, kf, -⟩ := rd_facts HR3) | (go_at_call 143; refine (letter_is r false _ ?_ ?_ H2.out).mono ?_; (· omega); (· omega); rintro e w3 ⟨rfl, hb3⟩; have HR4 := rd_at HR3.out.2 HR3.out.1 hb3; clear hb3 k0 k1 kf; obtain ⟨k0, k1, -, -, kf, -⟩ := rd_facts HR4))
        go_quiet (fail)
        go_wp2_with fail
        go_ret
        exact ⟨rfl, HR4.out.1.drewN _, HR4.out.2.drewN _⟩
    · have hps' : p' = s.size := by omega
      subst hps'
      have hd : decide ((s.size : Int) < s.size) = false := by simp
      have hpq : s.size = q := by
        have h := HB.out
        unfold nm at h
        rw [List.drop_eq_nil_of_le (by rw [L_length]; exact Nat.le_refl _)] at h
        cases gk <;> exact h
      subst hpq
      have heq : ((s.size : Int) == p) = false := by rw [beq_eq_false_iff_ne]; omega
      have hle1 : (p : Int) ≤ s.size := by omega
      have hle2 : (0 : Int) ≤ p := by omega
      go_wp2_with fail
      go_quiet (fail)
      go_wp2_with fail
      go_quiet (fail)
      go_wp2_with fail
      go_ret
      exact ⟨rfl, (hon.drewN _).drewN _, (hr'.drewN _).drewN _⟩

theorem below_drewN {B : Nat} {a w : World} (h : Below B a w) (n : Nat) : Below B a (w.drewN n) := ⟨h.os, h.tape, h.output, h.size, h.block⟩

/-- A rune that may stand in a name has bytes. -/
theorem next_pos (l : List UInt8) (h : (Sp.next l).1 = 58 ∨ Sp.nameRune (Sp.next l).1 = true ∨ Sp.letter (Sp.next l).1 = true) : 0 < (Sp.next l).2 := by
  rcases Nat.eq_zero_or_pos (Sp.next l).2 with h0 | h0
  · exfalso
    rw [next_zero l h0] at h
    simp [Sp.nameRune, Sp.letter] at h
  · exact h0

set_option maxHeartbeats 4000000 in
set_option maxRecDepth 100000 in
theorem name_none (s : ByteArray) (g p fr : Nat) (out : Value) (w : World) (hr : Rd w g s p fr out) (hs : s.size ≤ 140737488351232) (hp : p ≤ s.size) (hq : nm (s.size - p + 1) true s p = p) :
    Calls Tryz.prog 122 #[.pointer (some ⟨g, 0, none⟩)] w fun e w' => e = pan (Sp.stop fr p ((L s).drop p)) ∧ Below w.heap.size w w' := by
  have HQ := Lib.hid hq
  clear hq
  have h0 := hr.c0
  have h1 := hr.c1
  have heq : ((p : Int) == p) = true := by simp
  go_enter Tryz.func122, Tryz.ntmps122
  go_wp2_with fail
  refine wp_loop_rounds 1 ?_
  rw [rounds_succ]
  by_cases hlt : p < s.size
  · have hd : decide ((p : Int) < s.size) = true := by simp; omega
    go_wp2_with fail
    go_quiet (fail)
    go_wp2_with fail
    have hbd := next_bd ((L s).drop p)
    have hst := nameN_step (s.size - p) true _ (drop_ne s p hlt)
    have hnp := next_pos ((L s).drop p)
    have HN : ∃ r n, Hid (Sp.next ((L s).drop p) = (r, n)) := ⟨_, _, rfl⟩
    obtain ⟨r, n, HN⟩ := HN
    rw [HN.out] at hbd hst hnp
    simp only at hbd hst hnp
    have hb1 := hbd.1
    have hb2 := hbd.2
    have hnot : ¬ (r = 58 ∨ (true = false ∧ Sp.nameRune r = true) ∨ Sp.letter r = true) := by
      intro hc
      have hq := HQ.out
      unfold nm at hq
      rw [hst, if_pos hc] at hq
      have : 0 < n := hnp (by rcases hc with h | ⟨h, _⟩ | h <;> simp_all)
      omega
    have h58 : (r != 58) = true := by rw [bne_iff_ne]; exact fun h => hnot (.inl h)
    have hnl : Sp.letter r = false := by
      cases hx : Sp.letter r with
      | false => rfl
      | true => exact absurd (.inr (.inr hx)) hnot
    have H2 := Lib.hid hnl
    clear hbd hst hnp hnot hnl
    go_region_held3 (fun w' => w'.cell? ⟨g, 0, none⟩ = some (.string s) ∧ w'.cell? ⟨g, 1, none⟩ = some (.int .i64 p)) (first | exact ⟨h0, h1⟩ | exact ⟨(Rd.below (hr.drewN _) (by assumption)).c0, (Rd.below (hr.drewN _) (by assumption)).c1⟩) (first | (go_at_call 85; refine (next_calls s p _ hs ?_).mono ?_; (· omega); rw [HN.out]; rintro e w' ⟨rfl, hb⟩))
    have HR2 := rd_at (hr.drewN _) ((Only.refl g w).drewN _) hb
    have hbb := below_then (below_drewN (Below.refl w.heap.size w) _) hb
    clear h0 h1 hb
    obtain ⟨h0, h1, -, -, -, -⟩ := rd_facts HR2
    have hgt : decide ((p : Int) < p) = false := by simp
    go_wp2_with (first | (go_at_call 143; refine (letter_is r false _ ?_ ?_ H2.out).mono ?_; (· omega); (· omega); rintro e w3 ⟨rfl, hb3⟩; have HR4 := rd_at HR2.out.2 HR2.out.1 hb3; have hb4 := below_then hbb hb3; clear hb3 h0 h1; obtain ⟨h0, h1, -, -, -, -⟩ := rd_facts HR4) | (go_at_call 125; refine (stop_calls s g p fr out _ HR4.out.2 hs).mono ?_; rintro e w' ⟨he, n, rfl⟩; unfold pan at he; subst he))
    exact ⟨rfl, rfl, below_drewN hb4 _⟩
  · have hd : decide ((p : Int) < s.size) = false := by simp; omega
    go_wp2_with fail
    go_quiet (fail)
    go_wp2_with (go_at_call 125; refine (stop_calls s g p fr out _ (hr.drewN _) hs).mono ?_; rintro e w' ⟨he, n, rfl⟩; unfold pan at he; subst he)
    exact ⟨rfl, rfl, below_drewN (Below.refl _ _) _⟩
end Go.Proofs.YtokdclmikllepaaGreatDoor
