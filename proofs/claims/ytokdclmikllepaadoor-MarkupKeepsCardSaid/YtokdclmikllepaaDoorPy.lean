import Derived.Test.YtokdclmikllepaaDoorPw
/-
  Plain laws of Sp: characters one behind the other; where faults lie.
-/
namespace Go.Proofs.YtokdclmikllepaaDoor
set_option linter.unusedVariables false
set_option linter.unusedSimpArgs false

/-! ### characters one behind the other -/
theorem tailR_inv {m : Nat} {r0 r : Int} {t : List UInt8} {n : Nat} (h : Sp.tailR m r0 t = (r, n)) (hn : n ≠ 0) :
    n = m ∧ m - 1 ≤ t.length ∧ (t.take (m - 1)).all Sp.contB = true ∧ (Sp.putI r).length = m ∧ ∀ t', Sp.tailR m r0 (t.take (m - 1) ++ t') = (r, m) := by
  unfold Sp.tailR at h
  split at h
  · injection h with h1 h2; omega
  · rename_i hl
    split at h
    · rename_i ha
      split at h
      · rename_i hp
        injection h with h1 h2
        subst h1 h2
        have htk : ∀ t', (t.take (m - 1) ++ t').take (m - 1) = t.take (m - 1) := fun t' => by
          rw [List.take_append_of_le_length (by rw [List.length_take]; omega), List.take_take, Nat.min_self]
        refine ⟨rfl, by omega, ha, hp, fun t' => ?_⟩
        unfold Sp.tailR
        rw [if_neg (by rw [List.length_append, List.length_take]; omega), htk, if_pos ha, if_pos hp]
      · injection h with h1 h2; omega
    · injection h with h1 h2; omega

/-- The bytes of one character. -/
structure Chn (u : List UInt8) (r : Int) : Prop where
  ne : u ≠ []
  nx : ∀ t, Sp.next (u ++ t) = (r, u.length)
  ch : Sp.isChar r = true
  cont : ∀ x ∈ u.tail, 128 ≤ x.toNat ∧ x.toNat < 192
  hd : (∃ c, u = [c] ∧ (c.toNat : Int) = r ∧ c.toNat < 128) ∨ (128 ≤ r ∧ ∀ x ∈ u, 128 ≤ x.toNat)
inductive Cs : List UInt8 → Prop
  | nil : Cs []
  | cons (u t : List UInt8) (r : Int) (hu : Chn u r) (ht : Cs t) : Cs (u ++ t)

theorem chn_tail {m : Nat} (hm : 2 ≤ m) {r0 r : Int} {c : UInt8} {t : List UInt8} {n : Nat} (hc : 128 ≤ c.toNat) (hn0 : ∀ t', Sp.next (c :: t') = Sp.tailR m r0 t') (h : Sp.tailR m r0 t = (r, n)) (hn : n ≠ 0) (hr : Sp.isChar r = true) : Chn ((c :: t).take n) r := by
  obtain ⟨rfl, h1, h2, h3, h4⟩ := tailR_inv h hn
  have hall : ∀ x ∈ t.take (n - 1), 128 ≤ x.toNat ∧ x.toNat < 192 := fun x hx => by
    have := List.all_eq_true.1 h2 x hx
    simpa [Sp.contB] using this
  have hu : (c :: t).take n = c :: t.take (n - 1) := by
    cases n with
    | zero => omega
    | succ n => rfl
  rw [hu]
  refine ⟨by simp, fun t' => ?_, hr, hall, .inr ⟨?_, fun x hx => ?_⟩⟩
  · show Sp.next (c :: (t.take (n - 1) ++ t')) = _
    rw [hn0, h4, List.length_cons, List.length_take]
    congr 1; omega
  · rcases Int.lt_or_le r 128 with hlt | hge
    · exfalso
      unfold Sp.putI at h3
      split at h3
      · simp only [hlt, if_true, List.length_cons, List.length_nil] at h3; omega
      · simp only [List.length_nil] at h3; omega
    · exact hge
  · rcases List.mem_cons.1 hx with rfl | hx
    · exact hc
    · exact (hall x hx).1

theorem chn_next {c : UInt8} {t : List UInt8} {r : Int} {n : Nat} (h : Sp.next (c :: t) = (r, n)) (hn : n ≠ 0) (hr : Sp.isChar r = true) : Chn ((c :: t).take n) r := by
  by_cases h1 : c.toNat < 128
  · have hnx : ∀ t', Sp.next (c :: t') = ((c.toNat : Int), 1) := fun t' => by simp only [Sp.next, if_pos h1]
    rw [hnx] at h
    injection h with h2 h3
    subst h2 h3
    exact ⟨by simp, fun t' => hnx t', hr, by simp, .inl ⟨c, rfl, rfl, h1⟩⟩
  · by_cases h2 : c.toNat < 192
    · simp only [Sp.next, if_neg h1, if_pos h2] at h
      injection h with h3 h4; omega
    · by_cases h3 : c.toNat < 224
      · have hnx : ∀ t', Sp.next (c :: t') = Sp.tailR 2 ((c.toNat : Int) - 192) t' := fun t' => by simp only [Sp.next, if_neg h1, if_neg h2, if_pos h3]
        rw [hnx] at h
        exact chn_tail (by omega) (by omega) hnx h hn hr
      · by_cases h4 : c.toNat < 240
        · have hnx : ∀ t', Sp.next (c :: t') = Sp.tailR 3 ((c.toNat : Int) - 224) t' := fun t' => by simp only [Sp.next, if_neg h1, if_neg h2, if_neg h3, if_pos h4]
          rw [hnx] at h
          exact chn_tail (by omega) (by omega) hnx h hn hr
        · by_cases h5 : c.toNat < 248
          · have hnx : ∀ t', Sp.next (c :: t') = Sp.tailR 4 ((c.toNat : Int) - 240) t' := fun t' => by simp only [Sp.next, if_neg h1, if_neg h2, if_neg h3, if_neg h4, if_pos h5]
            rw [hnx] at h
            exact chn_tail (by omega) (by omega) hnx h hn hr
          · simp only [Sp.next, if_neg h1, if_neg h2, if_neg h3, if_neg h4, if_neg h5] at h
            injection h with h6 h7; omega

theorem sp_next_le (l : List UInt8) : (Sp.next l).2 ≤ l.length := by
  have ht : ∀ m r0 (t : List UInt8), 2 ≤ m → (Sp.tailR m r0 t).2 ≤ t.length + 1 := fun m r0 t hm => by
    unfold Sp.tailR
    repeat' split
    all_goals (simp only; omega)
  cases l with
  | nil => simp [Sp.next]
  | cons c t =>
    simp only [Sp.next, List.length_cons]
    repeat' split
    all_goals first | exact ht _ _ _ (by omega) | (simp only; omega)

theorem Cs.of_none : ∀ (k p p' : Nat) (l : List UInt8), Sp.bad k p l = none → Sp.badChar k p' l = none → Cs l := by
  intro k
  induction k with
  | zero => intro p p' l h _; cases l with
    | nil => exact .nil
    | cons => cases h
  | succ k ih =>
    intro p p' l h h2
    cases l with
    | nil => exact .nil
    | cons c t =>
      unfold Sp.bad at h
      unfold Sp.badChar at h2
      obtain ⟨r, n, hrn⟩ : ∃ r n, Sp.next (c :: t) = (r, n) := ⟨_, _, rfl⟩
      rw [hrn] at h h2
      simp only at h h2
      split at h
      · cases h
      · rename_i hn
        split at h2
        · rename_i hc
          have := Cs.cons _ _ _ (chn_next hrn hn hc) (ih _ _ _ h h2)
          rwa [List.take_append_drop] at this
        · cases h2
theorem Chn.len {u : List UInt8} {r : Int} (h : Chn u r) : 1 ≤ u.length := by
  have := h.ne
  cases u with
  | nil => exact absurd rfl this
  | cons => simp
theorem Cs.none {l : List UInt8} (h : Cs l) : ∀ (k p : Nat), l.length < k → Sp.bad k p l = none ∧ Sp.badChar k p l = none := by
  induction h with
  | nil => intro k p _; cases k <;> exact ⟨rfl, rfl⟩
  | cons u t r hu ht ih =>
    intro k p hk
    have hl := hu.len
    cases hut : u ++ t with
    | nil => cases u with
      | nil => exact absurd rfl hu.ne
      | cons => cases hut
    | cons c t' =>
      cases k with
      | zero => omega
      | succ k =>
        rw [List.length_append] at hk
        unfold Sp.bad Sp.badChar
        rw [← hut, hu.nx]
        simp only [List.drop_left]
        rw [if_neg (by omega), if_pos hu.ch]
        exact ih _ _ (by omega)

theorem Cs.append {a b : List UInt8} (ha : Cs a) (hb : Cs b) : Cs (a ++ b) := by
  induction ha with
  | nil => exact hb
  | cons u t r hu ht ih => rw [List.append_assoc]; exact .cons u _ r hu ih
theorem Chn.cs {u : List UInt8} {r : Int} (h : Chn u r) : Cs u := by
  have := Cs.cons u [] r h .nil
  rwa [List.append_nil] at this
theorem Cs.at_ascii {l : List UInt8} (h : Cs l) : ∀ (a b : List UInt8) (c : UInt8), l = a ++ c :: b → c.toNat < 128 → Cs a ∧ Cs [c] ∧ Cs b := by
  induction h with
  | nil => intro a b c h _; cases a <;> cases h
  | cons u t r hu ht ih =>
    intro a b c h hc
    rcases List.append_eq_append_iff.1 h with ⟨a', h1, h2⟩ | ⟨a', h1, h2⟩
    · subst h1
      have := ih a' b c h2 hc
      exact ⟨.cons _ _ r hu this.1, this.2⟩
    · cases a' with
      | nil =>
        rw [List.append_nil] at h1
        subst h1
        have := ih [] b c h2.symm hc
        exact ⟨hu.cs, this.2⟩
      | cons y a' =>
        injection h2 with h3 h4
        subst h3
        rcases hu.hd with ⟨d, rfl, _, _⟩ | ⟨_, hall⟩
        · cases a with
          | nil =>
            injection h1 with h5 h6
            subst h5
            rw [← h6] at h4
            exact ⟨.nil, hu.cs, by rw [h4]; exact ht⟩
          | cons z a => injection h1 with h5 h6; cases a <;> cases h6
        · have := hall c (by rw [h1]; simp)
          omega
/-- A place with an ASCII byte at it, or right ahead of it. -/
def Side (l : List UInt8) (j : Nat) : Prop := j = 0 ∨ l.length ≤ j ∨ (∃ c t, l.drop j = c :: t ∧ c.toNat < 128) ∨ (∃ i c t, j = i + 1 ∧ l.drop i = c :: t ∧ c.toNat < 128)
theorem Cs.side {l : List UInt8} (h : Cs l) {j : Nat} (hj : Side l j) : Cs (l.take j) ∧ Cs (l.drop j) := by
  rcases hj with rfl | hj | ⟨c, t, hd, hc⟩ | ⟨i, c, t, rfl, hd, hc⟩
  · exact ⟨.nil, h⟩
  · rw [List.take_of_length_le hj, List.drop_eq_nil_of_le hj]; exact ⟨h, .nil⟩
  · have e : l = l.take j ++ c :: t := by rw [← hd, List.take_append_drop]
    have k := h.at_ascii _ _ _ e hc
    rw [hd]
    exact ⟨k.1, k.2.1.append k.2.2⟩
  · have e : l = l.take i ++ c :: t := by rw [← hd, List.take_append_drop]
    have k := h.at_ascii _ _ _ e hc
    have e2 : l.drop (i + 1) = t := by rw [← List.drop_drop, hd]; rfl
    have e3 : l.take (i + 1) = l.take i ++ [c] := by
      have hl : (l.take i).length = i := by
        rw [List.length_take]
        have := congrArg List.length hd
        rw [List.length_drop, List.length_cons] at this; omega
      conv => lhs; rw [e]
      rw [List.take_append, hl, List.take_of_length_le (by omega)]
      simp
    rw [e2, e3]
    exact ⟨k.1.append k.2.1, k.2.2⟩
end Go.Proofs.YtokdclmikllepaaDoor
