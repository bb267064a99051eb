import Derived.Test.YtokdclmikllepaaGreatDoorKt37
namespace Go.Proofs.YtokdclmikllepaaGreatDoor
open Go.RowKit
set_option linter.unusedVariables false
set_option linter.unusedSimpArgs false

theorem find_step (what l : List UInt8) (c : UInt8) : Sp.find what (c :: l) = if what.isPrefixOf (c :: l) = true then some 0 else (Sp.find what l).map (· + 1) := rfl

end Go.Proofs.YtokdclmikllepaaGreatDoor
namespace Go.Proofs.YtokdclmikllepaaGreatDoor
open Go.RowKit
set_option linter.unusedVariables false
set_option linter.unusedSimpArgs false

/-- A number's rune, told as Go tells it. -/
def numI (base : Nat) (l : List UInt8) : Int :=
  if l = [] ∨ 8 < l.length then -1
  else match Sp.number base 0 l with
    | some n => if Sp.isChar (n : Int) = true then (n : Int) else -1
    | none => -1

end Go.Proofs.YtokdclmikllepaaGreatDoor
namespace Go.Proofs.YtokdclmikllepaaGreatDoor
open Go.RowKit
set_option linter.unusedVariables false
set_option linter.unusedSimpArgs false

theorem find59_take (l : List UInt8) (k : Nat) : Sp.find [59] (l.take k) = match Sp.find [59] l with | some e => if e < k then some e else none | none => none := by
  induction l generalizing k with
  | nil => cases k <;> rfl
  | cons c t ih =>
    cases k with
    | zero =>
      simp only [List.take_zero, Nat.not_lt_zero, if_false]
      cases Sp.find [59] (c :: t) <;> rfl
    | succ k =>
      rw [List.take_succ_cons, find_step, find_step]
      by_cases h : c = 59
      · subst h; rfl
      · have hp : ∀ u : List UInt8, ([59] : List UInt8).isPrefixOf (c :: u) = false := fun u => by
          simp only [List.isPrefixOf, Bool.and_true, beq_eq_false_iff_ne]
          exact fun e => h e.symm
        rw [hp, hp, if_neg (by simp), if_neg (by simp), ih]
        cases Sp.find [59] t with
        | none => rfl
        | some e =>
          simp only [Option.map]
          by_cases hk : e < k
          · rw [if_pos hk, if_pos (by omega)]
          · rw [if_neg hk, if_neg (by omega)]

theorem numRune_is (base : Nat) (l : List UInt8) : Sp.numRune base l = if numI base l < 0 then none else some (Sp.put (numI base l)) := by
  unfold Sp.numRune numI
  by_cases h : l = [] ∨ 8 < l.length
  · rw [if_pos h, if_pos h]; rfl
  · rw [if_neg h, if_neg h]
    cases Sp.number base 0 l with
    | none => rfl
    | some n =>
      simp only
      by_cases hc : Sp.isChar (n : Int) = true
      · rw [if_pos hc, if_pos hc, if_neg (by omega)]
      · rw [if_neg hc, if_neg hc]; rfl

theorem numI_ge (base : Nat) (l : List UInt8) : -1 ≤ numI base l ∧ numI base l ≤ 1114111 ∧ (8 < l.length → numI base l = -1) := by
  unfold numI
  split
  · exact ⟨by omega, by omega, fun _ => rfl⟩
  · rename_i h
    refine ⟨?_, ?_, fun h8 => absurd (.inr h8) h⟩
    · repeat' split
      all_goals omega
    · split
      · split
        · rename_i hc
          simp [Sp.isChar, Sp.isRune] at hc
          omega
        · omega
      · omega

theorem refText_long (x : List UInt8) (h : 10 < x.length) : Sp.refText x = none := by
  have hn : ∀ l : List UInt8, l.length ≤ 10 → x ≠ l := fun l hl e => by subst e; omega
  unfold Sp.refText Sp.namedO
  rw [if_neg (hn _ (by decide)), if_neg (hn _ (by decide)), if_neg (hn _ (by decide)), if_neg (hn _ (by decide)), if_neg (hn _ (by decide))]
  simp only
  unfold Sp.numO
  split
  · rename_i t
    rw [numRune_is, (numI_ge 16 t).2.2 (by simp at h; omega)]; rfl
  · rename_i t _
    rw [numRune_is, (numI_ge 10 t).2.2 (by simp at h; omega)]; rfl
  · rfl

/-- A reference, its end sought wherever it may be. -/
theorem reference_is (p : Nat) (l : List UInt8) : Sp.reference p l = match Sp.find [59] l with | none => .error (p, 83) | some e => match Sp.refText ((l.drop 1).take (e - 1)) with | none => .error (p, 83) | some t => .ok (t, e + 1) := by
  unfold Sp.reference
  rw [find59_take]
  cases hf : Sp.find [59] l with
  | none => rfl
  | some e =>
    simp only
    by_cases h : e < 12
    · simp only [if_pos h]
      cases Sp.refText ((l.drop 1).take (e - 1)) <;> rfl
    · simp only [if_neg h]
      have hle := find_le _ _ _ hf
      simp only [List.length_cons, List.length_nil] at hle
      rw [refText_long _ (by rw [List.length_take, List.length_drop]; omega)]

end Go.Proofs.YtokdclmikllepaaGreatDoor
