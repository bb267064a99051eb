import Derived.Test.YtokdclmikllepaaGreatDoorMe15
namespace Go.Proofs.YtokdclmikllepaaGreatDoor
open Go.RowKit
set_option linter.unusedVariables false
set_option linter.unusedSimpArgs false

theorem numO_cases (x : List UInt8) : (∃ d, x = 35 :: 120 :: d ∧ Sp.numO x = Sp.numRune 16 d) ∨ (∃ d, x = 35 :: d ∧ d.head? ≠ some 120 ∧ Sp.numO x = Sp.numRune 10 d) ∨ (x.head? ≠ some 35 ∧ Sp.numO x = none) := by
  cases x with
  | nil => exact .inr (.inr ⟨by simp, rfl⟩)
  | cons c t =>
    by_cases hc : c = 35
    · subst hc
      cases t with
      | nil => exact .inr (.inl ⟨[], rfl, by simp, rfl⟩)
      | cons c2 t2 =>
        by_cases h2 : c2 = 120
        · subst h2; exact .inl ⟨t2, rfl, rfl⟩
        · refine .inr (.inl ⟨c2 :: t2, rfl, by simpa using h2, ?_⟩)
          unfold Sp.numO
          split
          · rename_i h; injection h with _ h; injection h with h _; exact absurd h h2
          · rename_i h; injection h with _ h; subst h; rfl
          · rename_i _ h; exact absurd rfl (h _)
    · refine .inr (.inr ⟨by simpa using hc, ?_⟩)
      unfold Sp.numO
      split
      · rename_i h; injection h with h _; exact absurd h hc
      · rename_i h; injection h with h _; exact absurd h hc
      · rfl

/-- What a call of reference comes to, by the specification. -/
theorem reference_calls (s : ByteArray) (g p fr : Nat) (out : Value) (w : World) (hG : Gl w) (hr : Rd w g s p fr out) (hs : s.size ≤ 65536) (hp : p < s.size) (hh : ((L s).drop p).head? = some 38) :
    (∀ t m, Sp.reference p ((L s).drop p) = .ok (t, m) → Calls Tryz.prog 151 #[.pointer (some ⟨g, 0, none⟩)] w fun e' w' => e' = .returned (.string ⟨t.toArray⟩) ∧ Only g w w' ∧ Rd w' g s (p + m) fr out) ∧
    (∀ f, Sp.reference p ((L s).drop p) = .error f → Calls Tryz.prog 151 #[.pointer (some ⟨g, 0, none⟩)] w fun e' w' => e' = pan f ∧ Only g w w') := by
  unfold Sp.reference
  cases hf : Sp.find [59] (((L s).drop p).take 12) with
  | none => exact ⟨(fun _ _ h => by cases h), fun f h => by injection h with h; subst h; exact ref_nosemi s g p fr out w hr hs hp hf⟩
  | some e =>
    simp only
    unfold Sp.refText
    cases hn : Sp.namedO ((((L s).drop p).drop 1).take (e - 1)) with
    | some t =>
      refine ⟨fun t' m h => ?_, fun f h => by cases h⟩
      injection h with h
      injection h with h1 h2
      subst h1 h2
      exact ref_named s g p fr out w hG hr hs hp e hh hf t hn
    | none =>
      simp only
      have key : ∀ (b : Nat) (d : List UInt8) (hform : (b = 16 ∧ (((L s).drop p).drop 1).take (e - 1) = 35 :: 120 :: d) ∨ (b = 10 ∧ (((L s).drop p).drop 1).take (e - 1) = 35 :: d ∧ d.head? ≠ some 120)),
          (∀ t m, (match Sp.numRune b d with | none => Except.error (p, 83) | some t => Except.ok (t, e + 1) : Except Sp.Flt (Sp.Bs × Nat)) = .ok (t, m) → Calls Tryz.prog 151 #[.pointer (some ⟨g, 0, none⟩)] w fun e' w' => e' = .returned (.string ⟨t.toArray⟩) ∧ Only g w w' ∧ Rd w' g s (p + m) fr out) ∧
          (∀ f, (match Sp.numRune b d with | none => Except.error (p, 83) | some t => Except.ok (t, e + 1) : Except Sp.Flt (Sp.Bs × Nat)) = .error f → Calls Tryz.prog 151 #[.pointer (some ⟨g, 0, none⟩)] w fun e' w' => e' = pan f ∧ Only g w w') := by
        intro b d hform
        unfold Sp.numRune
        by_cases hd : d = [] ∨ 8 < d.length
        · rw [if_pos hd]
          refine ⟨(fun _ _ h => by cases h), fun f h => ?_⟩
          injection h with h
          subst h
          by_cases hl : 8 < d.length
          · exact ref_num_long s g p fr out w hG hr hs hp e hh hf b d ⟨hn, hform⟩ hl
          · exact ref_num_err s g p fr out w hG hr hs hp e hh hf b d ⟨hn, hform⟩ (by omega) (.inl (hd.resolve_right hl))
        · rw [if_neg hd]
          have hd0 : d ≠ [] := fun h => hd (.inl h)
          have hd8 : d.length ≤ 8 := Nat.le_of_not_lt fun h => hd (.inr h)
          cases hnum : Sp.number b 0 d with
          | none =>
            refine ⟨(fun _ _ h => by cases h), fun f h => ?_⟩
            injection h with h
            subst h
            exact ref_num_err s g p fr out w hG hr hs hp e hh hf b d ⟨hn, hform⟩ hd8 (.inr hnum)
          | some n =>
            simp only
            cases hch : Sp.isChar (n : Int) with
            | true =>
              simp only [if_true]
              refine ⟨fun t m h => ?_, fun f h => by cases h⟩
              injection h with h
              injection h with h1 h2
              subst h1 h2
              exact ref_num s g p fr out w hG hr hs hp e hh hf b d ⟨hn, hform⟩ n hd8 hd0 hnum hch
            | false =>
              simp only [Bool.false_eq_true, if_false]
              refine ⟨(fun _ _ h => by cases h), fun f h => ?_⟩
              injection h with h
              subst h
              exact ref_num_nochar s g p fr out w hG hr hs hp e hh hf b d ⟨hn, hform⟩ n hd8 hd0 hnum hch
      rcases numO_cases ((((L s).drop p).drop 1).take (e - 1)) with ⟨d, hx, hno⟩ | ⟨d, hx, hx2, hno⟩ | ⟨hx, hno⟩
      · rw [hno]; exact key 16 d (.inl ⟨rfl, hx⟩)
      · rw [hno]; exact key 10 d (.inr ⟨rfl, hx, hx2⟩)
      · rw [hno]
        refine ⟨(fun _ _ h => by cases h), fun f h => ?_⟩
        injection h with h
        subst h
        exact ref_noform s g p fr out w hG hr hs hp e hh hf ⟨hn, hx⟩
end Go.Proofs.YtokdclmikllepaaGreatDoor
