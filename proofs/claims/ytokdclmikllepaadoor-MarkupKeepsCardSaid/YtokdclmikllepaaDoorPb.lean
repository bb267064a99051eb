import Derived.Test.YtokdclmikllepaaDoorPt
/-
  Plain laws of Sp: places and numbers are bounded by the document's length.
-/
namespace Go.Proofs.YtokdclmikllepaaDoor
set_option linter.unusedVariables false
set_option linter.unusedSimpArgs false

theorem attr_at {fr p : Nat} {l : List UInt8} {a : Sp.At} {m : Nat} (h : Sp.attr fr p l = .ok (a, m)) : a.at_ = p := by
  by_cases h0 : Sp.nameN (l.length + 1) true l = 0
  · rw [attr_zero h0] at h; cases h
  · by_cases hh : ((l.drop (Sp.nameN (l.length + 1) true l)).drop (Sp.blanksN (l.drop (Sp.nameN (l.length + 1) true l)))).head? = some 61
    · obtain ⟨l3, h3⟩ := sp_head_cons hh
      rw [attr_more rfl h0 rfl h3 rfl rfl] at h
      unfold attrTail at h
      split at h
      · split at h
        · split at h
          · cases h
          · split at h
            · cases h
            · injection h with h; injection h with h1 h2; rw [← h1]
        · cases h
      · cases h
    · rw [attr_none rfl h0 rfl rfl hh] at h; cases h

theorem attrs_bd (fr : Nat) : ∀ (k p : Nat) (l : List UInt8) (acc : List Sp.At) (n : Nat) (az : List Sp.At) (e : Bool) (m M : Nat), Sp.attrs fr k p l acc n = .ok (az, e, m) → p + l.length ≤ M → (∀ a ∈ acc, a.at_ ≤ M) →
    (∀ a ∈ az, a.at_ ≤ M) ∧ az.length + n ≤ acc.length + m := by
  intro k
  induction k with
  | zero =>
    intro p l acc n az e m M h _ ha
    injection h with h; injection h with h1 h2; injection h2 with h2 h3
    subst h1 h3
    exact ⟨ha, by omega⟩
  | succ k ih =>
    intro p l acc n az e m M h hM ha
    rw [attrs_in] at h
    have hbl := blanks_le l
    obtain ⟨b, hb⟩ : ∃ b, Sp.blanksN l = b := ⟨_, rfl⟩
    rw [hb] at h hbl
    by_cases h62 : (l.drop b).head? = some 62
    · obtain ⟨t, ht⟩ := sp_head_cons h62
      rw [ht, in_gt] at h
      injection h with h; injection h with h1 h2; injection h2 with h2 h3
      subst h1
      exact ⟨ha, by omega⟩
    · by_cases h47 : (l.drop b).head? = some 47
      · obtain ⟨t, ht⟩ := sp_head_cons h47
        rw [ht] at h
        by_cases h2 : t.head? = some 62
        · obtain ⟨t2, rfl⟩ := sp_head_cons h2
          rw [in_sl_gt] at h
          injection h with h; injection h with h1 h2; injection h2 with h2 h3
          subst h1
          exact ⟨ha, by omega⟩
        · rw [in_sl_no _ _ _ _ _ _ _ _ h2] at h; cases h
      · by_cases hb0 : b = 0
        · subst hb0
          rw [in_gap _ _ _ _ _ _ _ h62 h47] at h; cases h
        · rw [in_attr _ _ _ _ _ _ _ _ h62 h47 hb0] at h
          have hfd := attr_fd fr (p + b) (l.drop b)
          cases hat : Sp.attr fr (p + b) (l.drop b) with
          | error f => rw [hat] at h; cases h
          | ok r =>
            obtain ⟨a, m0⟩ := r
            rw [hat] at h
            have hm := hfd.2 a m0 hat
            have hm1 := hm.1.1
            rw [List.length_drop] at hm1
            obtain ⟨k1, k2⟩ := ih _ _ _ _ _ _ _ M h (by rw [List.length_drop, List.length_drop]; omega) (fun x hx => by
              rcases List.mem_append.1 hx with hx | hx
              · exact ha x hx
              · rw [List.mem_singleton.1 hx, attr_at hat]; omega)
            refine ⟨k1, ?_⟩
            rw [List.length_append, List.length_singleton] at k2
            omega

/-- A mark's places, and how many attributes it has. -/
def MkBd (M : Nat) (m : Sp.Mk) : Prop := m.at_ ≤ M ∧ m.attrs.length ≤ M ∧ ∀ a ∈ m.attrs, a.at_ ≤ M
theorem sp_tell_len (t : List UInt8) (p : Nat) : (Sp.tell t p).length ≤ 1 := by
  unfold Sp.tell; split <;> simp
theorem tell_bd (M p : Nat) (t : List UInt8) (h : p ≤ M) : ∀ m ∈ Sp.tell t p, MkBd M m := by
  intro m hm
  unfold Sp.tell at hm
  split at hm
  · cases hm
  · rw [List.mem_singleton.1 hm]; exact ⟨h, Nat.zero_le _, fun a ha => nomatch ha⟩
theorem piece_bd (p : Nat) (c : UInt8) (t : List UInt8) (ms : List Sp.Mk) (n M : Nat) (h : Sp.piece p (c :: t) = .ok (ms, n)) (hM : p + (c :: t).length ≤ M) : (∀ m ∈ ms, MkBd M m) ∧ ms.length ≤ n := by
  have hpos := sp_piece_pos _ _ _ _ _ h
  unfold Sp.piece at h
  split at h
  · split at h
    · cases h
    · injection h with h; injection h with h1 h2
      subst h1
      exact ⟨fun m hm => (nomatch hm), Nat.zero_le _⟩
  · split at h
    · split at h
      · cases h
      · injection h with h; injection h with h1 h2
        subst h1
        refine ⟨tell_bd M p _ (by omega), ?_⟩
        exact Nat.le_trans (sp_tell_len _ _) hpos
    · split at h
      · obtain ⟨y, h1, h2⟩ := map_ok h
        injection h2 with h2 h3
        subst h2
        refine ⟨fun m hm => ?_, by simpa using hpos⟩
        rw [List.mem_singleton.1 hm]
        have h1' : Sp.closing p (c :: t) = .ok (y.1, y.2) := h1
        unfold Sp.closing at h1'
        simp only at h1'
        split at h1'
        · cases h1'
        · split at h1'
          · injection h1' with h1'; injection h1' with h4 h5
            rw [← h4]
            exact ⟨by show p ≤ M; omega, Nat.zero_le _, fun a ha => nomatch ha⟩
          · cases h1'
      · split at h
        · obtain ⟨y, h1, h2⟩ := map_ok h
          injection h2 with h2 h3
          subst h2
          refine ⟨fun m hm => ?_, by simpa using hpos⟩
          rw [List.mem_singleton.1 hm]
          rename_i hp
          obtain ⟨t2, ht2⟩ := prefix_cons hp
          have hfar := (opening_fd p t2).2 y.1 y.2 (by rw [← ht2]; exact h1)
          have hle := hfar.1
          rw [← ht2] at hle
          have h1' : Sp.opening p (c :: t) = .ok (y.1, y.2) := h1
          unfold Sp.opening at h1'
          simp only [List.drop_succ_cons, List.drop_zero] at h1'
          have hnl := name_le (t.length + 1) true t
          generalize Sp.nameN (t.length + 1) true t = nn at h1' hnl
          rw [List.length_cons] at hM hle
          split at h1'
          · cases h1'
          · split at h1'
            · cases h1'
            · rename_i hat
              obtain ⟨k1, k2⟩ := attrs_bd _ _ _ _ _ _ _ _ _ M hat (by rw [List.length_drop]; omega) (fun a ha => nomatch ha)
              injection h1' with h1'; injection h1' with h4 h5
              rw [← h4]
              simp only [List.length_nil] at k2
              exact ⟨by simp only; omega, by simp only; omega, k1⟩
        · obtain ⟨y, h1, h2⟩ := map_ok h
          injection h2 with h2 h3
          subst h2
          refine ⟨tell_bd M p _ (by omega), ?_⟩
          exact Nat.le_trans (sp_tell_len _ _) hpos
theorem pieces_bd : ∀ (k p : Nat) (l : List UInt8) (acc r : List Sp.Mk) (M : Nat), Sp.pieces k p l acc = .ok r → p + l.length ≤ M → acc.length ≤ p → (∀ m ∈ acc, MkBd M m) → (∀ m ∈ r, MkBd M m) ∧ r.length ≤ M := by
  intro k
  induction k with
  | zero =>
    intro p l acc r M h hM hl ha
    cases l <;> (injection h with h; subst h; exact ⟨ha, by omega⟩)
  | succ k ih =>
    intro p l acc r M h hM hl ha
    cases l with
    | nil => injection h with h; subst h; exact ⟨ha, by omega⟩
    | cons c t =>
      unfold Sp.pieces at h
      cases hp : Sp.piece p (c :: t) with
      | error f => rw [hp] at h; cases h
      | ok x =>
        obtain ⟨ms, n⟩ := x
        rw [hp] at h
        obtain ⟨b1, b2⟩ := piece_bd p c t ms n M hp hM
        have hfar := ((piece_fd p c t).2 ms n hp).1
        exact ih _ _ _ _ M h (by rw [List.length_drop]; omega) (by rw [List.length_append]; omega) (fun m hm => by
          rcases List.mem_append.1 hm with hm | hm
          · exact ha m hm
          · exact b1 m hm)
theorem marks_bd (l : List UInt8) (r : List Sp.Mk) (h : Sp.marks l = .ok r) : (∀ m ∈ r, MkBd l.length m) ∧ r.length ≤ l.length ∧ l.length ≤ 65536 := by
  unfold Sp.marks at h
  split at h
  · cases h
  · rename_i hl
    split at h
    · cases h
    · split at h
      · cases h
      · split at h
        · cases h
        · rename_i n hp
          have hn := ((prolog_fd l).2 n hp).1
          obtain ⟨k1, k2⟩ := pieces_bd _ _ _ _ _ l.length h (by rw [List.length_drop]; omega) (Nat.zero_le _) (fun m hm => nomatch hm)
          exact ⟨k1, k2, by omega⟩
end Go.Proofs.YtokdclmikllepaaDoor
