import Derived.Test.YtokdclmikllepaaGreatDoorMe0
namespace Go.Proofs.YtokdclmikllepaaGreatDoor
set_option linter.unusedVariables false
set_option linter.unusedSimpArgs false

theorem sp_head_cons {l : List UInt8} {c : UInt8} (h : l.head? = some c) : ∃ t, l = c :: t := by
  cases l with
  | nil => cases h
  | cons a t => exact ⟨t, by injection h with h; rw [h]⟩
theorem attr_zero {fr p : Nat} {l : List UInt8} (h : Sp.nameN (l.length + 1) true l = 0) : Sp.attr fr p l = .error (Sp.stop fr p l) := by
  unfold Sp.attr
  simp only [h, if_true]
theorem attr_none {fr p n b : Nat} {l l2 : List UInt8} (h : Sp.nameN (l.length + 1) true l = n) (h0 : n ≠ 0) (hb : Sp.blanksN (l.drop n) = b) (h2 : (l.drop n).drop b = l2) (hh : l2.head? ≠ some 61) :
    Sp.attr fr p l = .error (Sp.stop fr (p + n + b) l2) := by
  unfold Sp.attr
  simp only [h, hb, h2, if_neg h0]
  split
  · exact absurd rfl hh
  · rfl
/-- Attr behind the equals sign. -/
def attrTail (fr p n k : Nat) (nm : List UInt8) (p4 : Nat) (l4 : List UInt8) : Except Sp.Flt (Sp.At × Nat) :=
  match l4 with
  | e :: l5 => if e = 34 ∨ e = 39 then
      (match Sp.text e true fr (l5.length + 1) (p4 + 1) l5 [] 0 with
      | .error f => .error f
      | .ok (x, m) => if l5.drop m = [] then .error (fr, 84) else .ok (⟨nm, x, p⟩, k + 1 + m + 1))
    else .error (p4, 82)
  | [] => .error (fr, 84)
theorem attr_more {fr p n b b2 : Nat} {l l3 l4 : List UInt8} (h : Sp.nameN (l.length + 1) true l = n) (h0 : n ≠ 0) (hb : Sp.blanksN (l.drop n) = b) (h2 : (l.drop n).drop b = 61 :: l3) (hb2 : Sp.blanksN l3 = b2) (h4 : l3.drop b2 = l4) :
    Sp.attr fr p l = attrTail fr p n (n + b + 1 + b2) (l.take n) (p + n + b + 1 + b2) l4 := by
  unfold Sp.attr attrTail
  simp only [h, hb, h2, if_neg h0, hb2, h4]
  rfl

theorem attr_le (fr p : Nat) (l : List UInt8) (a : Sp.At) (m : Nat) (h : Sp.attr fr p l = .ok (a, m)) : m ≤ l.length := by
  by_cases h0 : Sp.nameN (l.length + 1) true l = 0
  · rw [attr_zero h0] at h; cases h
  · by_cases hh : ((l.drop (Sp.nameN (l.length + 1) true l)).drop (Sp.blanksN (l.drop (Sp.nameN (l.length + 1) true l)))).head? = some 61
    · obtain ⟨l3, h3⟩ := sp_head_cons hh
      rw [attr_more rfl h0 rfl h3 rfl rfl] at h
      have e1 := congrArg List.length h3
      rw [List.length_drop, List.length_drop, List.length_cons] at e1
      generalize Sp.nameN (l.length + 1) true l = n at *
      generalize Sp.blanksN (l.drop n) = b at *
      obtain ⟨b2, hb2⟩ : ∃ x, Sp.blanksN l3 = x := ⟨_, rfl⟩
      rw [hb2] at h
      obtain ⟨l4, h4⟩ : ∃ x, l3.drop b2 = x := ⟨_, rfl⟩
      rw [h4] at h
      have e2 := congrArg List.length h4
      rw [List.length_drop] at e2
      cases l4 with
      | nil => cases h
      | cons e l5 =>
        rw [List.length_cons] at e2
        unfold attrTail at h
        simp only at h
        split at h
        · split at h
          · cases h
          · split at h
            · cases h
            · rename_i x m' _ hd
              injection h with h
              injection h with h1 h2
              have : m' < l5.length := by
                rcases Nat.lt_or_ge m' l5.length with h | h
                · exact h
                · exact absurd (List.drop_eq_nil_of_le h) hd
              omega
        · cases h
    · rw [attr_none rfl h0 rfl rfl hh] at h; cases h

/-- A round of attrs. -/
def attrsIn (fr k p : Nat) (l : List UInt8) (acc : List Sp.At) (n b : Nat) (l1 : List UInt8) : Except Sp.Flt (List Sp.At × Bool × Nat) :=
  match l1 with
  | 62 :: _ => .ok (acc, false, n + b + 1)
  | 47 :: t => match t with
    | 62 :: _ => .ok (acc, true, n + b + 2)
    | t => .error (Sp.stop fr (p + b + 1) t)
  | l1 =>
    if b = 0 then .error (Sp.stop fr p l)
    else match Sp.attr fr (p + b) l1 with
      | .error f => .error f
      | .ok (a, m) => Sp.attrs fr k (p + b + m) (l1.drop m) (acc ++ [a]) (n + b + m)
theorem attrs_in (fr k p : Nat) (l : List UInt8) (acc : List Sp.At) (n : Nat) : Sp.attrs fr (k + 1) p l acc n = attrsIn fr k p l acc n (Sp.blanksN l) (l.drop (Sp.blanksN l)) := rfl
theorem in_gt (fr k p : Nat) (l : List UInt8) (acc : List Sp.At) (n b : Nat) (t : List UInt8) : attrsIn fr k p l acc n b (62 :: t) = .ok (acc, false, n + b + 1) := rfl
theorem in_sl_gt (fr k p : Nat) (l : List UInt8) (acc : List Sp.At) (n b : Nat) (t : List UInt8) : attrsIn fr k p l acc n b (47 :: 62 :: t) = .ok (acc, true, n + b + 2) := rfl
theorem in_sl_no (fr k p : Nat) (l : List UInt8) (acc : List Sp.At) (n b : Nat) (t : List UInt8) (h : t.head? ≠ some 62) : attrsIn fr k p l acc n b (47 :: t) = .error (Sp.stop fr (p + b + 1) t) := by
  unfold attrsIn
  split
  · rename_i h2; injection h2 with h2 _; exact absurd h2 (by decide)
  · rename_i h2
    injection h2 with _ h2
    subst h2
    split
    · exact absurd rfl h
    · rfl
  · rename_i h1 h2; exact absurd rfl (h2 _)
theorem in_gap (fr k p : Nat) (l : List UInt8) (acc : List Sp.At) (n : Nat) (l1 : List UInt8) (h1 : l1.head? ≠ some 62) (h2 : l1.head? ≠ some 47) : attrsIn fr k p l acc n 0 l1 = .error (Sp.stop fr p l) := by
  unfold attrsIn
  split
  · exact absurd rfl h1
  · exact absurd rfl h2
  · rw [if_pos rfl]
theorem in_attr (fr k p : Nat) (l : List UInt8) (acc : List Sp.At) (n b : Nat) (l1 : List UInt8) (h1 : l1.head? ≠ some 62) (h2 : l1.head? ≠ some 47) (hb : b ≠ 0) : attrsIn fr k p l acc n b l1 =
    match Sp.attr fr (p + b) l1 with
      | .error f => .error f
      | .ok (a, m) => Sp.attrs fr k (p + b + m) (l1.drop m) (acc ++ [a]) (n + b + m) := by
  unfold attrsIn
  split
  · exact absurd rfl h1
  · exact absurd rfl h2
  · rw [if_neg hb]

theorem sp_reference_pos (p : Nat) (l x : List UInt8) (m : Nat) (h : Sp.reference p l = .ok (x, m)) : 1 ≤ m := by
  unfold Sp.reference at h
  split at h
  · cases h
  · split at h
    · cases h
    · injection h with h; injection h with h1 h2; omega

theorem sp_text_ge (e : UInt8) (b : Bool) (fr : Nat) : ∀ (k p : Nat) (l acc : List UInt8) (n : Nat) (x : List UInt8) (m : Nat), Sp.text e b fr k p l acc n = .ok (x, m) → n ≤ m := by
  intro k
  induction k with
  | zero => intro p l acc n x m h; injection h with h; injection h with h1 h2; omega
  | succ k ih =>
    intro p l acc n x m h
    cases l with
    | nil => injection h with h; injection h with h1 h2; omega
    | cons c t =>
      unfold Sp.text at h
      split at h
      · injection h with h; injection h with h1 h2; omega
      · split at h
        · split at h
          · cases h
          · have := ih _ _ _ _ _ _ h; omega
        · split at h
          · cases h
          · have := ih _ _ _ _ _ _ h; omega

theorem sp_text_pos (e : UInt8) (b : Bool) (fr k p : Nat) (c : UInt8) (t acc : List UInt8) (x : List UInt8) (m : Nat) (hc : c ≠ e) (h : Sp.text e b fr (k + 1) p (c :: t) acc 0 = .ok (x, m)) : 1 ≤ m := by
  unfold Sp.text at h
  rw [if_neg hc] at h
  by_cases h38 : c = 38
  · rw [if_pos h38] at h
    split at h
    · cases h
    · rename_i x' m' hr
      have h1 := sp_reference_pos _ _ _ _ hr
      have := sp_text_ge _ _ _ _ _ _ _ _ _ _ h; omega
  · rw [if_neg h38] at h
    split at h
    · cases h
    · rename_i h60
      have := sp_text_ge _ _ _ _ _ _ _ _ _ _ h
      have hp : Sp.plainB e c = true := by simp [Sp.plainB, hc, h38, h60]
      rw [List.takeWhile_cons, hp, if_pos rfl, List.length_cons] at this
      omega

theorem sp_attrs_gt (fr : Nat) : ∀ (k p : Nat) (l : List UInt8) (acc : List Sp.At) (n : Nat) (as : List Sp.At) (e : Bool) (m : Nat), Sp.attrs fr k p l acc n = .ok (as, e, m) → n ≤ m := by
  intro k
  induction k with
  | zero => intro p l acc n as e m h; injection h with h; injection h with h1 h2; injection h2 with h2 h3; omega
  | succ k ih =>
    intro p l acc n as e m h
    unfold Sp.attrs at h
    simp only at h
    split at h
    · injection h with h; injection h with h1 h2; injection h2 with h2 h3; omega
    · split at h
      · injection h with h; injection h with h1 h2; injection h2 with h2 h3; omega
      · cases h
    · split at h
      · cases h
      · split at h
        · cases h
        · have := ih _ _ _ _ _ _ _ h; omega

theorem sp_closing_pos (p : Nat) (l : List UInt8) (x : Sp.Mk) (m : Nat) (h : Sp.closing p l = .ok (x, m)) : 1 ≤ m := by
  unfold Sp.closing at h
  simp only at h
  split at h
  · cases h
  · split at h
    · injection h with h; injection h with h1 h2; omega
    · cases h
theorem sp_opening_pos (p : Nat) (l : List UInt8) (x : Sp.Mk) (m : Nat) (h : Sp.opening p l = .ok (x, m)) : 1 ≤ m := by
  unfold Sp.opening at h
  simp only at h
  split at h
  · cases h
  · split at h
    · cases h
    · rename_i ha
      have := sp_attrs_gt _ _ _ _ _ _ _ _ _ ha
      injection h with h; injection h with h1 h2; omega

theorem map_ok {α β : Type} {e : Except Sp.Flt α} {f : α → β} {y : β} (h : e.map f = .ok y) : ∃ x, e = .ok x ∧ f x = y := by
  cases e with
  | error => cases h
  | ok x => injection h with h; exact ⟨x, rfl, h⟩
theorem map_error {α β : Type} {e : Except Sp.Flt α} {f : α → β} {y : Sp.Flt} (h : e.map f = .error y) : e = .error y := by
  cases e with
  | error => injection h with h; rw [h]
  | ok x => cases h

theorem sp_piece_pos (p : Nat) (c : UInt8) (t : List UInt8) (ms : List Sp.Mk) (n : Nat) (h : Sp.piece p (c :: t) = .ok (ms, n)) : 1 ≤ n := by
  unfold Sp.piece at h
  split at h
  · split at h
    · cases h
    · injection h with h; injection h with h1 h2; omega
  · split at h
    · split at h
      · cases h
      · injection h with h; injection h with h1 h2; omega
    · split at h
      · obtain ⟨x, h1, h2⟩ := map_ok h
        injection h2 with h2 h3
        have := sp_closing_pos _ _ _ _ h1; omega
      · split at h
        · obtain ⟨x, h1, h2⟩ := map_ok h
          injection h2 with h2 h3
          have := sp_opening_pos _ _ _ _ h1; omega
        · rename_i hlt
          obtain ⟨x, h1, h2⟩ := map_ok h
          injection h2 with h2 h3
          have := sp_text_pos _ _ _ _ _ c t _ _ _ (by rintro rfl; exact hlt (by simp [List.isPrefixOf])) h1
          omega

theorem prolog_none (l : List UInt8) (h : ¬ (4 < l.length ∧ l.take 5 = Sp.xml5)) : Sp.prolog l = .ok 0 := by
  unfold Sp.prolog
  split
  · rename_i c t hd
    rw [if_neg]
    rintro ⟨h1, h2⟩
    apply h
    have hl := congrArg List.length hd
    rw [List.length_drop, List.length_cons] at hl
    refine ⟨by omega, ?_⟩
    obtain ⟨t, rfl⟩ := List.isPrefixOf_iff_prefix.1 h1
    rfl
  · rfl

end Go.Proofs.YtokdclmikllepaaGreatDoor
