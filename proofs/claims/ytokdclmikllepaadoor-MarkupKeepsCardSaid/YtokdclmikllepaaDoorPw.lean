import Derived.Test.YtokdclmikllepaaDoorSpecA
/-
  Plain laws of Sp: how many bytes a piece has; a document further on.
-/
namespace Go.Proofs.YtokdclmikllepaaDoor
set_option linter.unusedVariables false
set_option linter.unusedSimpArgs false

/-! ### attr, attrs: the equations -/
theorem sp_head_cons {l : List UInt8} {c : UInt8} (h : l.head? = some c) : ∃ t, l = c :: t := by
  cases l with
  | nil => cases h
  | cons a t => exact ⟨t, by injection h with h; rw [h]⟩
theorem attr_zero {fr p : Nat} {l : List UInt8} (h : Sp.nameN (l.length + 1) true l = 0) : Sp.attr fr p l = .error (Sp.stop fr p l) := by
  unfold Sp.attr
  simp only [h, if_true]
theorem attr_none {fr p n b : Nat} {l l2 : List UInt8} (h : Sp.nameN (l.length + 1) true l = n) (h0 : n ≠ 0) (hb : Sp.blanksN (l.drop n) = b) (h2 : (l.drop n).drop b = l2) (hh : l2.head? ≠ some 61) :
    Sp.attr fr p l = .error (Sp.stop fr (p + n + b) l2) := by
  unfold Sp.attr
  simp only [h, hb, h2, if_neg h0]
  split
  · exact absurd rfl hh
  · rfl
/-- Attr behind the equals sign. -/
def attrTail (fr p n k : Nat) (nm : List UInt8) (p4 : Nat) (l4 : List UInt8) : Except Sp.Flt (Sp.At × Nat) :=
  match l4 with
  | e :: l5 => if e = 34 ∨ e = 39 then
      (match Sp.text e true fr (l5.length + 1) (p4 + 1) l5 [] 0 with
      | .error f => .error f
      | .ok (x, m) => if l5.drop m = [] then .error (fr, 84) else .ok (⟨nm, x, p⟩, k + 1 + m + 1))
    else .error (p4, 82)
  | [] => .error (fr, 84)
theorem attr_more {fr p n b b2 : Nat} {l l3 l4 : List UInt8} (h : Sp.nameN (l.length + 1) true l = n) (h0 : n ≠ 0) (hb : Sp.blanksN (l.drop n) = b) (h2 : (l.drop n).drop b = 61 :: l3) (hb2 : Sp.blanksN l3 = b2) (h4 : l3.drop b2 = l4) :
    Sp.attr fr p l = attrTail fr p n (n + b + 1 + b2) (l.take n) (p + n + b + 1 + b2) l4 := by
  unfold Sp.attr attrTail
  simp only [h, hb, h2, if_neg h0, hb2, h4]
  rfl

theorem attr_le (fr p : Nat) (l : List UInt8) (a : Sp.At) (m : Nat) (h : Sp.attr fr p l = .ok (a, m)) : m ≤ l.length := by
  by_cases h0 : Sp.nameN (l.length + 1) true l = 0
  · rw [attr_zero h0] at h; cases h
  · by_cases hh : ((l.drop (Sp.nameN (l.length + 1) true l)).drop (Sp.blanksN (l.drop (Sp.nameN (l.length + 1) true l)))).head? = some 61
    · obtain ⟨l3, h3⟩ := sp_head_cons hh
      rw [attr_more rfl h0 rfl h3 rfl rfl] at h
      have e1 := congrArg List.length h3
      rw [List.length_drop, List.length_drop, List.length_cons] at e1
      generalize Sp.nameN (l.length + 1) true l = n at *
      generalize Sp.blanksN (l.drop n) = b at *
      obtain ⟨b2, hb2⟩ : ∃ x, Sp.blanksN l3 = x := ⟨_, rfl⟩
      rw [hb2] at h
      obtain ⟨l4, h4⟩ : ∃ x, l3.drop b2 = x := ⟨_, rfl⟩
      rw [h4] at h
      have e2 := congrArg List.length h4
      rw [List.length_drop] at e2
      cases l4 with
      | nil => cases h
      | cons e l5 =>
        rw [List.length_cons] at e2
        unfold attrTail at h
        simp only at h
        split at h
        · split at h
          · cases h
          · split at h
            · cases h
            · rename_i x m' _ hd
              injection h with h
              injection h with h1 h2
              have : m' < l5.length := by
                rcases Nat.lt_or_ge m' l5.length with h | h
                · exact h
                · exact absurd (List.drop_eq_nil_of_le h) hd
              omega
        · cases h
    · rw [attr_none rfl h0 rfl rfl hh] at h; cases h

/-- A round of attrs. -/
def attrsIn (fr k p : Nat) (l : List UInt8) (acc : List Sp.At) (n b : Nat) (l1 : List UInt8) : Except Sp.Flt (List Sp.At × Bool × Nat) :=
  match l1 with
  | 62 :: _ => .ok (acc, false, n + b + 1)
  | 47 :: t => match t with
    | 62 :: _ => .ok (acc, true, n + b + 2)
    | t => .error (Sp.stop fr (p + b + 1) t)
  | l1 =>
    if b = 0 then .error (Sp.stop fr p l)
    else match Sp.attr fr (p + b) l1 with
      | .error f => .error f
      | .ok (a, m) => Sp.attrs fr k (p + b + m) (l1.drop m) (acc ++ [a]) (n + b + m)
theorem attrs_in (fr k p : Nat) (l : List UInt8) (acc : List Sp.At) (n : Nat) : Sp.attrs fr (k + 1) p l acc n = attrsIn fr k p l acc n (Sp.blanksN l) (l.drop (Sp.blanksN l)) := rfl
theorem in_gt (fr k p : Nat) (l : List UInt8) (acc : List Sp.At) (n b : Nat) (t : List UInt8) : attrsIn fr k p l acc n b (62 :: t) = .ok (acc, false, n + b + 1) := rfl
theorem in_sl_gt (fr k p : Nat) (l : List UInt8) (acc : List Sp.At) (n b : Nat) (t : List UInt8) : attrsIn fr k p l acc n b (47 :: 62 :: t) = .ok (acc, true, n + b + 2) := rfl
theorem in_sl_no (fr k p : Nat) (l : List UInt8) (acc : List Sp.At) (n b : Nat) (t : List UInt8) (h : t.head? ≠ some 62) : attrsIn fr k p l acc n b (47 :: t) = .error (Sp.stop fr (p + b + 1) t) := by
  unfold attrsIn
  split
  · rename_i h2; injection h2 with h2 _; exact absurd h2 (by decide)
  · rename_i h2
    injection h2 with _ h2
    subst h2
    split
    · exact absurd rfl h
    · rfl
  · rename_i h1 h2; exact absurd rfl (h2 _)
theorem in_gap (fr k p : Nat) (l : List UInt8) (acc : List Sp.At) (n : Nat) (l1 : List UInt8) (h1 : l1.head? ≠ some 62) (h2 : l1.head? ≠ some 47) : attrsIn fr k p l acc n 0 l1 = .error (Sp.stop fr p l) := by
  unfold attrsIn
  split
  · exact absurd rfl h1
  · exact absurd rfl h2
  · rw [if_pos rfl]
theorem in_attr (fr k p : Nat) (l : List UInt8) (acc : List Sp.At) (n b : Nat) (l1 : List UInt8) (h1 : l1.head? ≠ some 62) (h2 : l1.head? ≠ some 47) (hb : b ≠ 0) : attrsIn fr k p l acc n b l1 =
    match Sp.attr fr (p + b) l1 with
      | .error f => .error f
      | .ok (a, m) => Sp.attrs fr k (p + b + m) (l1.drop m) (acc ++ [a]) (n + b + m) := by
  unfold attrsIn
  split
  · exact absurd rfl h1
  · exact absurd rfl h2
  · rw [if_neg hb]

/-! ### what is read has bytes -/
theorem sp_reference_pos (p : Nat) (l x : List UInt8) (m : Nat) (h : Sp.reference p l = .ok (x, m)) : 1 ≤ m := by
  unfold Sp.reference at h
  split at h
  · cases h
  · split at h
    · cases h
    · injection h with h; injection h with h1 h2; omega

theorem sp_text_ge (e : UInt8) (b : Bool) (fr : Nat) : ∀ (k p : Nat) (l acc : List UInt8) (n : Nat) (x : List UInt8) (m : Nat), Sp.text e b fr k p l acc n = .ok (x, m) → n ≤ m := by
  intro k
  induction k with
  | zero => intro p l acc n x m h; injection h with h; injection h with h1 h2; omega
  | succ k ih =>
    intro p l acc n x m h
    cases l with
    | nil => injection h with h; injection h with h1 h2; omega
    | cons c t =>
      unfold Sp.text at h
      split at h
      · injection h with h; injection h with h1 h2; omega
      · split at h
        · split at h
          · cases h
          · have := ih _ _ _ _ _ _ h; omega
        · split at h
          · cases h
          · have := ih _ _ _ _ _ _ h; omega

theorem sp_text_pos (e : UInt8) (b : Bool) (fr k p : Nat) (c : UInt8) (t acc : List UInt8) (x : List UInt8) (m : Nat) (hc : c ≠ e) (h : Sp.text e b fr (k + 1) p (c :: t) acc 0 = .ok (x, m)) : 1 ≤ m := by
  unfold Sp.text at h
  rw [if_neg hc] at h
  by_cases h38 : c = 38
  · rw [if_pos h38] at h
    split at h
    · cases h
    · rename_i x' m' hr
      have h1 := sp_reference_pos _ _ _ _ hr
      have := sp_text_ge _ _ _ _ _ _ _ _ _ _ h; omega
  · rw [if_neg h38] at h
    split at h
    · cases h
    · rename_i h60
      have := sp_text_ge _ _ _ _ _ _ _ _ _ _ h
      have hp : Sp.plainB e c = true := by simp [Sp.plainB, hc, h38, h60]
      rw [List.takeWhile_cons, hp, if_pos rfl, List.length_cons] at this
      omega

theorem sp_attrs_gt (fr : Nat) : ∀ (k p : Nat) (l : List UInt8) (acc : List Sp.At) (n : Nat) (as : List Sp.At) (e : Bool) (m : Nat), Sp.attrs fr k p l acc n = .ok (as, e, m) → n ≤ m := by
  intro k
  induction k with
  | zero => intro p l acc n as e m h; injection h with h; injection h with h1 h2; injection h2 with h2 h3; omega
  | succ k ih =>
    intro p l acc n as e m h
    unfold Sp.attrs at h
    simp only at h
    split at h
    · injection h with h; injection h with h1 h2; injection h2 with h2 h3; omega
    · split at h
      · injection h with h; injection h with h1 h2; injection h2 with h2 h3; omega
      · cases h
    · split at h
      · cases h
      · split at h
        · cases h
        · have := ih _ _ _ _ _ _ _ h; omega

theorem sp_closing_pos (p : Nat) (l : List UInt8) (x : Sp.Mk) (m : Nat) (h : Sp.closing p l = .ok (x, m)) : 1 ≤ m := by
  unfold Sp.closing at h
  simp only at h
  split at h
  · cases h
  · split at h
    · injection h with h; injection h with h1 h2; omega
    · cases h
theorem sp_opening_pos (p : Nat) (l : List UInt8) (x : Sp.Mk) (m : Nat) (h : Sp.opening p l = .ok (x, m)) : 1 ≤ m := by
  unfold Sp.opening at h
  simp only at h
  split at h
  · cases h
  · split at h
    · cases h
    · rename_i ha
      have := sp_attrs_gt _ _ _ _ _ _ _ _ _ ha
      injection h with h; injection h with h1 h2; omega

theorem map_ok {α β : Type} {e : Except Sp.Flt α} {f : α → β} {y : β} (h : e.map f = .ok y) : ∃ x, e = .ok x ∧ f x = y := by
  cases e with
  | error => cases h
  | ok x => injection h with h; exact ⟨x, rfl, h⟩
theorem map_error {α β : Type} {e : Except Sp.Flt α} {f : α → β} {y : Sp.Flt} (h : e.map f = .error y) : e = .error y := by
  cases e with
  | error => injection h with h; rw [h]
  | ok x => cases h

theorem sp_piece_pos (p : Nat) (c : UInt8) (t : List UInt8) (ms : List Sp.Mk) (n : Nat) (h : Sp.piece p (c :: t) = .ok (ms, n)) : 1 ≤ n := by
  unfold Sp.piece at h
  split at h
  · split at h
    · cases h
    · injection h with h; injection h with h1 h2; omega
  · split at h
    · split at h
      · cases h
      · injection h with h; injection h with h1 h2; omega
    · split at h
      · obtain ⟨x, h1, h2⟩ := map_ok h
        injection h2 with h2 h3
        have := sp_closing_pos _ _ _ _ h1; omega
      · split at h
        · obtain ⟨x, h1, h2⟩ := map_ok h
          injection h2 with h2 h3
          have := sp_opening_pos _ _ _ _ h1; omega
        · rename_i hlt
          obtain ⟨x, h1, h2⟩ := map_ok h
          injection h2 with h2 h3
          have := sp_text_pos _ _ _ _ _ c t _ _ _ (by rintro rfl; exact hlt (by simp [List.isPrefixOf])) h1
          omega

/-- Enough rounds are enough. -/
theorem sp_pieces_fuel : ∀ (k k' p : Nat) (l : List UInt8) (acc : List Sp.Mk), l.length < k → l.length < k' → Sp.pieces k p l acc = Sp.pieces k' p l acc := by
  intro k
  induction k with
  | zero => intro k' p l acc h; omega
  | succ k ih =>
    intro k' p l acc h h'
    cases k' with
    | zero => omega
    | succ k' =>
      cases l with
      | nil => rfl
      | cons c t =>
        unfold Sp.pieces
        cases hp : Sp.piece p (c :: t) with
        | error f => rfl
        | ok r =>
          obtain ⟨ms, n⟩ := r
          have := sp_piece_pos _ _ _ _ _ hp
          simp only
          rw [List.length_cons] at h h'
          exact ih _ _ _ _ (by rw [List.length_drop, List.length_cons]; omega) (by rw [List.length_drop, List.length_cons]; omega)

/-! ### a document further on -/
def shF (d : Nat) (f : Sp.Flt) : Sp.Flt := (f.1 + d, f.2)
def shA (d : Nat) (a : Sp.At) : Sp.At := ⟨a.name, a.value, a.at_ + d⟩
def shM (d : Nat) (m : Sp.Mk) : Sp.Mk := ⟨m.kind, m.name, m.attrs.map (shA d), m.empty, m.text, m.at_ + d⟩
def shE {α : Type} (d : Nat) (f : α → α) : Except Sp.Flt α → Except Sp.Flt α
  | .error e => .error (shF d e)
  | .ok x => .ok (f x)

theorem sh_stop (d fr p : Nat) (l : List UInt8) : Sp.stop (fr + d) (p + d) l = shF d (Sp.stop fr p l) := by
  unfold Sp.stop; split <;> rfl
theorem sh_reference (d p : Nat) (l : List UInt8) : Sp.reference (p + d) l = shE d id (Sp.reference p l) := by
  unfold Sp.reference
  split
  · rfl
  · split <;> rfl
theorem sh_text (e : UInt8) (b : Bool) (fr fr' d : Nat) : ∀ (k p : Nat) (l acc : List UInt8) (n : Nat), Sp.text e b fr' k (p + d) l acc n = shE d id (Sp.text e b fr k p l acc n) := by
  intro k
  induction k with
  | zero => intro p l acc n; rfl
  | succ k ih =>
    intro p l acc n
    cases l with
    | nil => rfl
    | cons c t =>
      unfold Sp.text
      split
      · rfl
      · split
        · rw [sh_reference]
          cases Sp.reference p (c :: t) with
          | error f => rfl
          | ok r =>
            obtain ⟨x, m⟩ := r
            show Sp.text e b fr' k (p + d + m) _ _ _ = _
            rw [show p + d + m = p + m + d by omega, ih]
        · split
          · rfl
          · rw [show p + d + ((c :: t).takeWhile (Sp.plainB e)).length = p + ((c :: t).takeWhile (Sp.plainB e)).length + d by omega, ih]
theorem sh_attr (d fr p : Nat) (l : List UInt8) : Sp.attr (fr + d) (p + d) l = shE d (fun r => (shA d r.1, r.2)) (Sp.attr fr p l) := by
  unfold Sp.attr
  simp only
  generalize Sp.nameN (l.length + 1) true l = n
  generalize Sp.blanksN (l.drop n) = b
  split
  · rw [sh_stop]; rfl
  · split
    · rename_i l3 _
      generalize Sp.blanksN l3 = b2
      split
      · split
        · rename_i e l5 _ _
          rw [show p + d + n + b + 1 + b2 + 1 = p + n + b + 1 + b2 + 1 + d by omega, sh_text (fr := fr)]
          cases Sp.text e true fr (l5.length + 1) (p + n + b + 1 + b2 + 1) l5 [] 0 with
          | error f => rfl
          | ok r =>
            obtain ⟨x, m⟩ := r
            simp only [shE, id]
            split <;> rfl
        · rw [show p + d + n + b + 1 + b2 = p + n + b + 1 + b2 + d by omega]; rfl
      · rfl
    · rw [show p + d + n + b = p + n + b + d by omega, sh_stop]; rfl
theorem sh_attrs (d fr : Nat) : ∀ (k p : Nat) (l : List UInt8) (acc : List Sp.At) (n : Nat), Sp.attrs (fr + d) k (p + d) l (acc.map (shA d)) n = shE d (fun r => (r.1.map (shA d), r.2)) (Sp.attrs fr k p l acc n) := by
  intro k
  induction k with
  | zero => intro p l acc n; rfl
  | succ k ih =>
    intro p l acc n
    unfold Sp.attrs
    simp only
    generalize Sp.blanksN l = b
    split
    · rfl
    · split
      · rfl
      · rw [show p + d + b + 1 = p + b + 1 + d by omega, sh_stop]; rfl
    · split
      · rw [sh_stop]; rfl
      · rw [show p + d + b = p + b + d by omega, sh_attr]
        cases Sp.attr fr (p + b) (l.drop b) with
        | error f => rfl
        | ok r =>
          obtain ⟨a, m⟩ := r
          show Sp.attrs (fr + d) k (p + b + d + m) _ (acc.map (shA d) ++ [shA d a]) _ = _
          rw [show p + b + d + m = p + b + m + d by omega, show acc.map (shA d) ++ [shA d a] = (acc ++ [a]).map (shA d) by simp, ih]
theorem sh_opening (d p : Nat) (l : List UInt8) : Sp.opening (p + d) l = shE d (fun r => (shM d r.1, r.2)) (Sp.opening p l) := by
  unfold Sp.opening
  simp only
  generalize Sp.nameN ((l.drop 1).length + 1) true (l.drop 1) = n
  split
  · rw [show p + d + 1 = p + 1 + d by omega, sh_stop]; rfl
  · rw [show p + d + 1 + n = p + 1 + n + d by omega]
    have := sh_attrs d p (l.length + 1) (p + 1 + n) ((l.drop 1).drop n) [] (1 + n)
    rw [List.map_nil] at this
    rw [this]
    cases Sp.attrs p (l.length + 1) (p + 1 + n) ((l.drop 1).drop n) [] (1 + n) with
    | error f => rfl
    | ok r => rfl
theorem sh_closing (d p : Nat) (l : List UInt8) : Sp.closing (p + d) l = shE d (fun r => (shM d r.1, r.2)) (Sp.closing p l) := by
  unfold Sp.closing
  simp only
  generalize Sp.nameN ((l.drop 2).length + 1) true (l.drop 2) = n
  split
  · rw [show p + d + 2 = p + 2 + d by omega, sh_stop]; rfl
  · split
    · rfl
    · rw [show p + d + 2 + n + Sp.blanksN ((l.drop 2).drop n) = p + 2 + n + Sp.blanksN ((l.drop 2).drop n) + d by omega, sh_stop]; rfl
theorem sh_tell (d p : Nat) (t : List UInt8) : Sp.tell t (p + d) = (Sp.tell t p).map (shM d) := by
  unfold Sp.tell; split <;> rfl
theorem sh_piece (d p : Nat) (l : List UInt8) : Sp.piece (p + d) l = shE d (fun r => (r.1.map (shM d), r.2)) (Sp.piece p l) := by
  unfold Sp.piece
  split
  · split <;> rfl
  · split
    · split
      · rfl
      · rw [sh_tell]; rfl
    · split
      · rw [sh_closing]
        cases Sp.closing p l <;> rfl
      · split
        · rw [sh_opening]
          cases Sp.opening p l <;> rfl
        · rw [sh_text (fr := p)]
          cases Sp.text 60 false p (l.length + 1) p l [] 0 with
          | error f => rfl
          | ok r =>
            show Except.ok (Sp.tell r.1 (p + d), r.2) = _
            rw [sh_tell]; rfl
theorem sh_pieces (d : Nat) : ∀ (k p : Nat) (l : List UInt8) (acc : List Sp.Mk), Sp.pieces k (p + d) l (acc.map (shM d)) = shE d (fun r => r.map (shM d)) (Sp.pieces k p l acc) := by
  intro k
  induction k with
  | zero => intro p l acc; cases l <;> rfl
  | succ k ih =>
    intro p l acc
    cases l with
    | nil => rfl
    | cons c t =>
      unfold Sp.pieces
      rw [sh_piece]
      cases Sp.piece p (c :: t) with
      | error f => rfl
      | ok r =>
        obtain ⟨ms, n⟩ := r
        show Sp.pieces k (p + d + n) _ (acc.map (shM d) ++ ms.map (shM d)) = _
        rw [show p + d + n = p + n + d by omega, ← List.map_append, ih]
theorem sh_bad (d : Nat) : ∀ (k p : Nat) (l : List UInt8), Sp.bad k (p + d) l = (Sp.bad k p l).map (· + d) := by
  intro k
  induction k with
  | zero => intro p l; cases l <;> rfl
  | succ k ih =>
    intro p l
    cases l with
    | nil => rfl
    | cons c t =>
      unfold Sp.bad
      split
      · rfl
      · rw [show p + d + (Sp.next (c :: t)).2 = p + (Sp.next (c :: t)).2 + d by omega, ih]
theorem sh_badChar (d : Nat) : ∀ (k p : Nat) (l : List UInt8), Sp.badChar k (p + d) l = (Sp.badChar k p l).map (· + d) := by
  intro k
  induction k with
  | zero => intro p l; cases l <;> rfl
  | succ k ih =>
    intro p l
    cases l with
    | nil => rfl
    | cons c t =>
      unfold Sp.badChar
      split
      · rw [show p + d + (Sp.next (c :: t)).2 = p + (Sp.next (c :: t)).2 + d by omega, ih]
      · rfl

/-- What MarkupKeeps lays ahead. -/
def head14 : List UInt8 := [60, 33, 45, 45, 32, 60, 97, 62, 32, 38, 32, 45, 45, 62]
theorem bad_head (k : Nat) (l : List UInt8) : Sp.bad (k + 14) 0 (head14 ++ l) = Sp.bad k 14 l := by rfl
theorem badChar_head (k : Nat) (l : List UInt8) : Sp.badChar (k + 14) 0 (head14 ++ l) = Sp.badChar k 14 l := by rfl
theorem piece_head (l : List UInt8) : Sp.piece 0 (head14 ++ l) = .ok ([], 14) := by rfl
theorem prolog_head (l : List UInt8) : Sp.prolog (head14 ++ l) = .ok 0 := by rfl
theorem pieces_head (k : Nat) (l : List UInt8) (acc : List Sp.Mk) : Sp.pieces (k + 1) 0 (head14 ++ l) acc = Sp.pieces k 14 l acc := by
  have h : head14 ++ l = 60 :: (head14.tail ++ l) := rfl
  rw [h]
  have e : Sp.pieces (k + 1) 0 (60 :: (head14.tail ++ l)) acc = match Sp.piece 0 (60 :: (head14.tail ++ l)) with
    | .error f => .error f
    | .ok (ms, n) => Sp.pieces k (0 + n) ((60 :: (head14.tail ++ l)).drop n) (acc ++ ms) := rfl
  rw [e, ← h, piece_head]
  show Sp.pieces k 14 l (acc ++ []) = _
  rw [List.append_nil]
theorem prolog_none (l : List UInt8) (h : ¬ (4 < l.length ∧ l.take 5 = Sp.xml5)) : Sp.prolog l = .ok 0 := by
  unfold Sp.prolog
  split
  · rename_i c t hd
    rw [if_neg]
    rintro ⟨h1, h2⟩
    apply h
    have hl := congrArg List.length hd
    rw [List.length_drop, List.length_cons] at hl
    refine ⟨by omega, ?_⟩
    obtain ⟨t, rfl⟩ := List.isPrefixOf_iff_prefix.1 h1
    rfl
  · rfl

/-- A document with something passed over ahead of it. -/
theorem marks_head (l : List UInt8) (h : ¬ (4 < l.length ∧ l.take 5 = Sp.xml5)) (hl : l.length ≤ 60000) :
    Sp.marks (head14 ++ l) = shE 14 (fun r => r.map (shM 14)) (Sp.marks l) := by
  have hlen : (head14 ++ l).length = l.length + 14 := by rw [List.length_append, Nat.add_comm]; rfl
  unfold Sp.marks
  rw [if_neg (by omega), if_neg (by omega), hlen, show l.length + 14 + 1 = l.length + 1 + 14 by omega, bad_head, show (14 : Nat) = 0 + 14 from rfl, sh_bad]
  cases Sp.bad (l.length + 1) 0 l with
  | some i => rfl
  | none =>
    simp only [Option.map]
    rw [badChar_head, show (14 : Nat) = 0 + 14 from rfl, sh_badChar]
    cases Sp.badChar (l.length + 1) 0 l with
    | some i => rfl
    | none =>
      simp only [Option.map]
      rw [prolog_head, prolog_none l h]
      simp only [List.drop_zero]
      rw [show l.length + 1 + (0 + 14) = l.length + 14 + 1 by omega, pieces_head, sp_pieces_fuel _ (l.length + 1) _ _ _ (by omega) (by omega)]
      have := sh_pieces 14 (l.length + 1) 0 l []
      rw [List.map_nil] at this
      exact this
end Go.Proofs.YtokdclmikllepaaDoor
