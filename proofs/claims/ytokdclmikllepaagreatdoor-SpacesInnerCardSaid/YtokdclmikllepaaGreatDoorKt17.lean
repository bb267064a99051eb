import Derived.Test.YtokdclmikllepaaGreatDoorKt0
namespace Go.Proofs.YtokdclmikllepaaGreatDoor
set_option linter.unusedVariables false
set_option linter.unusedSimpArgs false

theorem sp_head_cons {l : List UInt8} {c : UInt8} (h : l.head? = some c) : ∃ t, l = c :: t := by
  cases l with
  | nil => cases h
  | cons a t => exact ⟨t, by injection h with h; rw [h]⟩
theorem attr_zero {fr p : Nat} {l : List UInt8} (h : Sp.nameN (l.length + 1) true l = 0) : Sp.attr fr p l = .error (Sp.stop fr p l) := by
  unfold Sp.attr
  simp only [h, if_true]
theorem attr_none {fr p n b : Nat} {l l2 : List UInt8} (h : Sp.nameN (l.length + 1) true l = n) (h0 : n ≠ 0) (hb : Sp.blanksN (l.drop n) = b) (h2 : (l.drop n).drop b = l2) (hh : l2.head? ≠ some 61) :
    Sp.attr fr p l = .error (Sp.stop fr (p + n + b) l2) := by
  unfold Sp.attr
  simp only [h, hb, h2, if_neg h0]
  split
  · exact absurd rfl hh
  · rfl
/-- Attr behind the equals sign. -/
def attrTail (fr p n k : Nat) (nm : List UInt8) (p4 : Nat) (l4 : List UInt8) : Except Sp.Flt (Sp.At × Nat) :=
  match l4 with
  | e :: l5 => if e = 34 ∨ e = 39 then
      (match Sp.text e true fr (l5.length + 1) (p4 + 1) l5 [] 0 with
      | .error f => .error f
      | .ok (x, m) => if l5.drop m = [] then .error (fr, 84) else .ok (⟨nm, x, p⟩, k + 1 + m + 1))
    else .error (p4, 82)
  | [] => .error (fr, 84)
theorem attr_more {fr p n b b2 : Nat} {l l3 l4 : List UInt8} (h : Sp.nameN (l.length + 1) true l = n) (h0 : n ≠ 0) (hb : Sp.blanksN (l.drop n) = b) (h2 : (l.drop n).drop b = 61 :: l3) (hb2 : Sp.blanksN l3 = b2) (h4 : l3.drop b2 = l4) :
    Sp.attr fr p l = attrTail fr p n (n + b + 1 + b2) (l.take n) (p + n + b + 1 + b2) l4 := by
  unfold Sp.attr attrTail
  simp only [h, hb, h2, if_neg h0, hb2, h4]
  rfl

theorem attr_le (fr p : Nat) (l : List UInt8) (a : Sp.At) (m : Nat) (h : Sp.attr fr p l = .ok (a, m)) : m ≤ l.length := by
  by_cases h0 : Sp.nameN (l.length + 1) true l = 0
  · rw [attr_zero h0] at h; cases h
  · by_cases hh : ((l.drop (Sp.nameN (l.length + 1) true l)).drop (Sp.blanksN (l.drop (Sp.nameN (l.length + 1) true l)))).head? = some 61
    · obtain ⟨l3, h3⟩ := sp_head_cons hh
      rw [attr_more rfl h0 rfl h3 rfl rfl] at h
      have e1 := congrArg List.length h3
      rw [List.length_drop, List.length_drop, List.length_cons] at e1
      generalize Sp.nameN (l.length + 1) true l = n at *
      generalize Sp.blanksN (l.drop n) = b at *
      obtain ⟨b2, hb2⟩ : ∃ x, Sp.blanksN l3 = x := ⟨_, rfl⟩
      rw [hb2] at h
      obtain ⟨l4, h4⟩ : ∃ x, l3.drop b2 = x := ⟨_, rfl⟩
      rw [h4] at h
      have e2 := congrArg List.length h4
      rw [List.length_drop] at e2
      cases l4 with
      | nil => cases h
      | cons e l5 =>
        rw [List.length_cons] at e2
        unfold attrTail at h
        simp only at h
        split at h
        · split at h
          · cases h
          · split at h
            · cases h
            · rename_i x m' _ hd
              injection h with h
              injection h with h1 h2
              have : m' < l5.length := by
                rcases Nat.lt_or_ge m' l5.length with h | h
                · exact h
                · exact absurd (List.drop_eq_nil_of_le h) hd
              omega
        · cases h
    · rw [attr_none rfl h0 rfl rfl hh] at h; cases h

/-- A round of attrs. -/
def attrsIn (fr k p : Nat) (l : List UInt8) (acc : List Sp.At) (n b : Nat) (l1 : List UInt8) : Except Sp.Flt (List Sp.At × Bool × Nat) :=
  match l1 with
  | 62 :: _ => .ok (acc, false, n + b + 1)
  | 47 :: t => match t with
    | 62 :: _ => .ok (acc, true, n + b + 2)
    | t => .error (Sp.stop fr (p + b + 1) t)
  | l1 =>
    if b = 0 then .error (Sp.stop fr p l)
    else match Sp.attr fr (p + b) l1 with
      | .error f => .error f
      | .ok (a, m) => Sp.attrs fr k (p + b + m) (l1.drop m) (acc ++ [a]) (n + b + m)
theorem attrs_in (fr k p : Nat) (l : List UInt8) (acc : List Sp.At) (n : Nat) : Sp.attrs fr (k + 1) p l acc n = attrsIn fr k p l acc n (Sp.blanksN l) (l.drop (Sp.blanksN l)) := rfl
theorem in_gt (fr k p : Nat) (l : List UInt8) (acc : List Sp.At) (n b : Nat) (t : List UInt8) : attrsIn fr k p l acc n b (62 :: t) = .ok (acc, false, n + b + 1) := rfl
theorem in_sl_gt (fr k p : Nat) (l : List UInt8) (acc : List Sp.At) (n b : Nat) (t : List UInt8) : attrsIn fr k p l acc n b (47 :: 62 :: t) = .ok (acc, true, n + b + 2) := rfl
theorem in_sl_no (fr k p : Nat) (l : List UInt8) (acc : List Sp.At) (n b : Nat) (t : List UInt8) (h : t.head? ≠ some 62) : attrsIn fr k p l acc n b (47 :: t) = .error (Sp.stop fr (p + b + 1) t) := by
  unfold attrsIn
  split
  · rename_i h2; injection h2 with h2 _; exact absurd h2 (by decide)
  · rename_i h2
    injection h2 with _ h2
    subst h2
    split
    · exact absurd rfl h
    · rfl
  · rename_i h1 h2; exact absurd rfl (h2 _)
theorem in_gap (fr k p : Nat) (l : List UInt8) (acc : List Sp.At) (n : Nat) (l1 : List UInt8) (h1 : l1.head? ≠ some 62) (h2 : l1.head? ≠ some 47) : attrsIn fr k p l acc n 0 l1 = .error (Sp.stop fr p l) := by
  unfold attrsIn
  split
  · exact absurd rfl h1
  · exact absurd rfl h2
  · rw [if_pos rfl]
theorem in_attr (fr k p : Nat) (l : List UInt8) (acc : List Sp.At) (n b : Nat) (l1 : List UInt8) (h1 : l1.head? ≠ some 62) (h2 : l1.head? ≠ some 47) (hb : b ≠ 0) : attrsIn fr k p l acc n b l1 =
    match Sp.attr fr (p + b) l1 with
      | .error f => .error f
      | .ok (a, m) => Sp.attrs fr k (p + b + m) (l1.drop m) (acc ++ [a]) (n + b + m) := by
  unfold attrsIn
  split
  · exact absurd rfl h1
  · exact absurd rfl h2
  · rw [if_neg hb]

theorem sp_reference_pos (p : Nat) (l x : List UInt8) (m : Nat) (h : Sp.reference p l = .ok (x, m)) : 1 ≤ m := by
  unfold Sp.reference at h
  split at h
  · cases h
  · split at h
    · cases h
    · injection h with h; injection h with h1 h2; omega

theorem sp_text_ge (e : UInt8) (b : Bool) (fr : Nat) : ∀ (k p : Nat) (l acc : List UInt8) (n : Nat) (x : List UInt8) (m : Nat), Sp.text e b fr k p l acc n = .ok (x, m) → n ≤ m := by
  intro k
  induction k with
  | zero => intro p l acc n x m h; injection h with h; injection h with h1 h2; omega
  | succ k ih =>
    intro p l acc n x m h
    cases l with
    | nil => injection h with h; injection h with h1 h2; omega
    | cons c t =>
      unfold Sp.text at h
      split at h
      · injection h with h; injection h with h1 h2; omega
      · split at h
        · split at h
          · cases h
          · have := ih _ _ _ _ _ _ h; omega
        · split at h
          · cases h
          · have := ih _ _ _ _ _ _ h; omega

theorem sp_text_pos (e : UInt8) (b : Bool) (fr k p : Nat) (c : UInt8) (t acc : List UInt8) (x : List UInt8) (m : Nat) (hc : c ≠ e) (h : Sp.text e b fr (k + 1) p (c :: t) acc 0 = .ok (x, m)) : 1 ≤ m := by
  unfold Sp.text at h
  rw [if_neg hc] at h
  by_cases h38 : c = 38
  · rw [if_pos h38] at h
    split at h
    · cases h
    · rename_i x' m' hr
      have h1 := sp_reference_pos _ _ _ _ hr
      have := sp_text_ge _ _ _ _ _ _ _ _ _ _ h; omega
  · rw [if_neg h38] at h
    split at h
    · cases h
    · rename_i h60
      have := sp_text_ge _ _ _ _ _ _ _ _ _ _ h
      have hp : Sp.plainB e c = true := by simp [Sp.plainB, hc, h38, h60]
      rw [List.takeWhile_cons, hp, if_pos rfl, List.length_cons] at this
      omega

theorem sp_attrs_gt (fr : Nat) : ∀ (k p : Nat) (l : List UInt8) (acc : List Sp.At) (n : Nat) (as : List Sp.At) (e : Bool) (m : Nat), Sp.attrs fr k p l acc n = .ok (as, e, m) → n ≤ m := by
  intro k
  induction k with
  | zero => intro p l acc n as e m h; injection h with h; injection h with h1 h2; injection h2 with h2 h3; omega
  | succ k ih =>
    intro p l acc n as e m h
    unfold Sp.attrs at h
    simp only at h
    split at h
    · injection h with h; injection h with h1 h2; injection h2 with h2 h3; omega
    · split at h
      · injection h with h; injection h with h1 h2; injection h2 with h2 h3; omega
      · cases h
    · split at h
      · cases h
      · split at h
        · cases h
        · have := ih _ _ _ _ _ _ _ h; omega

theorem sp_closing_pos (p : Nat) (l : List UInt8) (x : Sp.Mk) (m : Nat) (h : Sp.closing p l = .ok (x, m)) : 1 ≤ m := by
  unfold Sp.closing at h
  simp only at h
  split at h
  · cases h
  · split at h
    · injection h with h; injection h with h1 h2; omega
    · cases h
theorem sp_opening_pos (p : Nat) (l : List UInt8) (x : Sp.Mk) (m : Nat) (h : Sp.opening p l = .ok (x, m)) : 1 ≤ m := by
  unfold Sp.opening at h
  simp only at h
  split at h
  · cases h
  · split at h
    · cases h
    · rename_i ha
      have := sp_attrs_gt _ _ _ _ _ _ _ _ _ ha
      injection h with h; injection h with h1 h2; omega

theorem map_ok {α β : Type} {e : Except Sp.Flt α} {f : α → β} {y : β} (h : e.map f = .ok y) : ∃ x, e = .ok x ∧ f x = y := by
  cases e with
  | error => cases h
  | ok x => injection h with h; exact ⟨x, rfl, h⟩
theorem map_error {α β : Type} {e : Except Sp.Flt α} {f : α → β} {y : Sp.Flt} (h : e.map f = .error y) : e = .error y := by
  cases e with
  | error => injection h with h; rw [h]
  | ok x => cases h

theorem sp_piece_pos (p : Nat) (c : UInt8) (t : List UInt8) (ms : List Sp.Mk) (n : Nat) (h : Sp.piece p (c :: t) = .ok (ms, n)) : 1 ≤ n := by
  unfold Sp.piece at h
  split at h
  · split at h
    · cases h
    · injection h with h; injection h with h1 h2; omega
  · split at h
    · split at h
      · cases h
      · injection h with h; injection h with h1 h2; omega
    · split at h
      · obtain ⟨x, h1, h2⟩ := map_ok h
        injection h2 with h2 h3
        have := sp_closing_pos _ _ _ _ h1; omega
      · split at h
        · obtain ⟨x, h1, h2⟩ := map_ok h
          injection h2 with h2 h3
          have := sp_opening_pos _ _ _ _ h1; omega
        · rename_i hlt
          obtain ⟨x, h1, h2⟩ := map_ok h
          injection h2 with h2 h3
          have := sp_text_pos _ _ _ _ _ c t _ _ _ (by rintro rfl; exact hlt (by simp [List.isPrefixOf])) h1
          omega

/-- Enough rounds are enough. -/
theorem sp_pieces_fuel : ∀ (k k' p : Nat) (l : List UInt8) (acc : List Sp.Mk), l.length < k → l.length < k' → Sp.pieces k p l acc = Sp.pieces k' p l acc := by
  intro k
  induction k with
  | zero => intro k' p l acc h; omega
  | succ k ih =>
    intro k' p l acc h h'
    cases k' with
    | zero => omega
    | succ k' =>
      cases l with
      | nil => rfl
      | cons c t =>
        unfold Sp.pieces
        cases hp : Sp.piece p (c :: t) with
        | error f => rfl
        | ok r =>
          obtain ⟨ms, n⟩ := r
          have := sp_piece_pos _ _ _ _ _ hp
          simp only
          rw [List.length_cons] at h h'
          exact ih _ _ _ _ (by rw [List.length_drop, List.length_cons]; omega) (by rw [List.length_drop, List.length_cons]; omega)

def shF (d : Nat) (f : Sp.Flt) : Sp.Flt := (f.1 + d, f.2)
def shA (d : Nat) (a : Sp.At) : Sp.At := ⟨a.name, a.value, a.at_ + d⟩
def shM (d : Nat) (m : Sp.Mk) : Sp.Mk := ⟨m.kind, m.name, m.attrs.map (shA d), m.empty, m.text, m.at_ + d⟩
def shE {α : Type} (d : Nat) (f : α → α) : Except Sp.Flt α → Except Sp.Flt α
  | .error e => .error (shF d e)
  | .ok x => .ok (f x)

theorem sh_stop (d fr p : Nat) (l : List UInt8) : Sp.stop (fr + d) (p + d) l = shF d (Sp.stop fr p l) := by
  unfold Sp.stop; split <;> rfl
theorem sh_reference (d p : Nat) (l : List UInt8) : Sp.reference (p + d) l = shE d id (Sp.reference p l) := by
  unfold Sp.reference
  split
  · rfl
  · split <;> rfl
theorem sh_text (e : UInt8) (b : Bool) (fr fr' d : Nat) : ∀ (k p : Nat) (l acc : List UInt8) (n : Nat), Sp.text e b fr' k (p + d) l acc n = shE d id (Sp.text e b fr k p l acc n) := by
  intro k
  induction k with
  | zero => intro p l acc n; rfl
  | succ k ih =>
    intro p l acc n
    cases l with
    | nil => rfl
    | cons c t =>
      unfold Sp.text
      split
      · rfl
      · split
        · rw [sh_reference]
          cases Sp.reference p (c :: t) with
          | error f => rfl
          | ok r =>
            obtain ⟨x, m⟩ := r
            show Sp.text e b fr' k (p + d + m) _ _ _ = _
            rw [show p + d + m = p + m + d by omega, ih]
        · split
          · rfl
          · rw [show p + d + ((c :: t).takeWhile (Sp.plainB e)).length = p + ((c :: t).takeWhile (Sp.plainB e)).length + d by omega, ih]
theorem sh_attr (d fr p : Nat) (l : List UInt8) : Sp.attr (fr + d) (p + d) l = shE d (fun r => (shA d r.1, r.2)) (Sp.attr fr p l) := by
  unfold Sp.attr
  simp only
  generalize Sp.nameN (l.length + 1) true l = n
  generalize Sp.blanksN (l.drop n) = b
  split
  · rw [sh_stop]; rfl
  · split
    · rename_i l3 _
      generalize Sp.blanksN l3 = b2
      split
      · split
        · rename_i e l5 _ _
          rw [show p + d + n + b + 1 + b2 + 1 = p + n + b + 1 + b2 + 1 + d by omega, sh_text (fr := fr)]
          cases Sp.text e true fr (l5.length + 1) (p + n + b + 1 + b2 + 1) l5 [] 0 with
          | error f => rfl
          | ok r =>
            obtain ⟨x, m⟩ := r
            simp only [shE, id]
            split <;> rfl
        · rw [show p + d + n + b + 1 + b2 = p + n + b + 1 + b2 + d by omega]; rfl
      · rfl
    · rw [show p + d + n + b = p + n + b + d by omega, sh_stop]; rfl
theorem sh_attrs (d fr : Nat) : ∀ (k p : Nat) (l : List UInt8) (acc : List Sp.At) (n : Nat), Sp.attrs (fr + d) k (p + d) l (acc.map (shA d)) n = shE d (fun r => (r.1.map (shA d), r.2)) (Sp.attrs fr k p l acc n) := by
  intro k
  induction k with
  | zero => intro p l acc n; rfl
  | succ k ih =>
    intro p l acc n
    unfold Sp.attrs
    simp only
    generalize Sp.blanksN l = b
    split
    · rfl
    · split
      · rfl
      · rw [show p + d + b + 1 = p + b + 1 + d by omega, sh_stop]; rfl
    · split
      · rw [sh_stop]; rfl
      · rw [show p + d + b = p + b + d by omega, sh_attr]
        cases Sp.attr fr (p + b) (l.drop b) with
        | error f => rfl
        | ok r =>
          obtain ⟨a, m⟩ := r
          show Sp.attrs (fr + d) k (p + b + d + m) _ (acc.map (shA d) ++ [shA d a]) _ = _
          rw [show p + b + d + m = p + b + m + d by omega, show acc.map (shA d) ++ [shA d a] = (acc ++ [a]).map (shA d) by simp, ih]
theorem sh_opening (d p : Nat) (l : List UInt8) : Sp.opening (p + d) l = shE d (fun r => (shM d r.1, r.2)) (Sp.opening p l) := by
  unfold Sp.opening
  simp only
  generalize Sp.nameN ((l.drop 1).length + 1) true (l.drop 1) = n
  split
  · rw [show p + d + 1 = p + 1 + d by omega, sh_stop]; rfl
  · rw [show p + d + 1 + n = p + 1 + n + d by omega]
    have := sh_attrs d p (l.length + 1) (p + 1 + n) ((l.drop 1).drop n) [] (1 + n)
    rw [List.map_nil] at this
    rw [this]
    cases Sp.attrs p (l.length + 1) (p + 1 + n) ((l.drop 1).drop n) [] (1 + n) with
    | error f => rfl
    | ok r => rfl
theorem sh_closing (d p : Nat) (l : List UInt8) : Sp.closing (p + d) l = shE d (fun r => (shM d r.1, r.2)) (Sp.closing p l) := by
  unfold Sp.closing
  simp only
  generalize Sp.nameN ((l.drop 2).length + 1) true (l.drop 2) = n
  split
  · rw [show p + d + 2 = p + 2 + d by omega, sh_stop]; rfl
  · split
    · rfl
    · rw [show p + d + 2 + n + Sp.blanksN ((l.drop 2).drop n) = p + 2 + n + Sp.blanksN ((l.drop 2).drop n) + d by omega, sh_stop]; rfl
theorem sh_tell (d p : Nat) (t : List UInt8) : Sp.tell t (p + d) = (Sp.tell t p).map (shM d) := by
  unfold Sp.tell; split <;> rfl
theorem sh_piece (d p : Nat) (l : List UInt8) : Sp.piece (p + d) l = shE d (fun r => (r.1.map (shM d), r.2)) (Sp.piece p l) := by
  unfold Sp.piece
  split
  · split <;> rfl
  · split
    · split
      · rfl
      · rw [sh_tell]; rfl
    · split
      · rw [sh_closing]
        cases Sp.closing p l <;> rfl
      · split
        · rw [sh_opening]
          cases Sp.opening p l <;> rfl
        · rw [sh_text (fr := p)]
          cases Sp.text 60 false p (l.length + 1) p l [] 0 with
          | error f => rfl
          | ok r =>
            show Except.ok (Sp.tell r.1 (p + d), r.2) = _
            rw [sh_tell]; rfl
theorem sh_pieces (d : Nat) : ∀ (k p : Nat) (l : List UInt8) (acc : List Sp.Mk), Sp.pieces k (p + d) l (acc.map (shM d)) = shE d (fun r => r.map (shM d)) (Sp.pieces k p l acc) := by
  intro k
  induction k with
  | zero => intro p l acc; cases l <;> rfl
  | succ k ih =>
    intro p l acc
    cases l with
    | nil => rfl
    | cons c t =>
      unfold Sp.pieces
      rw [sh_piece]
      cases Sp.piece p (c :: t) with
      | error f => rfl
      | ok r =>
        obtain ⟨ms, n⟩ := r
        show Sp.pieces k (p + d + n) _ (acc.map (shM d) ++ ms.map (shM d)) = _
        rw [show p + d + n = p + n + d by omega, ← List.map_append, ih]
theorem prolog_none (l : List UInt8) (h : ¬ (4 < l.length ∧ l.take 5 = Sp.xml5)) : Sp.prolog l = .ok 0 := by
  unfold Sp.prolog
  split
  · rename_i c t hd
    rw [if_neg]
    rintro ⟨h1, h2⟩
    apply h
    have hl := congrArg List.length hd
    rw [List.length_drop, List.length_cons] at hl
    refine ⟨by omega, ?_⟩
    obtain ⟨t, rfl⟩ := List.isPrefixOf_iff_prefix.1 h1
    rfl
  · rfl

end Go.Proofs.YtokdclmikllepaaGreatDoor
namespace Go.Proofs.YtokdclmikllepaaGreatDoor
set_option linter.unusedVariables false
set_option linter.unusedSimpArgs false

theorem tailR_inv {m : Nat} {r0 r : Int} {t : List UInt8} {n : Nat} (h : Sp.tailR m r0 t = (r, n)) (hn : n ≠ 0) :
    n = m ∧ m - 1 ≤ t.length ∧ (t.take (m - 1)).all Sp.contB = true ∧ (Sp.putI r).length = m ∧ ∀ t', Sp.tailR m r0 (t.take (m - 1) ++ t') = (r, m) := by
  unfold Sp.tailR at h
  split at h
  · injection h with h1 h2; omega
  · rename_i hl
    split at h
    · rename_i ha
      split at h
      · rename_i hp
        injection h with h1 h2
        subst h1 h2
        have htk : ∀ t', (t.take (m - 1) ++ t').take (m - 1) = t.take (m - 1) := fun t' => by
          rw [List.take_append_of_le_length (by rw [List.length_take]; omega), List.take_take, Nat.min_self]
        refine ⟨rfl, by omega, ha, hp, fun t' => ?_⟩
        unfold Sp.tailR
        rw [if_neg (by rw [List.length_append, List.length_take]; omega), htk, if_pos ha, if_pos hp]
      · injection h with h1 h2; omega
    · injection h with h1 h2; omega

/-- The bytes of one character. -/
structure Chn (u : List UInt8) (r : Int) : Prop where
  ne : u ≠ []
  nx : ∀ t, Sp.next (u ++ t) = (r, u.length)
  ch : Sp.isChar r = true
  cont : ∀ x ∈ u.tail, 128 ≤ x.toNat ∧ x.toNat < 192
  hd : (∃ c, u = [c] ∧ (c.toNat : Int) = r ∧ c.toNat < 128) ∨ (128 ≤ r ∧ ∀ x ∈ u, 128 ≤ x.toNat)
inductive Cs : List UInt8 → Prop
  | nil : Cs []
  | cons (u t : List UInt8) (r : Int) (hu : Chn u r) (ht : Cs t) : Cs (u ++ t)

theorem chn_tail {m : Nat} (hm : 2 ≤ m) {r0 r : Int} {c : UInt8} {t : List UInt8} {n : Nat} (hc : 128 ≤ c.toNat) (hn0 : ∀ t', Sp.next (c :: t') = Sp.tailR m r0 t') (h : Sp.tailR m r0 t = (r, n)) (hn : n ≠ 0) (hr : Sp.isChar r = true) : Chn ((c :: t).take n) r := by
  obtain ⟨rfl, h1, h2, h3, h4⟩ := tailR_inv h hn
  have hall : ∀ x ∈ t.take (n - 1), 128 ≤ x.toNat ∧ x.toNat < 192 := fun x hx => by
    have := List.all_eq_true.1 h2 x hx
    simpa [Sp.contB] using this
  have hu : (c :: t).take n = c :: t.take (n - 1) := by
    cases n with
    | zero => omega
    | succ n => rfl
  rw [hu]
  refine ⟨by simp, fun t' => ?_, hr, hall, .inr ⟨?_, fun x hx => ?_⟩⟩
  · show Sp.next (c :: (t.take (n - 1) ++ t')) = _
    rw [hn0, h4, List.length_cons, List.length_take]
    congr 1; omega
  · rcases Int.lt_or_le r 128 with hlt | hge
    · exfalso
      unfold Sp.putI at h3
      split at h3
      · simp only [hlt, if_true, List.length_cons, List.length_nil] at h3; omega
      · simp only [List.length_nil] at h3; omega
    · exact hge
  · rcases List.mem_cons.1 hx with rfl | hx
    · exact hc
    · exact (hall x hx).1

theorem chn_next {c : UInt8} {t : List UInt8} {r : Int} {n : Nat} (h : Sp.next (c :: t) = (r, n)) (hn : n ≠ 0) (hr : Sp.isChar r = true) : Chn ((c :: t).take n) r := by
  by_cases h1 : c.toNat < 128
  · have hnx : ∀ t', Sp.next (c :: t') = ((c.toNat : Int), 1) := fun t' => by simp only [Sp.next, if_pos h1]
    rw [hnx] at h
    injection h with h2 h3
    subst h2 h3
    exact ⟨by simp, fun t' => hnx t', hr, by simp, .inl ⟨c, rfl, rfl, h1⟩⟩
  · by_cases h2 : c.toNat < 192
    · simp only [Sp.next, if_neg h1, if_pos h2] at h
      injection h with h3 h4; omega
    · by_cases h3 : c.toNat < 224
      · have hnx : ∀ t', Sp.next (c :: t') = Sp.tailR 2 ((c.toNat : Int) - 192) t' := fun t' => by simp only [Sp.next, if_neg h1, if_neg h2, if_pos h3]
        rw [hnx] at h
        exact chn_tail (by omega) (by omega) hnx h hn hr
      · by_cases h4 : c.toNat < 240
        · have hnx : ∀ t', Sp.next (c :: t') = Sp.tailR 3 ((c.toNat : Int) - 224) t' := fun t' => by simp only [Sp.next, if_neg h1, if_neg h2, if_neg h3, if_pos h4]
          rw [hnx] at h
          exact chn_tail (by omega) (by omega) hnx h hn hr
        · by_cases h5 : c.toNat < 248
          · have hnx : ∀ t', Sp.next (c :: t') = Sp.tailR 4 ((c.toNat : Int) - 240) t' := fun t' => by simp only [Sp.next, if_neg h1, if_neg h2, if_neg h3, if_neg h4, if_pos h5]
            rw [hnx] at h
            exact chn_tail (by omega) (by omega) hnx h hn hr
          · simp only [Sp.next, if_neg h1, if_neg h2, if_neg h3, if_neg h4, if_neg h5] at h
            injection h with h6 h7; omega

theorem sp_next_le (l : List UInt8) : (Sp.next l).2 ≤ l.length := by
  have ht : ∀ m r0 (t : List UInt8), 2 ≤ m → (Sp.tailR m r0 t).2 ≤ t.length + 1 := fun m r0 t hm => by
    unfold Sp.tailR
    repeat' split
    all_goals (simp only; omega)
  cases l with
  | nil => simp [Sp.next]
  | cons c t =>
    simp only [Sp.next, List.length_cons]
    repeat' split
    all_goals first | exact ht _ _ _ (by omega) | (simp only; omega)

theorem Cs.of_none : ∀ (k p p' : Nat) (l : List UInt8), Sp.bad k p l = none → Sp.badChar k p' l = none → Cs l := by
  intro k
  induction k with
  | zero => intro p p' l h _; cases l with
    | nil => exact .nil
    | cons => cases h
  | succ k ih =>
    intro p p' l h h2
    cases l with
    | nil => exact .nil
    | cons c t =>
      unfold Sp.bad at h
      unfold Sp.badChar at h2
      obtain ⟨r, n, hrn⟩ : ∃ r n, Sp.next (c :: t) = (r, n) := ⟨_, _, rfl⟩
      rw [hrn] at h h2
      simp only at h h2
      split at h
      · cases h
      · rename_i hn
        split at h2
        · rename_i hc
          have := Cs.cons _ _ _ (chn_next hrn hn hc) (ih _ _ _ h h2)
          rwa [List.take_append_drop] at this
        · cases h2
theorem Chn.len {u : List UInt8} {r : Int} (h : Chn u r) : 1 ≤ u.length := by
  have := h.ne
  cases u with
  | nil => exact absurd rfl this
  | cons => simp
theorem Cs.none {l : List UInt8} (h : Cs l) : ∀ (k p : Nat), l.length < k → Sp.bad k p l = none ∧ Sp.badChar k p l = none := by
  induction h with
  | nil => intro k p _; cases k <;> exact ⟨rfl, rfl⟩
  | cons u t r hu ht ih =>
    intro k p hk
    have hl := hu.len
    cases hut : u ++ t with
    | nil => cases u with
      | nil => exact absurd rfl hu.ne
      | cons => cases hut
    | cons c t' =>
      cases k with
      | zero => omega
      | succ k =>
        rw [List.length_append] at hk
        unfold Sp.bad Sp.badChar
        rw [← hut, hu.nx]
        simp only [List.drop_left]
        rw [if_neg (by omega), if_pos hu.ch]
        exact ih _ _ (by omega)

theorem Cs.append {a b : List UInt8} (ha : Cs a) (hb : Cs b) : Cs (a ++ b) := by
  induction ha with
  | nil => exact hb
  | cons u t r hu ht ih => rw [List.append_assoc]; exact .cons u _ r hu ih
theorem Chn.cs {u : List UInt8} {r : Int} (h : Chn u r) : Cs u := by
  have := Cs.cons u [] r h .nil
  rwa [List.append_nil] at this
theorem Cs.at_ascii {l : List UInt8} (h : Cs l) : ∀ (a b : List UInt8) (c : UInt8), l = a ++ c :: b → c.toNat < 128 → Cs a ∧ Cs [c] ∧ Cs b := by
  induction h with
  | nil => intro a b c h _; cases a <;> cases h
  | cons u t r hu ht ih =>
    intro a b c h hc
    rcases List.append_eq_append_iff.1 h with ⟨a', h1, h2⟩ | ⟨a', h1, h2⟩
    · subst h1
      have := ih a' b c h2 hc
      exact ⟨.cons _ _ r hu this.1, this.2⟩
    · cases a' with
      | nil =>
        rw [List.append_nil] at h1
        subst h1
        have := ih [] b c h2.symm hc
        exact ⟨hu.cs, this.2⟩
      | cons y a' =>
        injection h2 with h3 h4
        subst h3
        rcases hu.hd with ⟨d, rfl, _, _⟩ | ⟨_, hall⟩
        · cases a with
          | nil =>
            injection h1 with h5 h6
            subst h5
            rw [← h6] at h4
            exact ⟨.nil, hu.cs, by rw [h4]; exact ht⟩
          | cons z a => injection h1 with h5 h6; cases a <;> cases h6
        · have := hall c (by rw [h1]; simp)
          omega
/-- A place with an ASCII byte at it, or right ahead of it. -/
def Side (l : List UInt8) (j : Nat) : Prop := j = 0 ∨ l.length ≤ j ∨ (∃ c t, l.drop j = c :: t ∧ c.toNat < 128) ∨ (∃ i c t, j = i + 1 ∧ l.drop i = c :: t ∧ c.toNat < 128)
theorem Cs.side {l : List UInt8} (h : Cs l) {j : Nat} (hj : Side l j) : Cs (l.take j) ∧ Cs (l.drop j) := by
  rcases hj with rfl | hj | ⟨c, t, hd, hc⟩ | ⟨i, c, t, rfl, hd, hc⟩
  · exact ⟨.nil, h⟩
  · rw [List.take_of_length_le hj, List.drop_eq_nil_of_le hj]; exact ⟨h, .nil⟩
  · have e : l = l.take j ++ c :: t := by rw [← hd, List.take_append_drop]
    have k := h.at_ascii _ _ _ e hc
    rw [hd]
    exact ⟨k.1, k.2.1.append k.2.2⟩
  · have e : l = l.take i ++ c :: t := by rw [← hd, List.take_append_drop]
    have k := h.at_ascii _ _ _ e hc
    have e2 : l.drop (i + 1) = t := by rw [← List.drop_drop, hd]; rfl
    have e3 : l.take (i + 1) = l.take i ++ [c] := by
      have hl : (l.take i).length = i := by
        rw [List.length_take]
        have := congrArg List.length hd
        rw [List.length_drop, List.length_cons] at this; omega
      conv => lhs; rw [e]
      rw [List.take_append, hl, List.take_of_length_le (by omega)]
      simp
    rw [e2, e3]
    exact ⟨k.1.append k.2.1, k.2.2⟩
end Go.Proofs.YtokdclmikllepaaGreatDoor
namespace Go.Proofs.YtokdclmikllepaaGreatDoor
set_option linter.unusedVariables false
set_option linter.unusedSimpArgs false

/-- Where a fault of what begins at p lies. -/
def Fd (fr p : Nat) (l : List UInt8) (f : Sp.Flt) : Prop :=
  f = (fr, 84) ∨ (p ≤ f.1 ∧ f.1 < p + l.length ∧ (f.2 = 82 ∨ f.2 = 83) ∧ (Cs l → Side l (f.1 - p)))
/-- How far what is read goes. -/
def Far (l : List UInt8) (m : Nat) : Prop := m ≤ l.length ∧ (Cs l → Side l m)

theorem Side.drop {l : List UInt8} {i j : Nat} (hi : Side l i) (hj : Side (l.drop i) j) : Side l (i + j) := by
  rcases hj with rfl | hj | ⟨c, t, hd, hc⟩ | ⟨k, c, t, rfl, hd, hc⟩
  · exact hi
  · rw [List.length_drop] at hj
    exact .inr (.inl (by omega))
  · exact .inr (.inr (.inl ⟨c, t, by rw [← hd, List.drop_drop], hc⟩))
  · exact .inr (.inr (.inr ⟨i + k, c, t, by omega, by rw [← hd, List.drop_drop], hc⟩))
theorem Fd.drop {fr p : Nat} {l : List UInt8} {i : Nat} {f : Sp.Flt} (hi : Far l i) (h : Fd fr (p + i) (l.drop i) f) : Fd fr p l f := by
  rcases h with h | ⟨h1, h2, h3, h4⟩
  · exact .inl h
  · have := hi.1
    rw [List.length_drop] at h2
    refine .inr ⟨by omega, by omega, h3, fun hc => ?_⟩
    have k := (hi.2 hc).drop (h4 (hc.side (hi.2 hc)).2)
    rwa [show i + (f.1 - (p + i)) = f.1 - p by omega] at k
theorem Far.drop {l : List UInt8} {i j : Nat} (hi : Far l i) (hj : Far (l.drop i) j) : Far l (i + j) := by
  have h1 := hi.1
  have h2 := hj.1
  rw [List.length_drop] at h2
  exact ⟨by omega, fun hc => (hi.2 hc).drop (hj.2 (hc.side (hi.2 hc)).2)⟩
theorem Far.zero (l : List UInt8) : Far l 0 := ⟨Nat.zero_le _, fun _ => .inl rfl⟩
theorem Far.one {c : UInt8} {t : List UInt8} (hc : c.toNat < 128) : Far (c :: t) 1 := ⟨by simp, fun _ => .inr (.inr (.inr ⟨0, c, t, rfl, rfl, hc⟩))⟩
/-- One byte more, an ASCII one. -/
theorem Far.succ {l : List UInt8} {i : Nat} {c : UInt8} {t : List UInt8} (hi : Far l i) (hd : l.drop i = c :: t) (hc : c.toNat < 128) : Far l (i + 1) := by
  refine hi.drop ?_
  rw [hd]; exact .one hc
theorem Fd.stop {fr p : Nat} {l : List UInt8} {i : Nat} (hi : Far l i) : Fd fr p l (Sp.stop fr (p + i) (l.drop i)) := by
  unfold Sp.stop
  split
  · exact .inl rfl
  · rename_i h
    have hlt : i < l.length := by
      rcases Nat.lt_or_ge i l.length with h2 | h2
      · exact h2
      · exact absurd (List.drop_eq_nil_of_le h2) h
    refine .inr ⟨by simp, by simp only; omega, .inl rfl, fun hc => ?_⟩
    have := hi.2 hc
    rwa [show (p + i, 82).1 - p = i by simp]
theorem Fd.at_ {fr p : Nat} {l : List UInt8} {i : Nat} {e : Nat} (he : e = 82 ∨ e = 83) (hi : Far l i) (hlt : i < l.length) : Fd fr p l (p + i, e) :=
  .inr ⟨by simp, by simp only; omega, he, fun hc => by
    have := hi.2 hc
    rwa [show (p + i, e).1 - p = i by simp]⟩

theorem blanks_le (l : List UInt8) : Sp.blanksN l ≤ l.length := (List.takeWhile_prefix Sp.white).length_le
theorem blanks_cons (c : UInt8) (t : List UInt8) : Sp.blanksN (c :: t) = if Sp.white c = true then Sp.blanksN t + 1 else 0 := by
  unfold Sp.blanksN
  rw [List.takeWhile_cons]
  split <;> simp
theorem white_asc {c : UInt8} (h : Sp.white c = true) : c.toNat < 128 := by
  simp [Sp.white] at h; omega
theorem blanks_far (l : List UInt8) : Far l (Sp.blanksN l) := by
  induction l with
  | nil => exact ⟨blanks_le _, fun _ => .inl rfl⟩
  | cons c t ih =>
    rw [blanks_cons]
    split
    · rename_i hw
      rw [Nat.add_comm]
      exact Far.drop (.one (white_asc hw)) ih
    · exact .zero _

theorem sp_next_zero (l : List UInt8) (h : (Sp.next l).2 = 0) : (Sp.next l).1 = 0 := by
  have ht : ∀ n r t, 0 < n → (Sp.tailR n r t).2 = 0 → (Sp.tailR n r t).1 = 0 := fun n r t hn => by
    unfold Sp.tailR
    repeat' split
    all_goals (intro h; first | rfl | (simp only at h; omega))
  cases l with
  | nil => rfl
  | cons c t =>
    simp only [Sp.next] at h ⊢
    repeat' split
    all_goals simp_all
    all_goals exact ht _ _ _ (by omega) (by assumption)
theorem sp_next_pos (l : List UInt8) (h : (Sp.next l).1 = 58 ∨ Sp.nameRune (Sp.next l).1 = true ∨ Sp.letter (Sp.next l).1 = true) : 0 < (Sp.next l).2 := by
  rcases Nat.eq_zero_or_pos (Sp.next l).2 with h0 | h0
  · exfalso
    rw [sp_next_zero l h0] at h
    simp [Sp.nameRune, Sp.letter] at h
  · exact h0
theorem sp_nameN (k : Nat) (first : Bool) (l : List UInt8) (h : l ≠ []) : Sp.nameN (k + 1) first l = if (Sp.next l).1 = 58 ∨ (first = false ∧ Sp.nameRune (Sp.next l).1 = true) ∨ Sp.letter (Sp.next l).1 = true then (Sp.next l).2 + Sp.nameN k false (l.drop (Sp.next l).2) else 0 := by
  cases l with
  | nil => exact absurd rfl h
  | cons c t => rfl
theorem name_le : ∀ (k : Nat) (first : Bool) (l : List UInt8), Sp.nameN k first l ≤ l.length := by
  intro k
  induction k with
  | zero => intro first l; simp [Sp.nameN]
  | succ k ih =>
    intro first l
    cases l with
    | nil => simp [Sp.nameN]
    | cons c t =>
      rw [sp_nameN _ _ _ (by simp)]
      split
      · have := ih false ((c :: t).drop (Sp.next (c :: t)).2)
        have h2 := sp_next_le (c :: t)
        rw [List.length_drop] at this
        omega
      · exact Nat.zero_le _
theorem isChar_letter {r : Int} (h : Sp.isChar r = true) (hr : 128 ≤ r) : Sp.letter r = true := by
  simp [Sp.letter, h, hr]
/-- Where a name ends there is no byte, or an ASCII one. -/
theorem name_stop {l : List UInt8} (h : Cs l) : ∀ (k : Nat) (first : Bool), l.length < k → l.length ≤ Sp.nameN k first l ∨ ∃ c t, l.drop (Sp.nameN k first l) = c :: t ∧ c.toNat < 128 := by
  induction h with
  | nil => intro k first _; exact .inl (Nat.zero_le _)
  | cons u t r hu ht ih =>
    intro k first hk
    have hl := hu.len
    rw [List.length_append] at hk
    cases k with
    | zero => omega
    | succ k =>
      have hne : u ++ t ≠ [] := by
        intro e
        have := congrArg List.length e
        rw [List.length_append, List.length_nil] at this; omega
      rw [sp_nameN _ _ _ hne, hu.nx]
      simp only [List.drop_left]
      split
      · rcases ih k false (by omega) with h | ⟨c, t', h, hc⟩
        · left; rw [List.length_append]; omega
        · right
          exact ⟨c, t', by rw [← List.drop_drop, List.drop_left]; exact h, hc⟩
      · rename_i hno
        right
        rcases hu.hd with ⟨d, rfl, _, hd⟩ | ⟨hr, _⟩
        · exact ⟨d, t, rfl, hd⟩
        · exact absurd (.inr (.inr (isChar_letter hu.ch hr))) hno
theorem name_far (l : List UInt8) (k : Nat) (first : Bool) (hk : l.length < k) : Far l (Sp.nameN k first l) :=
  ⟨name_le _ _ _, fun h => by
    rcases name_stop h k first hk with h | h
    · exact .inr (.inl h)
    · exact .inr (.inr (.inl h))⟩

theorem while_head (q : UInt8 → Bool) (l : List UInt8) : ∀ c t, l.dropWhile q = c :: t → q c = false := by
  induction l with
  | nil => intro c t h; cases h
  | cons d l ih =>
    intro c t h
    rw [List.dropWhile_cons] at h
    split at h
    · exact ih c t h
    · rename_i hq
      injection h with h1 h2
      subst h1
      simpa using hq
theorem sp_dropWhile (q : UInt8 → Bool) (l : List UInt8) : l.dropWhile q = l.drop (l.takeWhile q).length := by
  have := List.drop_left (l₁ := l.takeWhile q) (l₂ := l.dropWhile q)
  rw [List.takeWhile_append_dropWhile] at this
  exact this.symm
theorem find_bound (sub l : List UInt8) (i : Nat) (h : Sp.find sub l = some i) : i + sub.length ≤ l.length := by
  induction l generalizing i with
  | nil =>
    unfold Sp.find at h
    split at h
    · rename_i hs; injection h with h; subst h hs; simp
    · cases h
  | cons c t ih =>
    unfold Sp.find at h
    split at h
    · rename_i hp
      injection h with h
      subst h
      have := (List.isPrefixOf_iff_prefix.1 hp).length_le
      omega
    · cases hf : Sp.find sub t with
      | none => rw [hf] at h; cases h
      | some j =>
        rw [hf] at h
        injection h with h
        have h : j + 1 = i := h
        have := ih j hf
        rw [List.length_cons]; omega
theorem find_at (sub l : List UInt8) (i : Nat) (h : Sp.find sub l = some i) : sub <+: l.drop i := by
  induction l generalizing i with
  | nil =>
    unfold Sp.find at h
    split at h
    · rename_i hs; subst hs; exact List.nil_prefix
    · cases h
  | cons c t ih =>
    unfold Sp.find at h
    split at h
    · rename_i hp
      injection h with h
      subst h
      exact List.isPrefixOf_iff_prefix.1 hp
    · cases hf : Sp.find sub t with
      | none => rw [hf] at h; cases h
      | some j =>
        rw [hf] at h
        injection h with h
        subst h
        exact ih j hf
theorem ref_fd (p : Nat) (l : List UInt8) (f : Sp.Flt) (h : Sp.reference p l = .error f) : f = (p, 83) := by
  unfold Sp.reference at h
  split at h
  · injection h with h; exact h.symm
  · split at h
    · injection h with h; exact h.symm
    · cases h
theorem ref_far (p : Nat) (l x : List UInt8) (m : Nat) (h : Sp.reference p l = .ok (x, m)) : Far l m ∧ m ≤ 12 ∧ ∃ e, Sp.find [59] (l.take 12) = some e ∧ m = e + 1 ∧ Sp.refText ((l.drop 1).take (e - 1)) = some x := by
  unfold Sp.reference at h
  split at h
  · cases h
  · rename_i e he
    split at h
    · cases h
    · rename_i t ht
      injection h with h
      injection h with h1 h2
      subst h1 h2
      have hb := find_bound _ _ _ he
      rw [List.length_take, List.length_cons, List.length_nil] at hb
      have ha := find_at _ _ _ he
      obtain ⟨r, hr⟩ := ha
      have hd : (l.take 12).drop e = 59 :: r := hr.symm
      rw [List.drop_take] at hd
      cases hl : l.drop e with
      | nil => rw [hl] at hd; simp at hd
      | cons c t2 =>
        rw [hl] at hd
        have hc : c = 59 := by
          cases hk : 12 - e with
          | zero => omega
          | succ k => rw [hk] at hd; injection hd
        subst hc
        refine ⟨⟨by omega, fun _ => .inr (.inr (.inr ⟨e, 59, t2, rfl, hl, by decide⟩))⟩, by omega, e, he, rfl, ht⟩
theorem plain_far (e : UInt8) (he : e.toNat < 128) (l : List UInt8) : Far l (l.takeWhile (Sp.plainB e)).length := by
  refine ⟨(List.takeWhile_prefix _).length_le, fun _ => ?_⟩
  cases hd : l.dropWhile (Sp.plainB e) with
  | nil =>
    rw [sp_dropWhile] at hd
    exact .inr (.inl (List.drop_eq_nil_iff.1 hd))
  | cons c t =>
    have hq := while_head _ _ _ _ hd
    rw [sp_dropWhile] at hd
    refine .inr (.inr (.inl ⟨c, t, hd, ?_⟩))
    simp only [Sp.plainB] at hq
    have : c = e ∨ c = 38 ∨ c = 60 := by
      simp at hq
      by_cases h1 : c = e
      · exact .inl h1
      · by_cases h2 : c = 38
        · exact .inr (.inl h2)
        · exact .inr (.inr (hq h1 h2))
    rcases this with rfl | rfl | rfl
    · exact he
    · decide
    · decide

/-- A text: its faults, and how far it goes. -/
theorem text_fd (e : UInt8) (b : Bool) (fr : Nat) (he : e.toNat < 128) : ∀ (k p : Nat) (l acc : List UInt8) (n : Nat),
    (∀ f, Sp.text e b fr k p l acc n = .error f → Fd fr p l f ∧ f.2 ≠ 84) ∧
    (∀ x m, Sp.text e b fr k p l acc n = .ok (x, m) → l.length < k → ∃ j, m = n + j ∧ Far l j ∧ (l.drop j = [] ∨ ∃ t, l.drop j = e :: t)) := by
  intro k
  induction k with
  | zero => intro p l acc n; exact ⟨fun f h => (nomatch h), fun x m h hk => absurd hk (by omega)⟩
  | succ k ih =>
    intro p l acc n
    cases l with
    | nil => exact ⟨fun f h => (nomatch h), fun x m h hk => ⟨0, by injection h with h; injection h with h1 h2; exact h2.symm, .zero _, .inl rfl⟩⟩
    | cons c t =>
      unfold Sp.text
      by_cases hce : c = e
      · rw [if_pos hce]
        exact ⟨fun f h => (nomatch h), fun x m h hk => ⟨0, by injection h with h; injection h with h1 h2; exact h2.symm, .zero _, .inr ⟨t, by rw [hce]; rfl⟩⟩⟩
      · rw [if_neg hce]
        by_cases h38 : c = 38
        · rw [if_pos h38]
          cases hr : Sp.reference p (c :: t) with
          | error f0 =>
            have := ref_fd _ _ _ hr
            subst this
            refine ⟨fun f h => ?_, fun x m h => nomatch h⟩
            injection h with h
            subst h
            exact ⟨Fd.at_ (i := 0) (.inr rfl) (.zero _) (by simp), by simp⟩
          | ok r =>
            obtain ⟨y, m0⟩ := r
            have hf := ref_far _ _ _ _ hr
            have hp := sp_reference_pos _ _ _ _ hr
            have k2 := ih (p + m0) ((c :: t).drop m0) (acc ++ y) (n + m0)
            refine ⟨fun f h => ⟨(k2.1 f h).1.drop hf.1, (k2.1 f h).2⟩, fun x m h hk => ?_⟩
            obtain ⟨j, h1, h2, h3⟩ := k2.2 x m h (by rw [List.length_drop]; rw [List.length_cons] at hk ⊢; omega)
            exact ⟨m0 + j, by omega, hf.1.drop h2, by rwa [← List.drop_drop]⟩
        · rw [if_neg h38]
          by_cases h60 : c = 60
          · rw [if_pos h60]
            refine ⟨fun f h => ?_, fun x m h => nomatch h⟩
            injection h with h
            subst h
            exact ⟨Fd.at_ (i := 0) (.inl rfl) (.zero _) (by simp), by simp⟩
          · rw [if_neg h60]
            have hp : Sp.plainB e c = true := by simp [Sp.plainB, hce, h38, h60]
            have hf := plain_far e he (c :: t)
            have hpos : 1 ≤ ((c :: t).takeWhile (Sp.plainB e)).length := by rw [List.takeWhile_cons, hp, if_pos rfl, List.length_cons]; omega
            rw [sp_dropWhile]
            generalize ((c :: t).takeWhile (Sp.plainB e)).length = m0 at *
            have k2 := ih (p + m0) ((c :: t).drop m0) (acc ++ Sp.flat b ((c :: t).takeWhile (Sp.plainB e))) (n + m0)
            refine ⟨fun f h => ⟨(k2.1 f h).1.drop hf, (k2.1 f h).2⟩, fun x m h hk => ?_⟩
            obtain ⟨j, h1, h2, h3⟩ := k2.2 x m h (by rw [List.length_drop]; rw [List.length_cons] at hk ⊢; omega)
            exact ⟨m0 + j, by omega, hf.drop h2, by rwa [← List.drop_drop]⟩

theorem attr_fd (fr p : Nat) (l : List UInt8) : (∀ f, Sp.attr fr p l = .error f → Fd fr p l f) ∧ (∀ a m, Sp.attr fr p l = .ok (a, m) → Far l m ∧ 1 ≤ m) := by
  have hn := name_far l (l.length + 1) true (by omega)
  obtain ⟨n, hnn⟩ : ∃ n, Sp.nameN (l.length + 1) true l = n := ⟨_, rfl⟩
  rw [hnn] at hn
  by_cases h0 : n = 0
  · subst h0
    rw [attr_zero hnn]
    refine ⟨fun f h => ?_, fun a m h => nomatch h⟩
    injection h with h
    subst h
    exact Fd.stop (i := 0) (.zero _)
  · obtain ⟨b, hb⟩ : ∃ b, Sp.blanksN (l.drop n) = b := ⟨_, rfl⟩
    have hbf := hn.drop (blanks_far (l.drop n))
    rw [hb] at hbf
    by_cases hh : ((l.drop n).drop b).head? = some 61
    · obtain ⟨l3, h3⟩ := sp_head_cons hh
      have h3' : l.drop (n + b) = 61 :: l3 := by rw [← List.drop_drop]; exact h3
      have hf3 := hbf.succ h3' (by decide)
      have hl3 : l.drop (n + b + 1) = l3 := by rw [← List.drop_drop, h3']; rfl
      obtain ⟨b2, hb2⟩ : ∃ b, Sp.blanksN l3 = b := ⟨_, rfl⟩
      have hf4 := hf3.drop (blanks_far _)
      rw [hl3, hb2] at hf4
      obtain ⟨l4, h4⟩ : ∃ x, l3.drop b2 = x := ⟨_, rfl⟩
      have hl4 : l.drop (n + b + 1 + b2) = l4 := by rw [← List.drop_drop, hl3, h4]
      rw [attr_more hnn h0 hb h3 hb2 h4]
      have hlen := congrArg List.length hl4
      rw [List.length_drop] at hlen
      cases l4 with
      | nil =>
        refine ⟨fun f h => ?_, fun a m h => nomatch h⟩
        injection h with h
        exact .inl h.symm
      | cons e l5 =>
        rw [List.length_cons] at hlen
        unfold attrTail
        simp only
        by_cases he : e = 34 ∨ e = 39
        · rw [if_pos he]
          have he128 : e.toNat < 128 := by rcases he with rfl | rfl <;> decide
          have hf5 := hf4.succ hl4 he128
          have hl5 : l.drop (n + b + 1 + b2 + 1) = l5 := by rw [← List.drop_drop, hl4]; rfl
          have ht := text_fd e true fr he128 (l5.length + 1) (p + n + b + 1 + b2 + 1) l5 [] 0
          cases htx : Sp.text e true fr (l5.length + 1) (p + n + b + 1 + b2 + 1) l5 [] 0 with
          | error f0 =>
            refine ⟨fun f h => ?_, fun a m h => nomatch h⟩
            injection h with h
            subst h
            have := (ht.1 f0 htx).1
            rw [← hl5, show p + n + b + 1 + b2 + 1 = p + (n + b + 1 + b2 + 1) by omega] at this
            exact this.drop hf5
          | ok r =>
            obtain ⟨x, m0⟩ := r
            simp only
            obtain ⟨j, h1, h2, h3⟩ := ht.2 x m0 htx (by omega)
            rw [Nat.zero_add] at h1
            subst h1
            rcases h3 with h3 | ⟨t, h3⟩
            · rw [if_pos h3]
              refine ⟨fun f h => ?_, fun a m h => nomatch h⟩
              injection h with h
              exact .inl h.symm
            · rw [if_neg (by rw [h3]; simp)]
              refine ⟨fun f h => (nomatch h), fun a m h => ?_⟩
              injection h with h
              injection h with h4 h5
              subst h5
              rw [← hl5] at h2
              refine ⟨(hf5.drop h2).succ (c := e) (t := t) (by rw [← List.drop_drop, hl5, h3]) he128, by omega⟩
        · rw [if_neg he]
          refine ⟨fun f h => ?_, fun a m h => nomatch h⟩
          injection h with h
          subst h
          rw [show p + n + b + 1 + b2 = p + (n + b + 1 + b2) by omega]
          exact Fd.at_ (.inl rfl) hf4 (by omega)
    · rw [attr_none hnn h0 hb rfl hh]
      refine ⟨fun f h => ?_, fun a m h => nomatch h⟩
      injection h with h
      subst h
      rw [List.drop_drop, show p + n + b = p + (n + b) by omega]
      exact Fd.stop hbf

theorem attrs_fd (fr : Nat) : ∀ (k p : Nat) (l : List UInt8) (acc : List Sp.At) (n : Nat),
    (∀ f, Sp.attrs fr k p l acc n = .error f → Fd fr p l f) ∧ (∀ as e m, Sp.attrs fr k p l acc n = .ok (as, e, m) → ∃ j, m = n + j ∧ Far l j) := by
  intro k
  induction k with
  | zero => intro p l acc n; exact ⟨fun f h => (nomatch h), fun as e m h => ⟨0, by injection h with h; injection h with h1 h2; injection h2 with h2 h3; exact h3.symm, .zero _⟩⟩
  | succ k ih =>
    intro p l acc n
    rw [attrs_in]
    have hbf := blanks_far l
    obtain ⟨b, hb⟩ : ∃ b, Sp.blanksN l = b := ⟨_, rfl⟩
    rw [hb] at hbf ⊢
    by_cases h62 : (l.drop b).head? = some 62
    · obtain ⟨t, ht⟩ := sp_head_cons h62
      rw [ht, in_gt]
      refine ⟨fun f h => (nomatch h), fun as e m h => ?_⟩
      injection h with h; injection h with h1 h2; injection h2 with h2 h3
      exact ⟨b + 1, by omega, hbf.succ ht (by decide)⟩
    · by_cases h47 : (l.drop b).head? = some 47
      · obtain ⟨t, ht⟩ := sp_head_cons h47
        have hf1 := hbf.succ ht (by decide)
        have hd1 : l.drop (b + 1) = t := by rw [← List.drop_drop, ht]; rfl
        rw [ht]
        by_cases h2 : t.head? = some 62
        · obtain ⟨t2, rfl⟩ := sp_head_cons h2
          rw [in_sl_gt]
          refine ⟨fun f h => (nomatch h), fun as e m h => ?_⟩
          injection h with h; injection h with h1 h2; injection h2 with h2 h3
          exact ⟨b + 1 + 1, by omega, hf1.succ hd1 (by decide)⟩
        · rw [in_sl_no _ _ _ _ _ _ _ _ h2]
          refine ⟨fun f h => ?_, fun as e m h => nomatch h⟩
          injection h with h
          subst h
          have := Fd.stop (fr := fr) (p := p) hf1
          rwa [hd1] at this
      · by_cases hb0 : b = 0
        · subst hb0
          rw [in_gap _ _ _ _ _ _ _ h62 h47]
          refine ⟨fun f h => ?_, fun as e m h => nomatch h⟩
          injection h with h
          subst h
          exact Fd.stop (i := 0) (.zero _)
        · rw [in_attr _ _ _ _ _ _ _ _ h62 h47 hb0]
          have ha := attr_fd fr (p + b) (l.drop b)
          cases hat : Sp.attr fr (p + b) (l.drop b) with
          | error f0 =>
            refine ⟨fun f h => ?_, fun as e m h => nomatch h⟩
            injection h with h
            subst h
            exact (ha.1 f0 hat).drop hbf
          | ok r =>
            obtain ⟨a, m0⟩ := r
            have hm := ha.2 a m0 hat
            have hbm := hbf.drop hm.1
            simp only
            have k2 := ih (p + b + m0) ((l.drop b).drop m0) (acc ++ [a]) (n + b + m0)
            rw [List.drop_drop] at k2 ⊢
            refine ⟨fun f h => ?_, fun as e m h => ?_⟩
            · have := k2.1 f h
              rw [show p + b + m0 = p + (b + m0) by omega] at this
              exact this.drop hbm
            · obtain ⟨j, h1, h2⟩ := k2.2 as e m h
              exact ⟨b + m0 + j, by omega, hbm.drop h2⟩

theorem opening_fd (p : Nat) (t : List UInt8) : (∀ f, Sp.opening p (60 :: t) = .error f → Fd p p (60 :: t) f) ∧ (∀ x m, Sp.opening p (60 :: t) = .ok (x, m) → Far (60 :: t) m) := by
  have h1 : Far (60 :: t) 1 := .one (by decide)
  unfold Sp.opening
  simp only [List.drop_succ_cons, List.drop_zero]
  have hnf := name_far t (t.length + 1) true (by omega)
  obtain ⟨n, hnn⟩ : ∃ n, Sp.nameN (t.length + 1) true t = n := ⟨_, rfl⟩
  rw [hnn] at hnf ⊢
  have hf : Far (60 :: t) (1 + n) := Far.drop (l := 60 :: t) h1 hnf
  by_cases h0 : n = 0
  · rw [if_pos h0]
    refine ⟨fun f h => ?_, fun x m h => nomatch h⟩
    injection h with h
    subst h
    exact Fd.stop (l := 60 :: t) h1
  · rw [if_neg h0]
    have k := attrs_fd p ((60 :: t).length + 1) (p + 1 + n) (t.drop n) [] (1 + n)
    have hd : (60 :: t).drop (1 + n) = t.drop n := by rw [Nat.add_comm]; rfl
    cases ha : Sp.attrs p ((60 :: t).length + 1) (p + 1 + n) (t.drop n) [] (1 + n) with
    | error f0 =>
      refine ⟨fun f h => ?_, fun x m h => nomatch h⟩
      injection h with h
      subst h
      have := k.1 f0 ha
      rw [← hd, show p + 1 + n = p + (1 + n) by omega] at this
      exact this.drop hf
    | ok r =>
      obtain ⟨as, e, m0⟩ := r
      refine ⟨fun f h => (nomatch h), fun x m h => ?_⟩
      injection h with h; injection h with h1 h2
      subst h2
      obtain ⟨j, h3, h4⟩ := k.2 as e m0 ha
      rw [← hd] at h4
      rw [h3]
      exact hf.drop h4

theorem closing_fd (p : Nat) (t : List UInt8) : (∀ f, Sp.closing p (60 :: 47 :: t) = .error f → Fd p p (60 :: 47 :: t) f) ∧ (∀ x m, Sp.closing p (60 :: 47 :: t) = .ok (x, m) → Far (60 :: 47 :: t) m) := by
  have h1 : Far (60 :: 47 :: t) 1 := .one (by decide)
  have h2 : Far (60 :: 47 :: t) 2 := h1.succ rfl (by decide)
  unfold Sp.closing
  simp only [List.drop_succ_cons, List.drop_zero]
  have hnf := name_far t (t.length + 1) true (by omega)
  obtain ⟨n, hnn⟩ : ∃ n, Sp.nameN (t.length + 1) true t = n := ⟨_, rfl⟩
  rw [hnn] at hnf ⊢
  have hf : Far (60 :: 47 :: t) (2 + n) := Far.drop (l := 60 :: 47 :: t) h2 hnf
  have hd : (60 :: 47 :: t).drop (2 + n) = t.drop n := by rw [Nat.add_comm]; rfl
  by_cases h0 : n = 0
  · rw [if_pos h0]
    refine ⟨fun f h => ?_, fun x m h => nomatch h⟩
    injection h with h
    subst h
    exact Fd.stop (l := 60 :: 47 :: t) h2
  · rw [if_neg h0]
    have hbf := hf.drop (blanks_far _)
    rw [hd] at hbf
    generalize hb : Sp.blanksN (t.drop n) = b at *
    split
    · rename_i t2 ht2
      refine ⟨fun f h => (nomatch h), fun x m h => ?_⟩
      injection h with h; injection h with h3 h4
      subst h4
      exact hbf.succ (c := 62) (t := t2) (by rw [← List.drop_drop, hd]; exact ht2) (by decide)
    · refine ⟨fun f h => ?_, fun x m h => nomatch h⟩
      injection h with h
      subst h
      have := Fd.stop (fr := p) (p := p) hbf
      rw [← List.drop_drop, hd, show p + (2 + n + b) = p + 2 + n + b by omega] at this
      exact this

theorem prefix_cons {c : UInt8} {l : List UInt8} (h : [c].isPrefixOf l = true) : ∃ t, l = c :: t := by
  obtain ⟨t, rfl⟩ := List.isPrefixOf_iff_prefix.1 h
  exact ⟨t, rfl⟩
theorem prefix_cons2 {c d : UInt8} {l : List UInt8} (h : [c, d].isPrefixOf l = true) : ∃ t, l = c :: d :: t := by
  obtain ⟨t, rfl⟩ := List.isPrefixOf_iff_prefix.1 h
  exact ⟨t, rfl⟩
/-- Behind what is looked for. -/
theorem find_far (sub : List UInt8) (c : UInt8) (hs : ∃ u, sub = u ++ [c]) (hc : c.toNat < 128) (l : List UInt8) (k i : Nat) (hk : Sp.find sub (l.drop k) = some i) (hkl : k ≤ l.length) : Far l (k + i + sub.length) := by
  obtain ⟨u, rfl⟩ := hs
  have hb := find_bound _ _ _ hk
  obtain ⟨r, hr⟩ := find_at _ _ _ hk
  rw [List.length_drop] at hb
  rw [List.length_append, List.length_singleton] at *
  refine ⟨by omega, fun _ => .inr (.inr (.inr ⟨k + i + u.length, c, r, by omega, ?_, hc⟩))⟩
  rw [← List.drop_drop, ← List.drop_drop, ← hr, List.append_assoc, List.drop_left]; rfl

theorem piece_fd (p : Nat) (c : UInt8) (t : List UInt8) : (∀ f, Sp.piece p (c :: t) = .error f → Fd p p (c :: t) f) ∧ (∀ x m, Sp.piece p (c :: t) = .ok (x, m) → Far (c :: t) m) := by
  generalize hl : c :: t = l
  have hlen : 1 ≤ l.length := by rw [← hl]; simp
  unfold Sp.piece
  split
  · rename_i hp
    have hpl := (List.isPrefixOf_iff_prefix.1 hp).length_le
    split
    · exact ⟨fun f h => by injection h with h; exact .inl h.symm, fun x m h => nomatch h⟩
    · rename_i i hi
      refine ⟨fun f h => (nomatch h), fun x m h => ?_⟩
      injection h with h; injection h with h1 h2
      subst h2
      exact find_far [45, 45, 62] 62 ⟨[45, 45], rfl⟩ (by decide) l 4 i hi hpl
  · split
    · rename_i hp
      have hpl := (List.isPrefixOf_iff_prefix.1 hp).length_le
      split
      · exact ⟨fun f h => by injection h with h; exact .inl h.symm, fun x m h => nomatch h⟩
      · rename_i i hi
        refine ⟨fun f h => (nomatch h), fun x m h => ?_⟩
        injection h with h; injection h with h1 h2
        subst h2
        exact find_far [93, 93, 62] 62 ⟨[93, 93], rfl⟩ (by decide) l 9 i hi hpl
    · split
      · rename_i hp
        obtain ⟨t2, rfl⟩ := prefix_cons2 hp
        have k := closing_fd p t2
        refine ⟨fun f h => k.1 f (map_error h), fun x m h => ?_⟩
        obtain ⟨y, h1, h2⟩ := map_ok h
        injection h2 with h2 h3
        subst h3
        exact k.2 y.1 y.2 h1
      · split
        · rename_i hp
          obtain ⟨t2, rfl⟩ := prefix_cons hp
          have k := opening_fd p t2
          refine ⟨fun f h => k.1 f (map_error h), fun x m h => ?_⟩
          obtain ⟨y, h1, h2⟩ := map_ok h
          injection h2 with h2 h3
          subst h3
          exact k.2 y.1 y.2 h1
        · have k := text_fd 60 false p (by decide) (l.length + 1) p l [] 0
          refine ⟨fun f h => (k.1 f (map_error h)).1, fun x m h => ?_⟩
          obtain ⟨y, h1, h2⟩ := map_ok h
          injection h2 with h2 h3
          subst h3
          obtain ⟨j, h4, h5, _⟩ := k.2 y.1 y.2 h1 (by omega)
          rw [h4, Nat.zero_add]; exact h5

/-- Where a document's faults lie. -/
theorem pieces_fd : ∀ (k p : Nat) (l : List UInt8) (acc : List Sp.Mk) (f : Sp.Flt), Sp.pieces k p l acc = .error f →
    p ≤ f.1 ∧ f.1 < p + l.length ∧ (f.2 = 84 ∨ ((f.2 = 82 ∨ f.2 = 83) ∧ (Cs l → Side l (f.1 - p)))) := by
  intro k
  induction k with
  | zero => intro p l acc f h; cases l <;> cases h
  | succ k ih =>
    intro p l acc f h
    cases l with
    | nil => cases h
    | cons c t =>
      unfold Sp.pieces at h
      have kp := piece_fd p c t
      cases hp : Sp.piece p (c :: t) with
      | error f0 =>
        rw [hp] at h
        injection h with h
        subst h
        rcases kp.1 f0 hp with h | ⟨h1, h2, h3, h4⟩
        · subst h
          exact ⟨Nat.le_refl _, by simp, .inl rfl⟩
        · exact ⟨h1, h2, .inr ⟨h3, h4⟩⟩
      | ok r =>
        obtain ⟨ms, n⟩ := r
        rw [hp] at h
        have hf := kp.2 ms n hp
        obtain ⟨h1, h2, h3⟩ := ih _ _ _ _ h
        have := hf.1
        rw [List.length_drop] at h2
        refine ⟨by omega, by omega, ?_⟩
        rcases h3 with h3 | ⟨h3, h4⟩
        · exact .inl h3
        · refine .inr ⟨h3, fun hc => ?_⟩
          have k := (hf.2 hc).drop (h4 (hc.side (hf.2 hc)).2)
          rwa [show n + (f.1 - (p + n)) = f.1 - p by omega] at k
end Go.Proofs.YtokdclmikllepaaGreatDoor
namespace Go.Proofs.YtokdclmikllepaaGreatDoor
set_option linter.unusedVariables false
set_option linter.unusedSimpArgs false

/-- Behind a, b stands; no character lies across. -/
def Al (a b : List UInt8) : Prop := ∀ j, j < a.length → Sp.next (a.drop j ++ b) = Sp.next (a.drop j)
theorem Al.drop {a b : List UInt8} (h : Al a b) (i : Nat) : Al (a.drop i) b := by
  intro j hj
  rw [List.length_drop] at hj
  rw [List.drop_drop]
  exact h (i + j) (by omega)
theorem next_cont {c : UInt8} (t : List UInt8) (h1 : 128 ≤ c.toNat) (h2 : c.toNat < 192) : Sp.next (c :: t) = (0, 0) := by
  simp only [Sp.next, if_neg (show ¬ c.toNat < 128 by omega), if_pos h2]
theorem Cs.al {a : List UInt8} (h : Cs a) (b : List UInt8) : Al a b := by
  induction h with
  | nil => intro j hj; exact absurd hj (by simp)
  | cons u t r hu ht ih =>
    intro j hj
    rcases Nat.lt_or_ge j u.length with hju | hju
    · cases j with
      | zero => rw [List.drop_zero, List.append_assoc, hu.nx, hu.nx]
      | succ j =>
        cases u with
        | nil => exact absurd hju (by simp)
        | cons x u =>
          rw [List.length_cons] at hju
          have hd : (x :: u ++ t).drop (j + 1) = u.drop j ++ t := by
            show (u ++ t).drop j = _
            rw [List.drop_append_of_le_length (by omega)]
          rw [hd]
          cases hdj : u.drop j with
          | nil =>
            have := congrArg List.length hdj
            rw [List.length_drop, List.length_nil] at this; omega
          | cons y v =>
            have hy : y ∈ u := by
              have : y ∈ u.drop j := by rw [hdj]; simp
              exact List.mem_of_mem_drop this
            have := hu.cont y hy
            simp only [List.cons_append]
            rw [next_cont _ this.1 this.2, next_cont _ this.1 this.2]
    · have hd : (u ++ t).drop j = t.drop (j - u.length) := by
        rw [List.drop_append, List.drop_eq_nil_of_le hju]; rfl
      rw [hd]
      rw [List.length_append] at hj
      exact ih _ (by omega)

theorem cut_name (b : List UInt8) : ∀ (k k' : Nat) (first : Bool) (a : List UInt8), Al a b → a.length < k → (a ++ b).length < k' → Sp.nameN k first a = min (Sp.nameN k' first (a ++ b)) a.length := by
  intro k
  induction k with
  | zero => intro k' first a _ h; omega
  | succ k ih =>
    intro k' first a hal hk hk'
    cases k' with
    | zero => omega
    | succ k' =>
      cases a with
      | nil => simp [Sp.nameN]
      | cons c t =>
        have hx := hal 0 (by simp)
        rw [List.drop_zero] at hx
        rw [sp_nameN _ _ _ (by simp), sp_nameN _ _ (c :: t ++ b) (by simp), hx]
        have hle := sp_next_le (c :: t)
        have hpos := sp_next_pos (c :: t)
        generalize Sp.next (c :: t) = r at *
        split
        · rename_i hc
          have h1 : 0 < r.2 := hpos (by rcases hc with h | ⟨_, h⟩ | h <;> simp_all)
          rw [List.drop_append_of_le_length hle]
          have hl := List.length_drop (i := r.2) (l := c :: t)
          rw [List.length_append] at hk'
          have := ih k' false ((c :: t).drop r.2) (hal.drop _) (by omega) (by rw [List.length_append]; omega)
          rw [this, hl]
          omega
        · simp
theorem cut_while (q : UInt8 → Bool) (b : List UInt8) : ∀ a : List UInt8, (a.takeWhile q).length = min ((a ++ b).takeWhile q).length a.length := by
  intro a
  induction a with
  | nil => simp
  | cons c t ih =>
    rw [List.cons_append, List.takeWhile_cons, List.takeWhile_cons]
    split
    · simp only [List.length_cons, ih]; omega
    · simp
theorem cut_blanks (a b : List UInt8) : Sp.blanksN a = min (Sp.blanksN (a ++ b)) a.length := cut_while Sp.white b a
theorem sp_takeWhile (q : UInt8 → Bool) (l : List UInt8) : l.takeWhile q = l.take (l.takeWhile q).length :=
  List.prefix_iff_eq_take.1 (List.takeWhile_prefix q)
theorem prefix_cut {w a b : List UInt8} (h : w.isPrefixOf (a ++ b) = true) (hl : w.length ≤ a.length) : w.isPrefixOf a = true :=
  List.isPrefixOf_iff_prefix.2 (List.prefix_of_prefix_length_le (List.isPrefixOf_iff_prefix.1 h) (List.prefix_append _ _) hl)
theorem prefix_more {w a : List UInt8} (b : List UInt8) (h : w.isPrefixOf a = true) : w.isPrefixOf (a ++ b) = true :=
  List.isPrefixOf_iff_prefix.2 ((List.isPrefixOf_iff_prefix.1 h).trans (List.prefix_append _ _))

end Go.Proofs.YtokdclmikllepaaGreatDoor
namespace Go.Proofs.YtokdclmikllepaaGreatDoor
set_option linter.unusedVariables false
set_option linter.unusedSimpArgs false

theorem dap {a : List UInt8} (b : List UInt8) {i : Nat} (h : i ≤ a.length) : (a ++ b).drop i = a.drop i ++ b := List.drop_append_of_le_length h
theorem closing_eq (p : Nat) (t : List UInt8) (n b : Nat) (hn : Sp.nameN (t.length + 1) true t = n) (h0 : n ≠ 0) (hb : Sp.blanksN (t.drop n) = b) :
    (((t.drop n).drop b).head? = some 62 → Sp.closing p (60 :: 47 :: t) = .ok (⟨2, t.take n, [], false, [], p⟩, 2 + n + b + 1)) ∧
    (((t.drop n).drop b).head? ≠ some 62 → Sp.closing p (60 :: 47 :: t) = .error (Sp.stop p (p + 2 + n + b) ((t.drop n).drop b))) := by
  unfold Sp.closing
  simp only [List.drop_succ_cons, List.drop_zero, hn, if_neg h0, hb]
  constructor
  · intro h
    obtain ⟨u, hu⟩ := sp_head_cons h
    rw [hu]
    rfl
  · intro h
    split
    · rename_i u hu; rw [hu] at h; exact absurd rfl h
    · rfl
theorem pieces_nil (k p : Nat) (acc : List Sp.Mk) : Sp.pieces k p [] acc = .ok acc := by cases k <;> rfl
theorem prolog_fd (l : List UInt8) : (∀ f, Sp.prolog l = .error f → f = (0, 84) ∧ 0 < l.length) ∧ (∀ n, Sp.prolog l = .ok n → Far l n) := by
  unfold Sp.prolog
  split
  · rename_i c t hd
    have hl := congrArg List.length hd
    rw [List.length_drop, List.length_cons] at hl
    split
    · split
      · exact ⟨fun f h => by injection h with h; exact ⟨h.symm, by omega⟩, fun n h => (nomatch h)⟩
      · rename_i i hi
        refine ⟨fun f h => (nomatch h), fun n h => ?_⟩
        injection h with h
        subst h
        exact find_far [63, 62] 62 ⟨[63], rfl⟩ (by decide) l 5 i hi (by omega)
    · exact ⟨fun f h => (nomatch h), fun n h => by injection h with h; subst h; exact .zero _⟩
  · exact ⟨fun f h => (nomatch h), fun n h => by injection h with h; subst h; exact .zero _⟩
end Go.Proofs.YtokdclmikllepaaGreatDoor
namespace Go.Proofs.YtokdclmikllepaaGreatDoor
set_option linter.unusedVariables false
set_option linter.unusedSimpArgs false

theorem attr_at {fr p : Nat} {l : List UInt8} {a : Sp.At} {m : Nat} (h : Sp.attr fr p l = .ok (a, m)) : a.at_ = p := by
  by_cases h0 : Sp.nameN (l.length + 1) true l = 0
  · rw [attr_zero h0] at h; cases h
  · by_cases hh : ((l.drop (Sp.nameN (l.length + 1) true l)).drop (Sp.blanksN (l.drop (Sp.nameN (l.length + 1) true l)))).head? = some 61
    · obtain ⟨l3, h3⟩ := sp_head_cons hh
      rw [attr_more rfl h0 rfl h3 rfl rfl] at h
      unfold attrTail at h
      split at h
      · split at h
        · split at h
          · cases h
          · split at h
            · cases h
            · injection h with h; injection h with h1 h2; rw [← h1]
        · cases h
      · cases h
    · rw [attr_none rfl h0 rfl rfl hh] at h; cases h

theorem attrs_bd (fr : Nat) : ∀ (k p : Nat) (l : List UInt8) (acc : List Sp.At) (n : Nat) (az : List Sp.At) (e : Bool) (m M : Nat), Sp.attrs fr k p l acc n = .ok (az, e, m) → p + l.length ≤ M → (∀ a ∈ acc, a.at_ ≤ M) →
    (∀ a ∈ az, a.at_ ≤ M) ∧ az.length + n ≤ acc.length + m := by
  intro k
  induction k with
  | zero =>
    intro p l acc n az e m M h _ ha
    injection h with h; injection h with h1 h2; injection h2 with h2 h3
    subst h1 h3
    exact ⟨ha, by omega⟩
  | succ k ih =>
    intro p l acc n az e m M h hM ha
    rw [attrs_in] at h
    have hbl := blanks_le l
    obtain ⟨b, hb⟩ : ∃ b, Sp.blanksN l = b := ⟨_, rfl⟩
    rw [hb] at h hbl
    by_cases h62 : (l.drop b).head? = some 62
    · obtain ⟨t, ht⟩ := sp_head_cons h62
      rw [ht, in_gt] at h
      injection h with h; injection h with h1 h2; injection h2 with h2 h3
      subst h1
      exact ⟨ha, by omega⟩
    · by_cases h47 : (l.drop b).head? = some 47
      · obtain ⟨t, ht⟩ := sp_head_cons h47
        rw [ht] at h
        by_cases h2 : t.head? = some 62
        · obtain ⟨t2, rfl⟩ := sp_head_cons h2
          rw [in_sl_gt] at h
          injection h with h; injection h with h1 h2; injection h2 with h2 h3
          subst h1
          exact ⟨ha, by omega⟩
        · rw [in_sl_no _ _ _ _ _ _ _ _ h2] at h; cases h
      · by_cases hb0 : b = 0
        · subst hb0
          rw [in_gap _ _ _ _ _ _ _ h62 h47] at h; cases h
        · rw [in_attr _ _ _ _ _ _ _ _ h62 h47 hb0] at h
          have hfd := attr_fd fr (p + b) (l.drop b)
          cases hat : Sp.attr fr (p + b) (l.drop b) with
          | error f => rw [hat] at h; cases h
          | ok r =>
            obtain ⟨a, m0⟩ := r
            rw [hat] at h
            have hm := hfd.2 a m0 hat
            have hm1 := hm.1.1
            rw [List.length_drop] at hm1
            obtain ⟨k1, k2⟩ := ih _ _ _ _ _ _ _ M h (by rw [List.length_drop, List.length_drop]; omega) (fun x hx => by
              rcases List.mem_append.1 hx with hx | hx
              · exact ha x hx
              · rw [List.mem_singleton.1 hx, attr_at hat]; omega)
            refine ⟨k1, ?_⟩
            rw [List.length_append, List.length_singleton] at k2
            omega

/-- A mark's places, and how many attributes it has. -/
def MkBd (M : Nat) (m : Sp.Mk) : Prop := m.at_ ≤ M ∧ m.attrs.length ≤ M ∧ ∀ a ∈ m.attrs, a.at_ ≤ M
theorem sp_tell_len (t : List UInt8) (p : Nat) : (Sp.tell t p).length ≤ 1 := by
  unfold Sp.tell; split <;> simp
theorem tell_bd (M p : Nat) (t : List UInt8) (h : p ≤ M) : ∀ m ∈ Sp.tell t p, MkBd M m := by
  intro m hm
  unfold Sp.tell at hm
  split at hm
  · cases hm
  · rw [List.mem_singleton.1 hm]; exact ⟨h, Nat.zero_le _, fun a ha => nomatch ha⟩
theorem piece_bd (p : Nat) (c : UInt8) (t : List UInt8) (ms : List Sp.Mk) (n M : Nat) (h : Sp.piece p (c :: t) = .ok (ms, n)) (hM : p + (c :: t).length ≤ M) : (∀ m ∈ ms, MkBd M m) ∧ ms.length ≤ n := by
  have hpos := sp_piece_pos _ _ _ _ _ h
  unfold Sp.piece at h
  split at h
  · split at h
    · cases h
    · injection h with h; injection h with h1 h2
      subst h1
      exact ⟨fun m hm => (nomatch hm), Nat.zero_le _⟩
  · split at h
    · split at h
      · cases h
      · injection h with h; injection h with h1 h2
        subst h1
        refine ⟨tell_bd M p _ (by omega), ?_⟩
        exact Nat.le_trans (sp_tell_len _ _) hpos
    · split at h
      · obtain ⟨y, h1, h2⟩ := map_ok h
        injection h2 with h2 h3
        subst h2
        refine ⟨fun m hm => ?_, by simpa using hpos⟩
        rw [List.mem_singleton.1 hm]
        have h1' : Sp.closing p (c :: t) = .ok (y.1, y.2) := h1
        unfold Sp.closing at h1'
        simp only at h1'
        split at h1'
        · cases h1'
        · split at h1'
          · injection h1' with h1'; injection h1' with h4 h5
            rw [← h4]
            exact ⟨by show p ≤ M; omega, Nat.zero_le _, fun a ha => nomatch ha⟩
          · cases h1'
      · split at h
        · obtain ⟨y, h1, h2⟩ := map_ok h
          injection h2 with h2 h3
          subst h2
          refine ⟨fun m hm => ?_, by simpa using hpos⟩
          rw [List.mem_singleton.1 hm]
          rename_i hp
          obtain ⟨t2, ht2⟩ := prefix_cons hp
          have hfar := (opening_fd p t2).2 y.1 y.2 (by rw [← ht2]; exact h1)
          have hle := hfar.1
          rw [← ht2] at hle
          have h1' : Sp.opening p (c :: t) = .ok (y.1, y.2) := h1
          unfold Sp.opening at h1'
          simp only [List.drop_succ_cons, List.drop_zero] at h1'
          have hnl := name_le (t.length + 1) true t
          generalize Sp.nameN (t.length + 1) true t = nn at h1' hnl
          rw [List.length_cons] at hM hle
          split at h1'
          · cases h1'
          · split at h1'
            · cases h1'
            · rename_i hat
              obtain ⟨k1, k2⟩ := attrs_bd _ _ _ _ _ _ _ _ _ M hat (by rw [List.length_drop]; omega) (fun a ha => nomatch ha)
              injection h1' with h1'; injection h1' with h4 h5
              rw [← h4]
              simp only [List.length_nil] at k2
              exact ⟨by simp only; omega, by simp only; omega, k1⟩
        · obtain ⟨y, h1, h2⟩ := map_ok h
          injection h2 with h2 h3
          subst h2
          refine ⟨tell_bd M p _ (by omega), ?_⟩
          exact Nat.le_trans (sp_tell_len _ _) hpos
theorem pieces_bd : ∀ (k p : Nat) (l : List UInt8) (acc r : List Sp.Mk) (M : Nat), Sp.pieces k p l acc = .ok r → p + l.length ≤ M → acc.length ≤ p → (∀ m ∈ acc, MkBd M m) → (∀ m ∈ r, MkBd M m) ∧ r.length ≤ M := by
  intro k
  induction k with
  | zero =>
    intro p l acc r M h hM hl ha
    cases l <;> (injection h with h; subst h; exact ⟨ha, by omega⟩)
  | succ k ih =>
    intro p l acc r M h hM hl ha
    cases l with
    | nil => injection h with h; subst h; exact ⟨ha, by omega⟩
    | cons c t =>
      unfold Sp.pieces at h
      cases hp : Sp.piece p (c :: t) with
      | error f => rw [hp] at h; cases h
      | ok x =>
        obtain ⟨ms, n⟩ := x
        rw [hp] at h
        obtain ⟨b1, b2⟩ := piece_bd p c t ms n M hp hM
        have hfar := ((piece_fd p c t).2 ms n hp).1
        exact ih _ _ _ _ M h (by rw [List.length_drop]; omega) (by rw [List.length_append]; omega) (fun m hm => by
          rcases List.mem_append.1 hm with hm | hm
          · exact ha m hm
          · exact b1 m hm)
theorem marks_bd (l : List UInt8) (r : List Sp.Mk) (h : Sp.marks l = .ok r) : (∀ m ∈ r, MkBd l.length m) ∧ r.length ≤ l.length ∧ l.length ≤ 65536 := by
  unfold Sp.marks at h
  split at h
  · cases h
  · rename_i hl
    split at h
    · cases h
    · split at h
      · cases h
      · split at h
        · cases h
        · rename_i n hp
          have hn := ((prolog_fd l).2 n hp).1
          obtain ⟨k1, k2⟩ := pieces_bd _ _ _ _ _ l.length h (by rw [List.length_drop]; omega) (Nat.zero_le _) (fun m hm => nomatch hm)
          exact ⟨k1, k2, by omega⟩
end Go.Proofs.YtokdclmikllepaaGreatDoor
namespace Go.Proofs.YtokdclmikllepaaGreatDoor
set_option linter.unusedVariables false
set_option linter.unusedSimpArgs false

def wtA (a : Sp.At) : Nat := a.name.length + a.value.length + 1
def wtM (m : Sp.Mk) : Nat := m.name.length + m.text.length + (m.attrs.map wtA).sum

theorem putI_len4 (r : Int) : (Sp.putI r).length ≤ 4 := by
  unfold Sp.putI
  split
  · split
    · simp
    · split
      · simp
      · split <;> simp
  · simp
theorem put_len4 (r : Int) : (Sp.put r).length ≤ 4 := by
  unfold Sp.put
  rw [List.length_map]
  exact putI_len4 r
theorem numRune_wt (base : Nat) (t x : List UInt8) (h : Sp.numRune base t = some x) : x.length ≤ 4 ∧ 1 ≤ t.length := by
  unfold Sp.numRune at h
  split at h
  · cases h
  · rename_i h0
    have ht : 1 ≤ t.length := by
      cases t with
      | nil => exact absurd (.inl rfl) h0
      | cons c t => simp
    split at h
    · split at h
      · injection h with h
        rw [← h]
        exact ⟨put_len4 _, ht⟩
      · cases h
    · cases h
theorem refText_wt (y x : List UInt8) (h : Sp.refText y = some x) : x.length ≤ y.length + 2 := by
  unfold Sp.refText at h
  split at h
  · rename_i t ht
    injection h with h
    subst h
    unfold Sp.namedO at ht
    have h1 : t.length = 1 := by
      repeat (split at ht; · (injection ht with ht; rw [← ht]; rfl))
      cases ht
    omega
  · unfold Sp.numO at h
    split at h
    · have := numRune_wt _ _ _ h
      simp only [List.length_cons]
      omega
    · have := numRune_wt _ _ _ h
      simp only [List.length_cons]
      omega
    · cases h
theorem reference_wt (p : Nat) (t x : List UInt8) (m : Nat) (h : Sp.reference p (38 :: t) = .ok (x, m)) : x.length ≤ m := by
  obtain ⟨hf, hm, e, he, h1, h2⟩ := ref_far p _ x m h
  have := refText_wt _ _ h2
  have hb := find_bound _ _ _ he
  rw [List.length_take, List.length_cons, List.length_cons, List.length_nil] at hb
  rw [List.length_take, List.length_drop, List.length_cons] at this
  have h0 : e ≠ 0 := by
    rintro rfl
    have ha := find_at _ _ _ he
    obtain ⟨r, hr⟩ := ha
    rw [List.drop_zero, List.take_succ_cons] at hr
    injection hr with hr _
    exact absurd hr (by decide)
  omega
theorem lines_wt : ∀ (N : Nat) (l : List UInt8), l.length ≤ N → (Sp.lines l).length ≤ l.length := by
  intro N
  induction N with
  | zero => intro l hl; rw [List.eq_nil_of_length_eq_zero (by omega : l.length = 0)]; exact Nat.le_refl _
  | succ N ih =>
    intro l hl
    unfold Sp.lines
    split
    · exact Nat.le_refl _
    · rename_i t
      have := ih t (by simp only [List.length_cons] at hl; omega)
      simp only [List.length_cons]; omega
    · rename_i t _
      have := ih t (by simp only [List.length_cons] at hl; omega)
      simp only [List.length_cons]; omega
    · rename_i c t _ _
      have := ih t (by simp only [List.length_cons] at hl; omega)
      simp only [List.length_cons]; omega
theorem flat_wt (b : Bool) (l : List UInt8) : (Sp.flat b l).length ≤ l.length := by
  have := lines_wt _ l (Nat.le_refl _)
  unfold Sp.flat
  split
  · rw [List.length_map]; exact this
  · exact this
theorem text_wt (e : UInt8) (b : Bool) (fr : Nat) : ∀ (k p : Nat) (l acc : List UInt8) (n : Nat) (x : List UInt8) (m : Nat), Sp.text e b fr k p l acc n = .ok (x, m) → x.length + n ≤ acc.length + m := by
  intro k
  induction k with
  | zero =>
    intro p l acc n x m h
    injection h with h; injection h with h1 h2
    rw [h1, h2]
    exact Nat.le_refl _
  | succ k ih =>
    intro p l acc n x m h
    cases l with
    | nil => injection h with h; injection h with h1 h2; rw [h1, h2]; exact Nat.le_refl _
    | cons c t =>
      unfold Sp.text at h
      split at h
      · injection h with h; injection h with h1 h2; rw [h1, h2]; exact Nat.le_refl _
      · split at h
        · rename_i hc
          subst hc
          split at h
          · cases h
          · rename_i y q hr
            have h1 := ih _ _ _ _ _ _ h
            have h2 := reference_wt _ _ _ _ hr
            rw [List.length_append] at h1
            omega
        · split at h
          · cases h
          · have h1 := ih _ _ _ _ _ _ h
            have h2 := flat_wt b ((c :: t).takeWhile (Sp.plainB e))
            rw [List.length_append] at h1
            omega
theorem attr_wt (fr p : Nat) (l : List UInt8) (a : Sp.At) (m : Nat) (h : Sp.attr fr p l = .ok (a, m)) : wtA a ≤ m := by
  by_cases h0 : Sp.nameN (l.length + 1) true l = 0
  · rw [attr_zero h0] at h; cases h
  · by_cases hh : ((l.drop (Sp.nameN (l.length + 1) true l)).drop (Sp.blanksN (l.drop (Sp.nameN (l.length + 1) true l)))).head? = some 61
    · obtain ⟨l3, h3⟩ := sp_head_cons hh
      rw [attr_more rfl h0 rfl h3 rfl rfl] at h
      unfold attrTail at h
      split at h
      · split at h
        · split at h
          · cases h
          · rename_i x m' ht
            split at h
            · cases h
            · injection h with h; injection h with h1 h2
              have := text_wt _ _ _ _ _ _ _ _ _ _ ht
              simp only [List.length_nil] at this
              rw [← h1]
              unfold wtA
              simp only [List.length_take]
              omega
        · cases h
      · cases h
    · rw [attr_none rfl h0 rfl rfl hh] at h; cases h
theorem attrs_wt (fr : Nat) : ∀ (k p : Nat) (l : List UInt8) (acc : List Sp.At) (n : Nat) (az : List Sp.At) (e : Bool) (m : Nat), Sp.attrs fr k p l acc n = .ok (az, e, m) → (az.map wtA).sum + n ≤ (acc.map wtA).sum + m := by
  intro k
  induction k with
  | zero =>
    intro p l acc n az e m h
    injection h with h; injection h with h1 h2; injection h2 with h2 h3
    subst h1 h3
    omega
  | succ k ih =>
    intro p l acc n az e m h
    rw [attrs_in] at h
    obtain ⟨b, hb⟩ : ∃ b, Sp.blanksN l = b := ⟨_, rfl⟩
    rw [hb] at h
    by_cases h62 : (l.drop b).head? = some 62
    · obtain ⟨t, ht⟩ := sp_head_cons h62
      rw [ht, in_gt] at h
      injection h with h; injection h with h1 h2; injection h2 with h2 h3
      subst h1
      omega
    · by_cases h47 : (l.drop b).head? = some 47
      · obtain ⟨t, ht⟩ := sp_head_cons h47
        rw [ht] at h
        by_cases h2 : t.head? = some 62
        · obtain ⟨t2, rfl⟩ := sp_head_cons h2
          rw [in_sl_gt] at h
          injection h with h; injection h with h1 h2; injection h2 with h2 h3
          subst h1
          omega
        · rw [in_sl_no _ _ _ _ _ _ _ _ h2] at h; cases h
      · by_cases hb0 : b = 0
        · subst hb0
          rw [in_gap _ _ _ _ _ _ _ h62 h47] at h; cases h
        · rw [in_attr _ _ _ _ _ _ _ _ h62 h47 hb0] at h
          cases hat : Sp.attr fr (p + b) (l.drop b) with
          | error f => rw [hat] at h; cases h
          | ok r =>
            obtain ⟨a, m0⟩ := r
            rw [hat] at h
            have h1 := ih _ _ _ _ _ _ _ h
            have h2 := attr_wt _ _ _ _ _ hat
            rw [List.map_append, List.sum_append, List.map_singleton, List.sum_singleton] at h1
            omega
theorem tell_wt (t : List UInt8) (p : Nat) : ((Sp.tell t p).map wtM).sum ≤ t.length := by
  unfold Sp.tell
  split
  · simp
  · simp [wtM]
theorem piece_wt (p : Nat) (c : UInt8) (t : List UInt8) (ms : List Sp.Mk) (n : Nat) (h : Sp.piece p (c :: t) = .ok (ms, n)) : (ms.map wtM).sum ≤ n := by
  unfold Sp.piece at h
  split at h
  · split at h
    · cases h
    · injection h with h; injection h with h1 h2
      subst h1
      simp
  · split at h
    · split at h
      · cases h
      · rename_i i _
        injection h with h; injection h with h1 h2
        subst h1
        have h3 := tell_wt (Sp.lines (((c :: t).drop 9).take i)) p
        have h4 := lines_wt _ (((c :: t).drop 9).take i) (Nat.le_refl _)
        rw [List.length_take] at h4
        omega
    · split at h
      · obtain ⟨y, h1, h2⟩ := map_ok h
        injection h2 with h2 h3
        subst h2
        have h1' : Sp.closing p (c :: t) = .ok (y.1, y.2) := h1
        unfold Sp.closing at h1'
        simp only at h1'
        split at h1'
        · cases h1'
        · split at h1'
          · injection h1' with h1'; injection h1' with h4 h5
            rw [List.map_singleton, List.sum_singleton, ← h4]
            simp only [wtM, List.length_take, List.length_nil, List.map_nil, List.sum_nil]
            omega
          · cases h1'
      · split at h
        · obtain ⟨y, h1, h2⟩ := map_ok h
          injection h2 with h2 h3
          subst h2
          have h1' : Sp.opening p (c :: t) = .ok (y.1, y.2) := h1
          unfold Sp.opening at h1'
          simp only [List.drop_succ_cons, List.drop_zero] at h1'
          split at h1'
          · cases h1'
          · split at h1'
            · cases h1'
            · rename_i hat
              have k2 := attrs_wt _ _ _ _ _ _ _ _ _ hat
              injection h1' with h1'; injection h1' with h4 h5
              rw [List.map_singleton, List.sum_singleton, ← h4]
              simp only [List.map_nil, List.sum_nil] at k2
              simp only [wtM, List.length_take, List.length_nil]
              omega
        · obtain ⟨y, h1, h2⟩ := map_ok h
          injection h2 with h2 h3
          subst h2
          have h4 := text_wt _ _ _ _ _ _ _ _ _ _ h1
          have h5 := tell_wt y.1 p
          simp only [List.length_nil] at h4
          omega
theorem pieces_wt : ∀ (k p : Nat) (l : List UInt8) (acc r : List Sp.Mk), Sp.pieces k p l acc = .ok r → (r.map wtM).sum ≤ (acc.map wtM).sum + l.length := by
  intro k
  induction k with
  | zero =>
    intro p l acc r h
    cases l <;> (injection h with h; subst h; omega)
  | succ k ih =>
    intro p l acc r h
    cases l with
    | nil => injection h with h; subst h; omega
    | cons c t =>
      unfold Sp.pieces at h
      cases hp : Sp.piece p (c :: t) with
      | error f => rw [hp] at h; cases h
      | ok x =>
        obtain ⟨ms, n⟩ := x
        rw [hp] at h
        have b1 := piece_wt p c t ms n hp
        have hfar := ((piece_fd p c t).2 ms n hp).1
        have := ih _ _ _ _ h
        rw [List.map_append, List.sum_append, List.length_drop] at this
        omega
theorem marks_wt (l : List UInt8) (r : List Sp.Mk) (h : Sp.marks l = .ok r) : (r.map wtM).sum ≤ l.length := by
  unfold Sp.marks at h
  split at h
  · cases h
  · split at h
    · cases h
    · split at h
      · cases h
      · split at h
        · cases h
        · have := pieces_wt _ _ _ _ _ h
          rw [List.length_drop, List.map_nil, List.sum_nil] at this
          omega
end Go.Proofs.YtokdclmikllepaaGreatDoor
