import Derived.Test.YtokdclmikllepaaGreatDoorMf36
import Derived.Test.YtokdclmikllepaaGreatDoorMf15
import Derived.Test.YtokdclmikllepaaGreatDoorMf23
namespace Go.Proofs.YtokdclmikllepaaGreatDoor
set_option linter.unusedVariables false
set_option linter.unusedSimpArgs false

def decL (n : Nat) : List UInt8 := if h : n < 10 then [UInt8.ofNat (48 + n)] else decL (n / 10) ++ [UInt8.ofNat (48 + n % 10)]
termination_by n
decreasing_by omega
def hexD (n : Nat) : UInt8 := ([48, 49, 50, 51, 52, 53, 54, 55, 56, 57, 97, 66, 99, 68, 101, 70] : List UInt8).getD n 0
def hexL (n : Nat) : List UInt8 := if h : n < 16 then [hexD n] else hexL (n / 16) ++ [hexD (n % 16)]
termination_by n
decreasing_by omega

theorem number_append (b m : Nat) (x y : List UInt8) : Sp.number b m (x ++ y) = (Sp.number b m x).bind fun k => Sp.number b k y := by
  induction x generalizing m with
  | nil => rfl
  | cons c x ih =>
    simp only [List.cons_append, Sp.number]
    cases Sp.digit b c with
    | none => rfl
    | some d => exact ih _
theorem digit10 : ∀ k, k < 10 → Sp.digit 10 (UInt8.ofNat (48 + k)) = some k := by decide
theorem digit16 : ∀ k, k < 16 → Sp.digit 16 (hexD k) = some k := by decide
theorem decL_number (n : Nat) : Sp.number 10 0 (decL n) = some n := by
  induction n using Nat.strongRecOn with
  | ind n ih =>
    unfold decL
    by_cases h : n < 10
    · rw [dif_pos h]
      simp only [Sp.number, digit10 n h]
      simp
    · rw [dif_neg h, number_append, ih (n / 10) (by omega)]
      simp only [Option.bind_some, Sp.number, digit10 (n % 10) (by omega)]
      congr 1; omega
theorem hexL_number (n : Nat) : Sp.number 16 0 (hexL n) = some n := by
  induction n using Nat.strongRecOn with
  | ind n ih =>
    unfold hexL
    by_cases h : n < 16
    · rw [dif_pos h]
      simp only [Sp.number, digit16 n h]
      simp
    · rw [dif_neg h, number_append, ih (n / 16) (by omega)]
      simp only [Option.bind_some, Sp.number, digit16 (n % 16) (by omega)]
      congr 1; omega
theorem noughts_number (k : Nat) (x : List UInt8) : Sp.number 10 0 (List.replicate k 48 ++ x) = Sp.number 10 0 x := by
  induction k with
  | zero => rfl
  | succ k ih => rw [List.replicate_succ, List.cons_append]; exact ih

/-- A byte that a number by reference may have. -/
def DB (c : UInt8) : Prop := (48 ≤ c.toNat ∧ c.toNat ≤ 57) ∨ (65 ≤ c.toNat ∧ c.toNat ≤ 70) ∨ (97 ≤ c.toNat ∧ c.toNat ≤ 102)
theorem decD_db : ∀ k, k < 10 → 48 ≤ (UInt8.ofNat (48 + k)).toNat ∧ (UInt8.ofNat (48 + k)).toNat ≤ 57 := by decide
theorem hexD_db : ∀ k, k < 16 → (48 ≤ (hexD k).toNat ∧ (hexD k).toNat ≤ 57) ∨ (65 ≤ (hexD k).toNat ∧ (hexD k).toNat ≤ 70) ∨ (97 ≤ (hexD k).toNat ∧ (hexD k).toNat ≤ 102) := by decide
theorem decL_db (n : Nat) : ∀ c ∈ decL n, 48 ≤ c.toNat ∧ c.toNat ≤ 57 := by
  induction n using Nat.strongRecOn with
  | ind n ih =>
    intro c hc
    unfold decL at hc
    by_cases h : n < 10
    · rw [dif_pos h, List.mem_singleton] at hc
      exact hc ▸ decD_db n h
    · rw [dif_neg h, List.mem_append, List.mem_singleton] at hc
      rcases hc with hc | hc
      · exact ih _ (by omega) c hc
      · exact hc ▸ decD_db (n % 10) (by omega)
theorem hexL_db (n : Nat) : ∀ c ∈ hexL n, DB c := by
  induction n using Nat.strongRecOn with
  | ind n ih =>
    intro c hc
    unfold hexL at hc
    by_cases h : n < 16
    · rw [dif_pos h, List.mem_singleton] at hc
      exact hc ▸ hexD_db n h
    · rw [dif_neg h, List.mem_append, List.mem_singleton] at hc
      rcases hc with hc | hc
      · exact ih _ (by omega) c hc
      · exact hc ▸ hexD_db (n % 16) (by omega)
theorem decL_len : ∀ k n : Nat, n < 10 ^ (k + 1) → 1 ≤ (decL n).length ∧ (decL n).length ≤ k + 1 := by
  intro k
  induction k with
  | zero => intro n h; unfold decL; rw [dif_pos (by simpa using h)]; simp
  | succ k ih =>
    intro n h
    unfold decL
    by_cases h10 : n < 10
    · rw [dif_pos h10]; simp
    · rw [dif_neg h10, List.length_append]
      have := ih (n / 10) (by rw [Nat.pow_succ] at h; omega)
      simp only [List.length_cons, List.length_nil]; omega
theorem hexL_len : ∀ k n : Nat, n < 16 ^ (k + 1) → 1 ≤ (hexL n).length ∧ (hexL n).length ≤ k + 1 := by
  intro k
  induction k with
  | zero => intro n h; unfold hexL; rw [dif_pos (by simpa using h)]; simp
  | succ k ih =>
    intro n h
    unfold hexL
    by_cases h10 : n < 16
    · rw [dif_pos h10]; simp
    · rw [dif_neg h10, List.length_append]
      have := ih (n / 16) (by rw [Nat.pow_succ] at h; omega)
      simp only [List.length_cons, List.length_nil]; omega

theorem chn_asc {c : UInt8} (h1 : c.toNat < 128) (h2 : Sp.isChar (c.toNat : Int) = true) : Chn [c] (c.toNat : Int) :=
  chn_next (c := c) (t := []) (n := 1) (by simp only [Sp.next, if_pos h1]) (by omega) h2
theorem cs_asc : ∀ l : List UInt8, (∀ c ∈ l, 32 ≤ c.toNat ∧ c.toNat < 128) → Cs l
  | [], _ => .nil
  | c :: t, h => by
    have hc := h c (List.mem_cons_self ..)
    exact Cs.cons [c] t _ (chn_asc hc.2 (by simp [Sp.isChar, Sp.isRune]; omega)) (cs_asc t fun x hx => h x (List.mem_cons_of_mem _ hx))
theorem marks_asc (l : List UInt8) (h : ∀ c ∈ l, 32 ≤ c.toNat ∧ c.toNat < 128) (hl : l.length ≤ 65536) (hx : Sp.prolog l = .ok 0) : Sp.marks l = Sp.pieces (l.length + 1) 0 l [] := by
  have := (cs_asc l h).none (l.length + 1) 0 (by omega)
  unfold Sp.marks
  rw [if_neg (by omega), this.1]
  simp only [this.2, hx, List.drop_zero]

theorem find59_end (d : List UInt8) (t : List UInt8) (h : ∀ c ∈ d, c ≠ 59) : Sp.find [59] (d ++ 59 :: t) = some d.length := by
  induction d with
  | nil => rfl
  | cons c d ih =>
    rw [List.cons_append, find_step, if_neg, ih fun x hx => h x (List.mem_cons_of_mem _ hx)]
    · rfl
    · simp only [List.isPrefixOf, Bool.and_true, beq_iff_eq]
      exact fun e => h c (List.mem_cons_self ..) e.symm

theorem named_hash (t : List UInt8) : Sp.namedO (35 :: t) = none := by
  unfold Sp.namedO
  rw [if_neg (by simp), if_neg (by simp), if_neg (by simp), if_neg (by simp), if_neg (by simp)]

/-- A reference by number, whichever base. -/
theorem ref_by (p : Nat) (x t : List UInt8) (h : ∀ c ∈ x, c ≠ 59) : Sp.reference p (38 :: 35 :: (x ++ 59 :: t)) = match Sp.numO (35 :: x) with | none => .error (p, 83) | some u => .ok (u, x.length + 3) := by
  rw [reference_is]
  have hf : Sp.find [59] (38 :: 35 :: (x ++ 59 :: t)) = some (x.length + 2) := by
    have := find59_end (38 :: 35 :: x) t (fun c hc => by
      rcases List.mem_cons.1 hc with rfl | hc
      · decide
      · rcases List.mem_cons.1 hc with rfl | hc
        · decide
        · exact h c hc)
    simpa using this
  rw [hf]
  simp only
  have htk : ((38 :: 35 :: (x ++ 59 :: t)).drop 1).take (x.length + 2 - 1) = 35 :: x := by
    simp
  rw [htk]
  unfold Sp.refText
  rw [named_hash]
  cases Sp.numO (35 :: x) <;> rfl

theorem numO_dec (d : List UInt8) (h : ∀ c ∈ d, 48 ≤ c.toNat ∧ c.toNat ≤ 57) : Sp.numO (35 :: d) = Sp.numRune 10 d := by
  cases d with
  | nil => rfl
  | cons c t =>
    have hc : c ≠ 120 := fun e => by have := h c (List.mem_cons_self ..); rw [e] at this; exact absurd this.2 (by decide)
    simp [Sp.numO, hc]

theorem db_ne {c : UInt8} (h : DB c) : c ≠ 59 ∧ c ≠ 60 ∧ c ≠ 38 ∧ c ≠ 39 ∧ 32 ≤ c.toNat ∧ c.toNat < 128 := by
  unfold DB at h
  refine ⟨?_, ?_, ?_, ?_, by omega, by omega⟩
  all_goals
    intro e
    rw [e] at h
    revert h
    decide

theorem refers_dec (d : List UInt8) (h : ∀ c ∈ d, 48 ≤ c.toNat ∧ c.toNat ≤ 57) (hl : d.length ≤ 60000) :
    Sp.marks (97 :: 38 :: 35 :: (d ++ [59])) = match Sp.numRune 10 d with | none => .error (1, 83) | some t => .ok [⟨3, [], [], false, 97 :: t, 0⟩] := by
  have hdb : ∀ c ∈ d, DB c := fun c hc => .inl (h c hc)
  rw [marks_asc _ (fun c hc => by
    simp only [List.mem_cons, List.mem_append, List.not_mem_nil, or_false] at hc
    rcases hc with rfl | rfl | rfl | hc | rfl
    · decide
    · decide
    · decide
    · have := db_ne (hdb c hc); exact ⟨this.2.2.2.2.1, this.2.2.2.2.2⟩
    · decide) (by simp; omega) (prolog_none _ (fun hx => by
      have := hx.2
      unfold Sp.xml5 at this
      injection this with h1 _
      exact absurd h1 (by decide)))]
  rw [List.length_cons, Sp.pieces]
  have htx : Sp.text 60 false 0 ((97 :: 38 :: 35 :: (d ++ [59])).length + 1) 0 (97 :: 38 :: 35 :: (d ++ [59])) [] 0 = match Sp.numRune 10 d with | none => .error (1, 83) | some t => .ok (97 :: t, d.length + 4) := by
    rw [text_plain _ _ _ _ _ _ _ _ _ (by decide) (by decide) (by decide)]
    have e1 : (97 :: 38 :: 35 :: (d ++ [59])).takeWhile (Sp.plainB 60) = [97] := rfl
    have e2 : (97 :: 38 :: 35 :: (d ++ [59])).dropWhile (Sp.plainB 60) = 38 :: 35 :: (d ++ [59]) := rfl
    rw [e1, e2, List.length_cons, text_ref _ _ _ _ _ _ _ _ (by decide), ref_by _ d [] (fun c hc => (db_ne (hdb c hc)).1), numO_dec d h]
    cases Sp.numRune 10 d with
    | none => rfl
    | some t =>
      simp only
      have e3 : (38 :: 35 :: (d ++ [59])).drop (d.length + 3) = [] := List.drop_eq_nil_of_le (by simp)
      rw [e3, text_nil]
      congr 2
      simp; omega
  have hpc : Sp.piece 0 (97 :: 38 :: 35 :: (d ++ [59])) = (Sp.text 60 false 0 ((97 :: 38 :: 35 :: (d ++ [59])).length + 1) 0 (97 :: 38 :: 35 :: (d ++ [59])) [] 0).map fun r => (Sp.tell r.1 0, r.2) := rfl
  rw [hpc, htx]
  cases Sp.numRune 10 d with
  | none => rfl
  | some t =>
    simp only [Except.map]
    have e3 : (97 :: 38 :: 35 :: (d ++ [59])).drop (d.length + 4) = [] := List.drop_eq_nil_of_le (by simp)
    rw [e3, pieces_nil]
    rfl

theorem refers_hex (d : List UInt8) (h : ∀ c ∈ d, DB c) (hl : d.length ≤ 60000) :
    Sp.marks (60 :: 97 :: 32 :: 98 :: 61 :: 39 :: 38 :: 35 :: 120 :: (d ++ [59, 39, 47, 62])) = match Sp.numRune 16 d with | none => .error (6, 83) | some t => .ok [⟨1, [97], [⟨[98], t, 3⟩], true, [], 0⟩] := by
  rw [marks_asc _ (fun c hc => by
    simp only [List.mem_cons, List.mem_append, List.not_mem_nil, or_false] at hc
    rcases hc with rfl | rfl | rfl | rfl | rfl | rfl | rfl | rfl | rfl | hc | rfl | rfl | rfl | rfl
    all_goals first
      | decide
      | (have := db_ne (h c hc); exact ⟨this.2.2.2.2.1, this.2.2.2.2.2⟩)) (by simp; omega) (prolog_none _ (fun hx => by
      have := hx.2
      unfold Sp.xml5 at this
      injection this with _ h1
      injection h1 with h1 _
      exact absurd h1 (by decide)))]
  rw [List.length_cons, Sp.pieces]
  have htx : ∀ k, Sp.text 39 true 0 (k + 2) 6 (38 :: 35 :: 120 :: (d ++ [59, 39, 47, 62])) [] 0 = match Sp.numRune 16 d with | none => .error (6, 83) | some t => .ok (t, d.length + 4) := by
    intro k
    rw [text_ref _ _ _ _ _ _ _ _ (by decide), show (38 :: 35 :: 120 :: (d ++ [59, 39, 47, 62]) : List UInt8) = 38 :: 35 :: ((120 :: d) ++ 59 :: [39, 47, 62]) by simp, ref_by _ (120 :: d) _ (fun c hc => by
      rcases List.mem_cons.1 hc with rfl | hc
      · decide
      · exact (db_ne (h c hc)).1)]
    show (match (match Sp.numRune 16 d with | none => Except.error (6, 83) | some u => Except.ok (u, (120 :: d).length + 3)) with | .error f => Except.error f | .ok (x, m) => Sp.text 39 true 0 (k + 1) (6 + m) ((38 :: 35 :: ((120 :: d) ++ 59 :: [39, 47, 62])).drop m) ([] ++ x) (0 + m)) = _
    cases Sp.numRune 16 d with
    | none => rfl
    | some t =>
      simp only
      have e3 : (38 :: 35 :: ((120 :: d) ++ 59 :: [39, 47, 62]) : List UInt8).drop ((120 :: d).length + 3) = [39, 47, 62] := by
        rw [show (38 :: 35 :: ((120 :: d) ++ 59 :: [39, 47, 62]) : List UInt8) = (38 :: 35 :: ((120 :: d) ++ [59])) ++ [39, 47, 62] by simp]
        exact List.drop_left' (by simp)
      rw [e3, text_end]
      simp
  have hat : Sp.attr 0 3 (98 :: 61 :: 39 :: 38 :: 35 :: 120 :: (d ++ [59, 39, 47, 62])) = match Sp.numRune 16 d with | none => .error (6, 83) | some t => .ok (⟨[98], t, 3⟩, d.length + 8) := by
    rw [attr_more (n := 1) (b := 0) (b2 := 0) (l3 := 39 :: 38 :: 35 :: 120 :: (d ++ [59, 39, 47, 62])) (l4 := 39 :: 38 :: 35 :: 120 :: (d ++ [59, 39, 47, 62])) rfl (by decide) rfl rfl rfl rfl]
    unfold attrTail
    simp only
    rw [if_pos (show (39 : UInt8) = 34 ∨ True from .inr trivial)]
    rw [show (38 :: 35 :: 120 :: (d ++ [59, 39, 47, 62])).length + 1 = (d ++ [59, 39, 47, 62]).length + 2 + 2 by simp, show 3 + 1 + 0 + 1 + 0 + 1 = 6 from rfl, htx]
    cases Sp.numRune 16 d with
    | none => rfl
    | some t =>
      simp only
      have e3 : (38 :: 35 :: 120 :: (d ++ [59, 39, 47, 62])).drop (d.length + 4) = [39, 47, 62] := by
        rw [show (38 :: 35 :: 120 :: (d ++ [59, 39, 47, 62]) : List UInt8) = (38 :: 35 :: 120 :: (d ++ [59])) ++ [39, 47, 62] by simp]
        exact List.drop_left' (by simp)
      rw [e3, if_neg (by simp), show 1 + 0 + 1 + 0 + 1 + (d.length + 4) + 1 = d.length + 8 by omega]
      rfl
  have has : ∀ k, Sp.attrs 0 (k + 2) 2 (32 :: 98 :: 61 :: 39 :: 38 :: 35 :: 120 :: (d ++ [59, 39, 47, 62])) [] 2 = match Sp.numRune 16 d with | none => .error (6, 83) | some t => .ok ([⟨[98], t, 3⟩], true, d.length + 13) := by
    intro k
    rw [attrs_in]
    show attrsIn 0 (k + 1) 2 (32 :: 98 :: 61 :: 39 :: 38 :: 35 :: 120 :: (d ++ [59, 39, 47, 62])) [] 2 1 (98 :: 61 :: 39 :: 38 :: 35 :: 120 :: (d ++ [59, 39, 47, 62])) = _
    rw [in_attr _ _ _ _ _ _ _ _ (by simp) (by simp) (by decide), hat]
    cases Sp.numRune 16 d with
    | none => rfl
    | some t =>
      simp only
      have e3 : (98 :: 61 :: 39 :: 38 :: 35 :: 120 :: (d ++ [59, 39, 47, 62])).drop (d.length + 8) = [47, 62] := by
        rw [show (98 :: 61 :: 39 :: 38 :: 35 :: 120 :: (d ++ [59, 39, 47, 62]) : List UInt8) = (98 :: 61 :: 39 :: 38 :: 35 :: 120 :: (d ++ [59, 39])) ++ [47, 62] by simp]
        exact List.drop_left' (by simp)
      rw [e3, attrs_in]
      show attrsIn 0 k _ [47, 62] _ _ 0 [47, 62] = _
      rw [in_sl_gt]
      simp; omega
  have hpc : Sp.piece 0 (60 :: 97 :: 32 :: 98 :: 61 :: 39 :: 38 :: 35 :: 120 :: (d ++ [59, 39, 47, 62])) = match Sp.numRune 16 d with | none => .error (6, 83) | some t => .ok ([⟨1, [97], [⟨[98], t, 3⟩], true, [], 0⟩], d.length + 13) := by
    have hp : Sp.piece 0 (60 :: 97 :: 32 :: 98 :: 61 :: 39 :: 38 :: 35 :: 120 :: (d ++ [59, 39, 47, 62])) = (Sp.opening 0 (60 :: 97 :: 32 :: 98 :: 61 :: 39 :: 38 :: 35 :: 120 :: (d ++ [59, 39, 47, 62]))).map fun r => ([r.1], r.2) := rfl
    rw [hp]
    have ho : Sp.opening 0 (60 :: 97 :: 32 :: 98 :: 61 :: 39 :: 38 :: 35 :: 120 :: (d ++ [59, 39, 47, 62])) = match Sp.attrs 0 ((60 :: 97 :: 32 :: 98 :: 61 :: 39 :: 38 :: 35 :: 120 :: (d ++ [59, 39, 47, 62])).length + 1) 2 (32 :: 98 :: 61 :: 39 :: 38 :: 35 :: 120 :: (d ++ [59, 39, 47, 62])) [] 2 with
        | .error f => .error f
        | .ok (az, e, m) => .ok (⟨1, [97], az, e, [], 0⟩, m) := rfl
    rw [ho, List.length_cons, has]
    cases Sp.numRune 16 d with
    | none => rfl
    | some t => rfl
  rw [hpc]
  cases Sp.numRune 16 d with
  | none => rfl
  | some t =>
    simp only
    have e3 : (60 :: 97 :: 32 :: 98 :: 61 :: 39 :: 38 :: 35 :: 120 :: (d ++ [59, 39, 47, 62])).drop (d.length + 13) = [] := List.drop_eq_nil_of_le (by simp)
    rw [e3, pieces_nil]
    rfl

/-- The two documents of MarkupRefers. -/
theorem refers_good (n k : Nat) (hn : n < 4294967296) (hc : Sp.isChar (n : Int) = true) (hl : (List.replicate k 48 ++ decL n).length ≤ 8) :
    Sp.marks (97 :: 38 :: 35 :: ((List.replicate k 48 ++ decL n) ++ [59])) = .ok [⟨3, [], [], false, 97 :: Sp.put n, 0⟩] := by
  have hlen := decL_len 9 n (by omega)
  rw [refers_dec _ (fun c h => by
    rcases List.mem_append.1 h with h | h
    · rw [List.eq_of_mem_replicate h]; decide
    · exact decL_db n c h) (by omega)]
  have : Sp.numRune 10 (List.replicate k 48 ++ decL n) = some (Sp.put n) := by
    unfold Sp.numRune
    rw [if_neg (by
      intro h
      rcases h with h | h
      · have := congrArg List.length h
        rw [List.length_append, List.length_nil] at this
        omega
      · omega), noughts_number, decL_number]
    simp only [if_pos hc]
  rw [this]
theorem refers_bad (n k : Nat) (hk : k ≤ 5) (hn : n < 4294967296) (h : Sp.isChar (n : Int) = false ∨ 8 < (List.replicate k 48 ++ decL n).length) :
    Sp.marks (97 :: 38 :: 35 :: ((List.replicate k 48 ++ decL n) ++ [59])) = .error (1, 83) := by
  have hlen := decL_len 9 n (by omega)
  rw [refers_dec _ (fun c h => by
    rcases List.mem_append.1 h with h | h
    · rw [List.eq_of_mem_replicate h]; decide
    · exact decL_db n c h) (by rw [List.length_append, List.length_replicate]; omega)]
  have : Sp.numRune 10 (List.replicate k 48 ++ decL n) = none := by
    unfold Sp.numRune
    by_cases h8 : (List.replicate k 48 ++ decL n) = [] ∨ 8 < (List.replicate k 48 ++ decL n).length
    · rw [if_pos h8]
    · rw [if_neg h8, noughts_number, decL_number]
      have hc : Sp.isChar (n : Int) = false := by
        rcases h with h | h
        · exact h
        · exact absurd (.inr h) h8
      simp [hc]
  rw [this]
theorem refers_hex_is (n : Nat) (hn : n < 4294967296) :
    Sp.marks (60 :: 97 :: 32 :: 98 :: 61 :: 39 :: 38 :: 35 :: 120 :: (hexL n ++ [59, 39, 47, 62])) = if Sp.isChar (n : Int) = true then .ok [⟨1, [97], [⟨[98], Sp.put n, 3⟩], true, [], 0⟩] else .error (6, 83) := by
  have hlen := hexL_len 7 n (by omega)
  rw [refers_hex _ (hexL_db n) (by omega)]
  have : Sp.numRune 16 (hexL n) = if Sp.isChar (n : Int) = true then some (Sp.put n) else none := by
    unfold Sp.numRune
    rw [if_neg (by
      intro h
      rcases h with h | h
      · have := congrArg List.length h
        rw [List.length_nil] at this
        omega
      · omega), hexL_number]
  rw [this]
  by_cases hc : Sp.isChar (n : Int) = true
  · rw [if_pos hc, if_pos hc]
  · rw [if_neg hc, if_neg hc]
end Go.Proofs.YtokdclmikllepaaGreatDoor
