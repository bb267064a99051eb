import Derived.Test.YtokdclmikllepaaGreatDoorKt30
import Derived.Test.YtokdclmikllepaaGreatDoorKt38
import Derived.Test.YtokdclmikllepaaGreatDoorKt11
import Derived.Test.YtokdclmikllepaaGreatDoorKt17
namespace Go.Proofs.YtokdclmikllepaaGreatDoor
open Go.RowKit
set_option linter.unusedVariables false
set_option linter.unusedSimpArgs false

def swp (q : Bool) (c : UInt8) : List UInt8 := match (if q then quoPs else escPs).lookup c with | some r => L r | none => [c]
theorem rep_swp (q : Bool) (l : List UInt8) : Sp.rep (if q then quoPs else escPs) l = l.flatMap (swp q) := rfl
theorem swp_len (q : Bool) (c : UInt8) : (swp q c).length ≤ 100 := by
  have h := rep_bound (if q then quoPs else escPs) 100 (by cases q <;> decide) (by decide) [c]
  rw [rep_swp] at h
  simpa using h
theorem swps_len (q : Bool) (l : List UInt8) : (l.flatMap (swp q)).length ≤ l.length * 100 := by
  have h := rep_bound (if q then quoPs else escPs) 100 (by cases q <;> decide) (by decide) l
  rw [rep_swp] at h
  exact h
theorem swps_take (q : Bool) (s : ByteArray) (i : Nat) (h : i < s.size) : ((L s).take (i + 1)).flatMap (swp q) = ((L s).take i).flatMap (swp q) ++ swp q s[i] := by
  rw [List.take_add_one, L_get s i h, Option.toList_some, List.flatMap_append]
  simp
end Go.Proofs.YtokdclmikllepaaGreatDoor
namespace Go.Proofs.YtokdclmikllepaaGreatDoor
set_option linter.unusedVariables false
set_option linter.unusedSimpArgs false

theorem chn_asc {c : UInt8} (h1 : c.toNat < 128) (h2 : Sp.isChar (c.toNat : Int) = true) : Chn [c] (c.toNat : Int) :=
  chn_next (c := c) (t := []) (n := 1) (by simp only [Sp.next, if_pos h1]) (by omega) h2
theorem cs_asc : ∀ l : List UInt8, (∀ c ∈ l, 32 ≤ c.toNat ∧ c.toNat < 128) → Cs l
  | [], _ => .nil
  | c :: t, h => by
    have hc := h c (List.mem_cons_self ..)
    exact Cs.cons [c] t _ (chn_asc hc.2 (by simp [Sp.isChar, Sp.isRune]; omega)) (cs_asc t fun x hx => h x (List.mem_cons_of_mem _ hx))
theorem find59_end (d : List UInt8) (t : List UInt8) (h : ∀ c ∈ d, c ≠ 59) : Sp.find [59] (d ++ 59 :: t) = some d.length := by
  induction d with
  | nil => rfl
  | cons c d ih =>
    rw [List.cons_append, find_step, if_neg, ih fun x hx => h x (List.mem_cons_of_mem _ hx)]
    · rfl
    · simp only [List.isPrefixOf, Bool.and_true, beq_iff_eq]
      exact fun e => h c (List.mem_cons_self ..) e.symm

end Go.Proofs.YtokdclmikllepaaGreatDoor
namespace Go.Proofs.YtokdclmikllepaaGreatDoor
set_option linter.unusedVariables false
set_option linter.unusedSimpArgs false

def eQ (q : Bool) : UInt8 := if q then 34 else 60
/-- A byte that stays as it is. -/
def isPl (q : Bool) (c : UInt8) : Bool := ((if q then quoPs else escPs).lookup c).isNone
theorem swp_pl {q : Bool} {c : UInt8} (h : isPl q c = true) : swp q c = [c] := by
  unfold isPl at h
  unfold swp
  rw [Option.isNone_iff_eq_none] at h
  rw [h]
theorem pl_facts : ∀ q : Bool, ∀ n, n < 256 → isPl q (UInt8.ofNat n) = true → Sp.plainB (eQ q) (UInt8.ofNat n) = true ∧ UInt8.ofNat n ≠ 13 ∧ (q = true → Sp.blank (UInt8.ofNat n) = UInt8.ofNat n) := by decide +kernel
theorem pl_is (q : Bool) (c : UInt8) (h : isPl q c = true) : Sp.plainB (eQ q) c = true ∧ c ≠ 13 ∧ (q = true → Sp.blank c = c) := by
  have := pl_facts q c.toNat (UInt8.toNat_lt c)
  rw [UInt8.ofNat_toNat] at this
  exact this h
/-- A byte that is replaced: its reference. -/
theorem sp_facts : ∀ q : Bool, ∀ n, n < 256 → isPl q (UInt8.ofNat n) = false → ∃ x ∈ ([[97, 109, 112], [108, 116], [103, 116], [35, 49, 51], [113, 117, 111, 116], [35, 57], [35, 49, 48]] : List (List UInt8)), swp q (UInt8.ofNat n) = 38 :: x ++ [59] ∧ Sp.refText x = some [UInt8.ofNat n] := by decide +kernel
theorem sp_is (q : Bool) (c : UInt8) (h : isPl q c = false) : ∃ x : List UInt8, (∀ y ∈ x, y ≠ 59) ∧ swp q c = 38 :: x ++ [59] ∧ Sp.refText x = some [c] := by
  have := sp_facts q c.toNat (UInt8.toNat_lt c)
  rw [UInt8.ofNat_toNat] at this
  obtain ⟨x, hx, h1, h2⟩ := this h
  refine ⟨x, ?_, h1, h2⟩
  simp only [List.mem_cons, List.not_mem_nil, or_false] at hx
  rcases hx with rfl | rfl | rfl | rfl | rfl | rfl | rfl <;> decide

theorem ref_is (p : Nat) (x t u : List UInt8) (h : ∀ y ∈ x, y ≠ 59) (hu : Sp.refText x = some u) : Sp.reference p (38 :: x ++ 59 :: t) = .ok (u, x.length + 2) := by
  rw [reference_is, find59_end (38 :: x) t (fun y hy => by
    rcases List.mem_cons.1 hy with rfl | hy
    · decide
    · exact h y hy)]
  simp only
  have htk : ((38 :: x ++ 59 :: t).drop 1).take ((38 :: x).length - 1) = x := by simp
  rw [htk, hu]
  rfl

theorem lines_id : ∀ l : List UInt8, (∀ c ∈ l, c ≠ 13) → Sp.lines l = l := by
  intro l
  induction l with
  | nil => intro _; rfl
  | cons c t ih =>
    intro h
    have hc := h c (List.mem_cons_self ..)
    have := ih fun x hx => h x (List.mem_cons_of_mem _ hx)
    unfold Sp.lines
    split
    · rename_i h1; cases h1
    · rename_i h1; injection h1 with h1 _; exact absurd h1 hc
    · rename_i h1; injection h1 with h1 _; exact absurd h1 hc
    · rename_i h1; injection h1 with h1 h2; subst h1 h2; rw [this]
theorem flat_id (q : Bool) (l : List UInt8) (h : ∀ c ∈ l, isPl q c = true) : Sp.flat q l = l := by
  have h1 := lines_id l (fun c hc => (pl_is q c (h c hc)).2.1)
  unfold Sp.flat
  cases q with
  | false => simpa using h1
  | true =>
    rw [if_pos rfl, h1]
    have : ∀ m : List UInt8, (∀ c ∈ m, isPl true c = true) → m.map Sp.blank = m := by
      intro m
      induction m with
      | nil => intro _; rfl
      | cons c t ih =>
        intro hm
        rw [List.map_cons, (pl_is true c (hm c (List.mem_cons_self ..))).2.2 rfl, ih fun x hx => hm x (List.mem_cons_of_mem _ hx)]
    exact this l h
theorem swps_pl (q : Bool) (l : List UInt8) (h : ∀ c ∈ l, isPl q c = true) : l.flatMap (swp q) = l := by
  induction l with
  | nil => rfl
  | cons c t ih => rw [List.flatMap_cons, swp_pl (h c (List.mem_cons_self ..)), ih fun x hx => h x (List.mem_cons_of_mem _ hx)]; rfl

theorem mem_takeWhile_is (p : UInt8 → Bool) : ∀ (l : List UInt8) (y : UInt8), y ∈ l.takeWhile p → p y = true := by
  intro l
  induction l with
  | nil => intro y hy; cases hy
  | cons c t ih =>
    intro y hy
    rw [List.takeWhile_cons] at hy
    split at hy
    · rename_i h
      rcases List.mem_cons.1 hy with rfl | hy
      · exact h
      · exact ih y hy
    · cases hy
/-- A text that was escaped is read as it was, up to its end. -/
theorem esc_text (q : Bool) (fr : Nat) (t : List UInt8) (ht : t = [] ∨ ∃ t', t = eQ q :: t') : ∀ (N : Nat) (l : List UInt8), l.length ≤ N → ∀ (k p n : Nat) (acc : List UInt8), N < k →
    Sp.text (eQ q) q fr k p (l.flatMap (swp q) ++ t) acc n = .ok (acc ++ l, n + (l.flatMap (swp q)).length) := by
  have he : eQ q ≠ 38 := by cases q <;> decide
  intro N
  induction N with
  | zero =>
    intro l hl k p n acc hk
    obtain rfl : l = [] := List.eq_nil_of_length_eq_zero (by omega)
    obtain ⟨k, rfl⟩ : ∃ m, k = m + 1 := ⟨k - 1, by omega⟩
    rw [List.flatMap_nil, List.nil_append, List.append_nil]
    rcases ht with rfl | ⟨t', rfl⟩
    · rw [text_nil]; rfl
    · rw [text_end]; rfl
  | succ N ih =>
    intro l hl k p n acc hk
    obtain ⟨k, rfl⟩ : ∃ m, k = m + 1 := ⟨k - 1, by omega⟩
    cases l with
    | nil =>
      rw [List.flatMap_nil, List.nil_append, List.append_nil]
      rcases ht with rfl | ⟨t', rfl⟩
      · rw [text_nil]; rfl
      · rw [text_end]; rfl
    | cons c l =>
      rw [List.length_cons] at hl
      cases hc : isPl q c with
      | false =>
        obtain ⟨x, h1, h2, h3⟩ := sp_is q c hc
        rw [List.flatMap_cons, h2]
        have e1 : (38 :: x ++ [59] ++ l.flatMap (swp q)) ++ t = 38 :: (x ++ 59 :: (l.flatMap (swp q) ++ t)) := by simp
        rw [e1, text_ref _ _ _ _ _ _ _ _ he, show (38 :: (x ++ 59 :: (l.flatMap (swp q) ++ t)) : List UInt8) = 38 :: x ++ 59 :: (l.flatMap (swp q) ++ t) from rfl, ref_is p x _ _ h1 h3]
        simp only
        have e2 : (38 :: x ++ 59 :: (l.flatMap (swp q) ++ t)).drop (x.length + 2) = l.flatMap (swp q) ++ t := by
          rw [show (38 :: x ++ 59 :: (l.flatMap (swp q) ++ t) : List UInt8) = (38 :: x ++ [59]) ++ (l.flatMap (swp q) ++ t) by simp]
          exact List.drop_left' (by simp)
        rw [e2, ih l (by omega) k _ _ _ (by omega)]
        simp
        omega
      | true =>
        obtain ⟨run, rest, hrr, hrun, hrest⟩ : ∃ run rest, c :: l = run ++ rest ∧ (∀ y ∈ run, isPl q y = true) ∧ (rest = [] ∨ ∃ y r, rest = y :: r ∧ isPl q y = false) := by
          refine ⟨(c :: l).takeWhile (isPl q), (c :: l).dropWhile (isPl q), (List.takeWhile_append_dropWhile).symm, fun y hy => ?_, ?_⟩
          · exact mem_takeWhile_is (isPl q) _ y hy
          · cases hd : (c :: l).dropWhile (isPl q) with
            | nil => exact .inl rfl
            | cons y r =>
              refine .inr ⟨y, r, rfl, ?_⟩
              have := List.head?_dropWhile_not (isPl q) (c :: l)
              rw [hd] at this
              simpa using this
        have hne : run ≠ [] := by
          rintro rfl
          rw [List.nil_append] at hrr
          rcases hrest with h | ⟨y, r, h, hy⟩
          · rw [h] at hrr; cases hrr
          · rw [h] at hrr; injection hrr with h1 _; rw [← h1, hc] at hy; cases hy
        rw [hrr, List.flatMap_append, swps_pl q run hrun]
        have htk : (run ++ rest.flatMap (swp q) ++ t).takeWhile (Sp.plainB (eQ q)) = run := by
          rw [List.append_assoc]
          have hp : ∀ y ∈ run, Sp.plainB (eQ q) y = true := fun y hy => (pl_is q y (hrun y hy)).1
          rw [List.takeWhile_append_of_pos hp]
          have : (rest.flatMap (swp q) ++ t).takeWhile (Sp.plainB (eQ q)) = [] := by
            rcases hrest with rfl | ⟨y, r, rfl, hy⟩
            · rw [List.flatMap_nil, List.nil_append]
              rcases ht with rfl | ⟨t', rfl⟩
              · rfl
              · rw [List.takeWhile_cons, if_neg (by simp [Sp.plainB])]
            · obtain ⟨x, _, h2, _⟩ := sp_is q y hy
              rw [List.flatMap_cons, h2, show (38 :: x ++ [59] ++ r.flatMap (swp q) ++ t : List UInt8) = 38 :: (x ++ [59] ++ r.flatMap (swp q) ++ t) from rfl, List.takeWhile_cons, if_neg (by cases q <;> decide)]
          rw [this, List.append_nil]
        have hdw : (run ++ rest.flatMap (swp q) ++ t).dropWhile (Sp.plainB (eQ q)) = rest.flatMap (swp q) ++ t := by
          rw [dropWhile_drop, htk, List.append_assoc]
          exact List.drop_left' rfl
        obtain ⟨c', run', rfl⟩ : ∃ c' run', run = c' :: run' := by
          cases run with
          | nil => exact absurd rfl hne
          | cons a b => exact ⟨a, b, rfl⟩
        have hc' := (pl_is q c' (hrun c' (List.mem_cons_self ..))).1
        have hcp : c' ≠ eQ q ∧ c' ≠ 38 ∧ c' ≠ 60 := by
          simp only [Sp.plainB, Bool.and_eq_true, Bool.not_eq_true', beq_eq_false_iff_ne] at hc'
          exact ⟨hc'.1.1, hc'.1.2, hc'.2⟩
        have hlr : rest.length ≤ N := by
          have := congrArg List.length hrr
          rw [List.length_append, List.length_cons, List.length_cons] at this
          omega
        have := text_plain (eQ q) q fr k p c' (run' ++ rest.flatMap (swp q) ++ t) acc n hcp.1 hcp.2.1 hcp.2.2
        rw [show (c' :: (run' ++ rest.flatMap (swp q) ++ t) : List UInt8) = c' :: run' ++ rest.flatMap (swp q) ++ t from rfl, htk, hdw, flat_id q _ hrun, ih rest hlr k _ _ _ (by omega)] at this
        rw [this]
        simp
        omega

theorem cs_append {a b : List UInt8} (ha : Cs a) (hb : Cs b) : Cs (a ++ b) := by
  induction ha with
  | nil => exact hb
  | cons u t r hu _ ih => rw [List.append_assoc]; exact Cs.cons u _ r hu ih
theorem sp_asc : ∀ q : Bool, ∀ n, n < 256 → isPl q (UInt8.ofNat n) = false → ∀ y ∈ swp q (UInt8.ofNat n), 32 ≤ y.toNat ∧ y.toNat < 128 := by decide +kernel
theorem hi_pl : ∀ q : Bool, ∀ n, n < 256 → 128 ≤ n → isPl q (UInt8.ofNat n) = true := by decide +kernel
theorem cs_swps (q : Bool) {l : List UInt8} (h : Cs l) : Cs (l.flatMap (swp q)) := by
  induction h with
  | nil => exact .nil
  | cons u t r hu _ ih =>
    rw [List.flatMap_append]
    refine cs_append ?_ ih
    rcases hu.hd with ⟨c, rfl, _, hc⟩ | ⟨_, hall⟩
    · rw [List.flatMap_singleton]
      cases hp : isPl q c with
      | true =>
        rw [swp_pl hp]
        have := Cs.cons [c] [] r hu .nil
        exact this
      | false =>
        have := sp_asc q c.toNat (UInt8.toNat_lt c)
        rw [UInt8.ofNat_toNat] at this
        exact cs_asc _ (this hp)
    · rw [swps_pl q u (fun y hy => by
        have := hi_pl q y.toNat (UInt8.toNat_lt y) (hall y hy)
        rwa [UInt8.ofNat_toNat] at this)]
      have := Cs.cons u [] r hu .nil
      rwa [List.append_nil] at this
theorem marks_cs (l : List UInt8) (h : Cs l) (hl : l.length ≤ 65536) (hx : Sp.prolog l = .ok 0) : Sp.marks l = Sp.pieces (l.length + 1) 0 l [] := by
  have := h.none (l.length + 1) 0 (by omega)
  unfold Sp.marks
  rw [if_neg (by omega), this.1]
  simp only [this.2, hx, List.drop_zero]
theorem swp_ne (q : Bool) (c : UInt8) : 1 ≤ (swp q c).length := by
  cases hp : isPl q c with
  | true => rw [swp_pl hp]; exact Nat.le_refl _
  | false => obtain ⟨x, _, h2, _⟩ := sp_is q c hp; rw [h2]; simp
theorem swps_ge (q : Bool) (l : List UInt8) : l.length ≤ (l.flatMap (swp q)).length := by
  induction l with
  | nil => exact Nat.le_refl _
  | cons c t ih => rw [List.flatMap_cons, List.length_append, List.length_cons]; have := swp_ne q c; omega
theorem swps_head (c : UInt8) (t : List UInt8) : ∃ d m, (c :: t).flatMap (swp false) = d :: m ∧ d ≠ 60 := by
  rw [List.flatMap_cons]
  cases hp : isPl false c with
  | true =>
    rw [swp_pl hp]
    refine ⟨c, _, rfl, ?_⟩
    have := (pl_is false c hp).1
    simp only [Sp.plainB, Bool.and_eq_true, Bool.not_eq_true', beq_eq_false_iff_ne] at this
    exact this.2
  | false =>
    obtain ⟨x, _, h2, _⟩ := sp_is false c hp
    rw [h2]
    exact ⟨38, _, rfl, by decide⟩
theorem piece_text (p : Nat) (d : UInt8) (m : List UInt8) (h : d ≠ 60) : Sp.piece p (d :: m) = (Sp.text 60 false p ((d :: m).length + 1) p (d :: m) [] 0).map fun r => (Sp.tell r.1 p, r.2) := by
  have hb : (60 == d) = false := by rw [beq_eq_false_iff_ne]; exact fun e => h e.symm
  unfold Sp.piece Sp.cdata9
  rw [if_neg (by simp [List.isPrefixOf, hb]), if_neg (by simp [List.isPrefixOf, hb]), if_neg (by simp [List.isPrefixOf, hb]), if_neg (by simp [List.isPrefixOf, hb])]
end Go.Proofs.YtokdclmikllepaaGreatDoor
