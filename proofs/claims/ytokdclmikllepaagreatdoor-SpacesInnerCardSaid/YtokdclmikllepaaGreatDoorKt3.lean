import Derived.Test.YtokdclmikllepaaGreatDoorKt2
namespace Go.Proofs.YtokdclmikllepaaGreatDoor
open Go.RowKit
set_option linter.unusedVariables false
set_option linter.unusedSimpArgs false

theorem ret_bool {a b : Bool} (h : a = b) : Ending.returned (.bool a) = .returned (.bool b) := by rw [h]

set_option maxHeartbeats 1000000 in
set_option maxRecDepth 100000 in
theorem next_1 (s : ByteArray) (p : Nat) (w : World) (hp : p < s.size) (hs : s.size ≤ 140737488351232) (h0 : s[p].toNat < 128 ∨ (128 ≤ s[p].toNat ∧ s[p].toNat < 192) ∨ 248 ≤ s[p].toNat) :
    Calls Tryz.prog 85 #[.string s, .int .i64 p] w fun e w' => e = .returned (.tuple #[.int .i32 (Sp.next ((L s).drop p)).1, .int .i64 (Sp.next ((L s).drop p)).2]) ∧ Below w.heap.size w w' := by
  have hnx : Sp.next ((L s).drop p) = if s[p].toNat < 128 then ((s[p].toNat : Int), 1) else (0, 0) := by
    rw [L_drop s p hp]
    simp only [Sp.next]
    rcases h0 with h | ⟨h, h'⟩ | h
    · rw [if_pos h, if_pos h]
    · rw [if_neg (by omega), if_pos (by omega), if_neg (by omega)]
    · rw [if_neg (by omega), if_neg (by omega), if_neg (by omega), if_neg (by omega), if_neg (by omega), if_neg (by omega)]
  have HN := Lib.hid hnx
  clear hnx
  have hcu : s[p].toNat < 256 := s[p].toNat_lt
  rcases h0 with h | ⟨h, h'⟩ | h
  all_goals
    go_enter Tryz.func85, Tryz.ntmps85
    go_wp2_with fail
    go_ret2
    refine ⟨?_, Below.refl _ _⟩
    rw [HN.out]
    first
      | (rw [if_pos (by omega)]; rfl)
      | (rw [if_neg (by omega)]; rfl)

set_option maxHeartbeats 1000000 in
set_option maxRecDepth 100000 in
theorem next_short (n : Nat) (s : ByteArray) (p : Nat) (w : World) (hp : p < s.size) (hs : s.size ≤ 140737488351232)
    (h0 : (n = 2 ∧ 192 ≤ s[p].toNat ∧ s[p].toNat < 224) ∨ (n = 3 ∧ 224 ≤ s[p].toNat ∧ s[p].toNat < 240) ∨ (n = 4 ∧ 240 ≤ s[p].toNat ∧ s[p].toNat < 248)) (hn : s.size < p + n) :
    Calls Tryz.prog 85 #[.string s, .int .i64 p] w fun e w' => e = .returned (.tuple #[.int .i32 0, .int .i64 0]) ∧ Below w.heap.size w w' := by
  have hcu : s[p].toNat < 256 := s[p].toNat_lt
  rcases h0 with ⟨rfl, h, h'⟩ | ⟨rfl, h, h'⟩ | ⟨rfl, h, h'⟩
  all_goals
    go_enter Tryz.func85, Tryz.ntmps85
    go_wp2_with fail
    go_ret2
    exact ⟨rfl, Below.refl _ _⟩

set_option maxHeartbeats 1000000 in
set_option maxRecDepth 100000 in
theorem next_out (s : ByteArray) (p : Nat) (w : World) (hp : s.size ≤ p) (hs : s.size ≤ 140737488351232) (hp2 : p ≤ 1407374883512320) :
    Calls Tryz.prog 85 #[.string s, .int .i64 p] w fun e w' => e = .returned (.tuple #[.int .i32 0, .int .i64 0]) ∧ Below w.heap.size w w' := by
  go_enter Tryz.func85, Tryz.ntmps85
  go_wp2_with fail
  go_ret2
  exact ⟨rfl, Below.refl _ _⟩

theorem next_calls (s : ByteArray) (p : Nat) (w : World) (hs : s.size ≤ 140737488351232) (hp2 : p ≤ 1407374883512320) :
    Calls Tryz.prog 85 #[.string s, .int .i64 p] w fun e w' => e = .returned (.tuple #[.int .i32 (Sp.next ((L s).drop p)).1, .int .i64 (Sp.next ((L s).drop p)).2]) ∧ Below w.heap.size w w' := by
  by_cases hp : p < s.size
  · by_cases h : s[p].toNat < 128 ∨ (128 ≤ s[p].toNat ∧ s[p].toNat < 192) ∨ 248 ≤ s[p].toNat
    · exact next_1 s p w hp hs h
    · have e : ∀ n r, (n = 2 ∨ n = 3 ∨ n = 4) → s.size < p + n → Sp.tailR n r ((L s).drop (p + 1)) = (0, 0) := fun n r hn hlt => by
        have hlen : ((L s).drop (p + 1)).length < n - 1 := by simp; omega
        unfold Sp.tailR
        rw [if_pos hlen]
      rw [L_drop s p hp]
      simp only [Sp.next]
      rw [if_neg (by omega), if_neg (by omega)]
      by_cases h2 : s[p].toNat < 224
      · rw [if_pos h2]
        by_cases hn : p + 2 ≤ s.size
        · exact next_2 s p w hp hs (by omega) h2 hn
        · rw [e 2 _ (by omega) (by omega)]
          exact next_short 2 s p w hp hs (.inl ⟨rfl, by omega, h2⟩) (by omega)
      rw [if_neg h2]
      by_cases h3 : s[p].toNat < 240
      · rw [if_pos h3]
        by_cases hn : p + 3 ≤ s.size
        · exact next_3 s p w hp hs (by omega) h3 hn
        · rw [e 3 _ (by omega) (by omega)]
          exact next_short 3 s p w hp hs (.inr (.inl ⟨rfl, by omega, h3⟩)) (by omega)
      rw [if_neg h3, if_pos (by omega)]
      by_cases hn : p + 4 ≤ s.size
      · exact next_4 s p w hp hs (by omega) (by omega) hn
      · rw [e 4 _ (by omega) (by omega)]
        exact next_short 4 s p w hp hs (.inr (.inr ⟨rfl, by omega, by omega⟩)) (by omega)
  · have : (L s).drop p = [] := List.drop_eq_nil_of_le (by rw [L_length]; omega)
    rw [this]
    exact next_out s p w (by omega) hs hp2

theorem put_nil (r : Int) : (Sp.put r).isEmpty = !Sp.isRune r := by
  unfold Sp.put Sp.putI
  cases h : Sp.isRune r
  · simp
  · simp only [if_true]
    repeat' split
    all_goals rfl

set_option maxHeartbeats 1000000 in
set_option maxRecDepth 100000 in
theorem char_calls (r : Int) (w : World) (h0 : -2147483648 ≤ r) (h1 : r ≤ 2147483647) :
    Calls Tryz.prog 48 #[.int .i32 r] w fun e w' => e = .returned (.bool (Sp.isChar r)) ∧ Below w.heap.size w w' := by
  go_enter Tryz.func48, Tryz.ntmps48
  go_wp2_with (go_at_call 86; refine (put_calls _ _).mono ?_; rintro e w' ⟨rfl, hb⟩)
  all_goals
    have hpn := put_nil r
    have hpe : (Sp.put r).isEmpty = true ↔ Sp.put r = [] := List.isEmpty_iff
    go_ret
    refine ⟨ret_bool ?_, by first | assumption | exact Below.refl _ _⟩
    simp_all [Sp.isChar, Sp.isRune]
    try (first | (intros; omega) | (rw [Bool.eq_iff_iff]; simp; intros; omega))

set_option maxHeartbeats 1000000 in
set_option maxRecDepth 100000 in
theorem letter_calls (r : Int) (w : World) (h0 : -2147483648 ≤ r) (h1 : r ≤ 2147483647) :
    Calls Tryz.prog 143 #[.int .i32 r] w fun e w' => e = .returned (.bool (Sp.letter r)) ∧ Below w.heap.size w w' := by
  go_enter Tryz.func143, Tryz.ntmps143
  go_wp2_with (go_at_call 48; refine (char_calls _ _ ?_ ?_).mono ?_; (· omega); (· omega); rintro e w' ⟨rfl, hb⟩)
  all_goals
    go_ret
    refine ⟨ret_bool ?_, by first | assumption | exact Below.refl _ _⟩
    simp only [Sp.letter]
    generalize Sp.isChar r = b at *
    cases b <;> rw [Bool.eq_iff_iff] <;> simp <;> try omega

set_option maxHeartbeats 1000000 in
set_option maxRecDepth 100000 in
theorem nameRune_calls (r : Int) (w : World) (h0 : -2147483648 ≤ r) (h1 : r ≤ 2147483647) :
    Calls Tryz.prog 144 #[.int .i32 r] w fun e w' => e = .returned (.bool (Sp.nameRune r)) ∧ Below w.heap.size w w' := by
  go_enter Tryz.func144, Tryz.ntmps144
  go_wp2_with (go_at_call 143; refine (letter_calls _ _ ?_ ?_).mono ?_; (· omega); (· omega); rintro e w' ⟨rfl, hb⟩)
  all_goals
    go_ret
    refine ⟨ret_bool ?_, by first | assumption | exact Below.refl _ _⟩
    simp only [Sp.nameRune] at *
    generalize Sp.letter r = b at *
    cases b <;> rw [Bool.eq_iff_iff] <;> simp at * <;> try omega

theorem tailR_le (n : Nat) (r : Int) (t : List UInt8) (hn : 0 < n) : (Sp.tailR n r t).2 ≤ t.length + 1 ∧ (0 < (Sp.tailR n r t).2 → (Sp.tailR n r t).2 = n) := by
  unfold Sp.tailR
  split
  · exact ⟨by simp, by simp⟩
  · rename_i h
    split
    · split
      · exact ⟨by simp; omega, by simp⟩
      · exact ⟨by simp, by simp⟩
    · exact ⟨by simp, by simp⟩

theorem next_le (l : List UInt8) : (Sp.next l).2 ≤ l.length ∧ (Sp.next l).2 ≤ 4 := by
  cases l with
  | nil => simp [Sp.next]
  | cons c t =>
    simp only [Sp.next, List.length_cons]
    have h2 := tailR_le 2 ((c.toNat : Int) - 192) t (by omega)
    have h3 := tailR_le 3 ((c.toNat : Int) - 224) t (by omega)
    have h4 := tailR_le 4 ((c.toNat : Int) - 240) t (by omega)
    repeat' split
    all_goals first | omega | (simp only; omega)

theorem bad_step (k p : Nat) (l : List UInt8) (h : l ≠ []) : Sp.bad (k + 1) p l = if (Sp.next l).2 = 0 then some p else Sp.bad k (p + (Sp.next l).2) (l.drop (Sp.next l).2) := by
  cases l with
  | nil => exact absurd rfl h
  | cons c t => rfl

theorem drop_ne (s : ByteArray) (p : Nat) (h : p < s.size) : (L s).drop p ≠ [] := by
  intro e
  have := congrArg List.length e
  simp at this; omega

def badI (o : Option Nat) : Int := match o with | some i => (i : Int) | none => -1

set_option maxHeartbeats 1000000 in
set_option maxRecDepth 100000 in
theorem bad_calls (s : ByteArray) (w : World) (hs : s.size ≤ 140737488351232) :
    Calls Tryz.prog 47 #[.string s] w fun e w' => e = .returned (.int .i64 (badI (Sp.bad (s.size + 1) 0 (L s)))) ∧ Below w.heap.size w w' := by
  obtain ⟨B, hB⟩ : ∃ B, Sp.bad (s.size + 1) 0 (L s) = B := ⟨_, rfl⟩
  rw [hB]
  have HB := Lib.hid hB
  clear hB
  go_enter Tryz.func47, Tryz.ntmps47
  go_wp2_with fail
  go_loopw [3] (fun i wr => ∃ p k : Nat, p ≤ s.size ∧ s.size - p < k ∧ i = .int .i64 p ∧ Hid (Sp.bad k p ((L s).drop p) = B) ∧ Below w.heap.size w wr) (fun i _ => s.size - (intOf i).toNat)
  case atStart => exact ⟨0, s.size + 1, by omega, by omega, rfl, HB, Below.refl _ _⟩
  case round =>
    obtain ⟨p, k, hp, hk, rfl, HK, hb⟩ := hrel
    by_cases hlt : p < s.size
    · obtain ⟨k, rfl⟩ : ∃ m, k = m + 1 := ⟨k - 1, by omega⟩
      have hst := bad_step k p _ (drop_ne s p hlt)
      have hle := next_le ((L s).drop p)
      rw [List.length_drop, L_length] at hle
      have hle1 := hle.1
      have hle2 := hle.2
      clear hle
      generalize hnx : Sp.next ((L s).drop p) = x at *
      obtain ⟨r, n⟩ := x
      simp only at hst hle1 hle2
      have HS := Lib.hid hst
      have HN := Lib.hid hnx
      clear hst hnx
      by_cases hn : n = 0
      · subst hn
        go_wp2_with (go_at_call 85; refine (next_calls s p _ hs (by omega)).mono ?_; rw [HN.out]; rintro e w' ⟨rfl, hb2⟩)
        go_ret
        refine ⟨?_, below_then hb hb2⟩
        have := HS.out.symm.trans HK.out
        simp only [if_true] at this
        rw [← this]
        rfl
      · have hn0 : (((n : Nat) : Int) == 0) = false := by rw [beq_eq_false_iff_ne]; omega
        go_wp2_with (go_at_call 85; refine (next_calls s p _ hs (by omega)).mono ?_; rw [HN.out]; rintro e w' ⟨rfl, hb2⟩)
        go_roundw
        case rel =>
          refine ⟨p + n, k, by omega, by omega, by go_num, ?_, below_then hb hb2⟩
          have := HK.out
          rw [HS.out, if_neg hn, List.drop_drop] at this
          exact this
        case measure => simp [intOf]; omega
    · have : p = s.size := by omega
      subst this
      go_wp2_with fail
      go_ret
      refine ⟨?_, hb⟩
      have := HK.out
      rw [List.drop_eq_nil_of_le (by rw [L_length]; exact Nat.le_refl _)] at this
      rw [← this]
      cases k <;> rfl
end Go.Proofs.YtokdclmikllepaaGreatDoor
