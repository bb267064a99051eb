import Derived.Test.YtokdclmikllepaaGreatDoorKt13
import Derived.Test.YtokdclmikllepaaGreatDoorKt17
import Derived.Test.YtokdclmikllepaaGreatDoorKt27
import Derived.Test.YtokdclmikllepaaGreatDoorKt7
namespace Go.Proofs.YtokdclmikllepaaGreatDoor
set_option linter.unusedVariables false
set_option linter.unusedSimpArgs false

/-- The rune that n bytes mean, the first i of them read. -/
def rrI (n : Nat) : Nat → List UInt8 → Int → Int
  | _, [], r => r
  | i, c :: t, r => rrI n (i + 1) t (if 0 < i then r * 64 + (c.toNat : Int) % 64 else if n = 1 then (c.toNat : Int) else (c.toNat : Int) % 2 ^ (7 - n))

theorem rrI_snoc (n i : Nat) (l : List UInt8) (c : UInt8) (r : Int) :
    rrI n i (l ++ [c]) r = if 0 < i + l.length then rrI n i l r * 64 + (c.toNat : Int) % 64 else if n = 1 then (c.toNat : Int) else (c.toNat : Int) % 2 ^ (7 - n) := by
  induction l generalizing i r with
  | nil => simp [rrI]
  | cons d t ih => simp only [List.cons_append, rrI, ih, List.length_cons]; congr 1; simp; omega

def rr (n : Nat) (l : List UInt8) : Int := rrI n 0 (l.take n) 0

theorem put_inj1 {r x : Int} {c : UInt8} (h : UInt8.ofNat x.toNat = c) (h0 : 0 ≤ x ∧ x < 256) : (c.toNat : Int) = x := by
  subst h; simp [UInt8.toNat_ofNat]; omega

theorem put_two {r : Int} (h0 : 128 ≤ r) (h1 : r < 2048) : Sp.put r = [UInt8.ofNat (192 + r / 64).toNat, UInt8.ofNat (128 + r % 64).toNat] := by
  have : Sp.isRune r = true := by simp [Sp.isRune]; omega
  simp only [Sp.put, Sp.putI, this, if_true]
  rw [if_neg (by omega), if_pos (by omega)]
  rfl
theorem put_three {r : Int} (h0 : 2048 ≤ r) (h1 : r < 65536) (hs : r < 55296 ∨ 57344 ≤ r) : Sp.put r = [UInt8.ofNat (224 + r / 4096).toNat, UInt8.ofNat (128 + r / 64 % 64).toNat, UInt8.ofNat (128 + r % 64).toNat] := by
  have : Sp.isRune r = true := by simp [Sp.isRune]; omega
  simp only [Sp.put, Sp.putI, this, if_true]
  rw [if_neg (by omega), if_neg (by omega), if_pos (by omega)]
  rfl
theorem put_four {r : Int} (h0 : 65536 ≤ r) (h1 : r ≤ 1114111) : Sp.put r = [UInt8.ofNat (240 + r / 262144).toNat, UInt8.ofNat (128 + r / 4096 % 64).toNat, UInt8.ofNat (128 + r / 64 % 64).toNat, UInt8.ofNat (128 + r % 64).toNat] := by
  have : Sp.isRune r = true := by simp [Sp.isRune]; omega
  simp only [Sp.put, Sp.putI, this, if_true]
  rw [if_neg (by omega), if_neg (by omega), if_neg (by omega)]
  rfl
theorem put_one {r : Int} (h0 : 0 ≤ r) (h1 : r < 128) : Sp.put r = [UInt8.ofNat r.toNat] := by
  have : Sp.isRune r = true := by simp [Sp.isRune]; omega
  simp only [Sp.put, Sp.putI, this, if_true]
  rw [if_pos (by omega)]
  rfl
theorem put_length (r : Int) : (Sp.put r).length = (Sp.putI r).length := by simp [Sp.put]

theorem putI_one {r : Int} (h : (Sp.putI r).length = 1) : 0 ≤ r ∧ r < 128 := by
  unfold Sp.putI at h
  split at h
  · rename_i hr
    have := isRune_iff hr
    repeat' (split at h)
    all_goals first | omega | (simp at h)
  · simp at h

theorem rr1 (c : UInt8) (t : List UInt8) : rr 1 (c :: t) = (c.toNat : Int) := rfl
theorem rr2 (a b : UInt8) (t : List UInt8) : rr 2 (a :: b :: t) = (a.toNat : Int) % 32 * 64 + (b.toNat : Int) % 64 := rfl
theorem rr3 (a b c : UInt8) (t : List UInt8) : rr 3 (a :: b :: c :: t) = ((a.toNat : Int) % 16 * 64 + (b.toNat : Int) % 64) * 64 + (c.toNat : Int) % 64 := rfl
theorem rr4 (a b c d : UInt8) (t : List UInt8) : rr 4 (a :: b :: c :: d :: t) = (((a.toNat : Int) % 8 * 64 + (b.toNat : Int) % 64) * 64 + (c.toNat : Int) % 64) * 64 + (d.toNat : Int) % 64 := rfl

theorem u8_back {x : Int} {c : UInt8} (h : (c.toNat : Int) = x) : UInt8.ofNat x.toNat = c := by
  apply UInt8.toNat_inj.1
  have := c.toNat_lt
  simp [UInt8.toNat_ofNat]; omega

theorem contB_of {c : UInt8} (h : 128 ≤ c.toNat ∧ c.toNat < 192) : Sp.contB c = true := by simp [Sp.contB]; omega

theorem rr_next : ∀ (n : Nat) (l : List UInt8), 1 ≤ n → n ≤ 4 → n ≤ l.length → Sp.put (rr n l) = l.take n → Sp.next l = (rr n l, n)
  | 1, c :: t, _, _, _, h => by
    have hl := congrArg List.length h
    rw [put_length] at hl
    have hb := putI_one (by rw [hl]; simp)
    rw [rr1] at hb ⊢
    simp only [Sp.next]
    rw [if_pos (by omega)]
  | 2, a :: b :: t, _, _, _, h => by
    have hl := congrArg List.length h
    rw [put_length] at hl
    have hb := putI_two (by rw [hl]; simp)
    rw [put_two hb.1 hb.2] at h
    have hr : rr 2 (a :: b :: t) = (a.toNat : Int) % 32 * 64 + (b.toNat : Int) % 64 := rr2 a b t
    simp only [List.take_succ_cons, List.take_zero, List.cons.injEq, and_true] at h
    have h1 := put_inj1 (r := 0) h.1 (by omega)
    have h2 := put_inj1 (r := 0) h.2 (by omega)
    simp only [Sp.next]
    rw [if_neg (by omega), if_neg (by omega), if_pos (by omega)]
    simp only [Sp.tailR, List.length_cons]
    rw [if_neg (by omega)]
    have hc : (List.take (2 - 1) (b :: t)).all Sp.contB = true := by simp [contB_of (c := b) (by omega)]
    have hf : Sp.foldR ((a.toNat : Int) - 192) (List.take (2 - 1) (b :: t)) = rr 2 (a :: b :: t) := by
      show ((a.toNat : Int) - 192) * 64 + ((b.toNat : Int) - 128) = _
      omega
    rw [hc, hf, if_pos rfl, if_pos (by rw [hl]; simp)]
  | 3, a :: b :: c :: t, _, _, _, h => by
    have hl := congrArg List.length h
    rw [put_length] at hl
    have hb := putI_three (by rw [hl]; simp)
    rw [put_three hb.1 hb.2.1 hb.2.2] at h
    have hr : rr 3 (a :: b :: c :: t) = ((a.toNat : Int) % 16 * 64 + (b.toNat : Int) % 64) * 64 + (c.toNat : Int) % 64 := rr3 a b c t
    simp only [List.take_succ_cons, List.take_zero, List.cons.injEq, and_true] at h
    have h1 := put_inj1 (r := 0) h.1 (by omega)
    have h2 := put_inj1 (r := 0) h.2.1 (by omega)
    have h3 := put_inj1 (r := 0) h.2.2 (by omega)
    simp only [Sp.next]
    rw [if_neg (by omega), if_neg (by omega), if_neg (by omega), if_pos (by omega)]
    simp only [Sp.tailR, List.length_cons]
    rw [if_neg (by omega)]
    have hc : (List.take (3 - 1) (b :: c :: t)).all Sp.contB = true := by simp [contB_of (c := b) (by omega), contB_of (c := c) (by omega)]
    have hf : Sp.foldR ((a.toNat : Int) - 224) (List.take (3 - 1) (b :: c :: t)) = rr 3 (a :: b :: c :: t) := by
      show (((a.toNat : Int) - 224) * 64 + ((b.toNat : Int) - 128)) * 64 + ((c.toNat : Int) - 128) = _
      omega
    rw [hc, hf, if_pos rfl, if_pos (by rw [hl]; simp)]
  | 4, a :: b :: c :: d :: t, _, _, _, h => by
    have hl := congrArg List.length h
    rw [put_length] at hl
    have hb := putI_four (by rw [hl]; simp)
    rw [put_four hb.1 hb.2] at h
    have hr : rr 4 (a :: b :: c :: d :: t) = (((a.toNat : Int) % 8 * 64 + (b.toNat : Int) % 64) * 64 + (c.toNat : Int) % 64) * 64 + (d.toNat : Int) % 64 := rr4 a b c d t
    simp only [List.take_succ_cons, List.take_zero, List.cons.injEq, and_true] at h
    have h1 := put_inj1 (r := 0) h.1 (by omega)
    have h2 := put_inj1 (r := 0) h.2.1 (by omega)
    have h3 := put_inj1 (r := 0) h.2.2.1 (by omega)
    have h4 := put_inj1 (r := 0) h.2.2.2 (by omega)
    simp only [Sp.next]
    rw [if_neg (by omega), if_neg (by omega), if_neg (by omega), if_neg (by omega), if_pos (by omega)]
    simp only [Sp.tailR, List.length_cons]
    rw [if_neg (by omega)]
    have hc : (List.take (4 - 1) (b :: c :: d :: t)).all Sp.contB = true := by simp [contB_of (c := b) (by omega), contB_of (c := c) (by omega), contB_of (c := d) (by omega)]
    have hf : Sp.foldR ((a.toNat : Int) - 240) (List.take (4 - 1) (b :: c :: d :: t)) = rr 4 (a :: b :: c :: d :: t) := by
      show ((((a.toNat : Int) - 240) * 64 + ((b.toNat : Int) - 128)) * 64 + ((c.toNat : Int) - 128)) * 64 + ((d.toNat : Int) - 128) = _
      omega
    rw [hc, hf, if_pos rfl, if_pos (by rw [hl]; simp)]
  | 0, _, h, _, _, _ => absurd h (by omega)
  | n + 5, _, _, h, _, _ => absurd h (by omega)
  | 1, [], _, _, h, _ => absurd h (by simp)
  | 2, [], _, _, h, _ => absurd h (by simp)
  | 2, [_], _, _, h, _ => absurd h (by simp)
  | 3, [], _, _, h, _ => absurd h (by simp)
  | 3, [_], _, _, h, _ => absurd h (by simp)
  | 3, [_, _], _, _, h, _ => absurd h (by simp)
  | 4, [], _, _, h, _ => absurd h (by simp)
  | 4, [_], _, _, h, _ => absurd h (by simp)
  | 4, [_, _], _, _, h, _ => absurd h (by simp)
  | 4, [_, _, _], _, _, h, _ => absurd h (by simp)

theorem next_rr (c : UInt8) (t : List UInt8) (r : Int) (n : Nat) (h : Sp.next (c :: t) = (r, n)) (hn : n ≠ 0) :
    1 ≤ n ∧ n ≤ 4 ∧ n ≤ (c :: t).length ∧ Sp.put (rr n (c :: t)) = (c :: t).take n := by
  simp only [Sp.next] at h
  split at h
  · injection h with h1 h2
    subst h1 h2
    refine ⟨by omega, by omega, by simp, ?_⟩
    rw [rr1, put_one (by omega) (by omega), u8_back rfl]
    rfl
  split at h
  · injection h with h1 h2; omega
  split at h
  · obtain ⟨rfl, h1, h2, h3, -⟩ := tailR_inv h hn
    refine ⟨by omega, by omega, by simp; omega, ?_⟩
    match t, h1, h2, h with
    | b :: t, h1, h2, h =>
      have hb : Sp.contB b = true := by simpa using h2
      have kb := cont_in hb
      have hf : Sp.foldR ((c.toNat : Int) - 192) (List.take (2 - 1) (b :: t)) = rr 2 (c :: b :: t) := by
        rw [rr2]
        show ((c.toNat : Int) - 192) * 64 + ((b.toNat : Int) - 128) = _
        omega
      have he : r = rr 2 (c :: b :: t) := by
        unfold Sp.tailR at h
        repeat' (split at h)
        all_goals first | (injection h with _ h; omega) | (injection h with h _; rw [← h]; exact hf)
      have hb2 := putI_two h3
      rw [← he, put_two hb2.1 hb2.2]
      rw [rr2] at he
      simp only [List.take_succ_cons, List.take_zero]
      rw [u8_back (x := 192 + r / 64) (c := c) (by omega), u8_back (x := 128 + r % 64) (c := b) (by omega)]
    | [], h1, h2, h => simp at h1
  split at h
  · obtain ⟨rfl, h1, h2, h3, -⟩ := tailR_inv h hn
    refine ⟨by omega, by omega, by simp; omega, ?_⟩
    match t, h1, h2, h with
    | b :: d :: t, h1, h2, h =>
      have hb : Sp.contB b = true ∧ Sp.contB d = true := by simpa using h2
      have kb := cont_in hb.1
      have kd := cont_in hb.2
      have hf : Sp.foldR ((c.toNat : Int) - 224) (List.take (3 - 1) (b :: d :: t)) = rr 3 (c :: b :: d :: t) := by
        rw [rr3]
        show (((c.toNat : Int) - 224) * 64 + ((b.toNat : Int) - 128)) * 64 + ((d.toNat : Int) - 128) = _
        omega
      have he : r = rr 3 (c :: b :: d :: t) := by
        unfold Sp.tailR at h
        repeat' (split at h)
        all_goals first | (injection h with _ h; omega) | (injection h with h _; rw [← h]; exact hf)
      have hb2 := putI_three h3
      rw [← he, put_three hb2.1 hb2.2.1 hb2.2.2]
      rw [rr3] at he
      simp only [List.take_succ_cons, List.take_zero]
      rw [u8_back (x := 224 + r / 4096) (c := c) (by omega), u8_back (x := 128 + r / 64 % 64) (c := b) (by omega), u8_back (x := 128 + r % 64) (c := d) (by omega)]
    | [_], h1, h2, h => simp at h1
    | [], h1, h2, h => simp at h1
  split at h
  · obtain ⟨rfl, h1, h2, h3, -⟩ := tailR_inv h hn
    refine ⟨by omega, by omega, by simp; omega, ?_⟩
    match t, h1, h2, h with
    | b :: d :: e :: t, h1, h2, h =>
      have hb : Sp.contB b = true ∧ Sp.contB d = true ∧ Sp.contB e = true := by simpa using h2
      have kb := cont_in hb.1
      have kd := cont_in hb.2.1
      have ke := cont_in hb.2.2
      have hf : Sp.foldR ((c.toNat : Int) - 240) (List.take (4 - 1) (b :: d :: e :: t)) = rr 4 (c :: b :: d :: e :: t) := by
        rw [rr4]
        show ((((c.toNat : Int) - 240) * 64 + ((b.toNat : Int) - 128)) * 64 + ((d.toNat : Int) - 128)) * 64 + ((e.toNat : Int) - 128) = _
        omega
      have he : r = rr 4 (c :: b :: d :: e :: t) := by
        unfold Sp.tailR at h
        repeat' (split at h)
        all_goals first | (injection h with _ h; omega) | (injection h with h _; rw [← h]; exact hf)
      have hb2 := putI_four h3
      rw [← he, put_four hb2.1 hb2.2]
      rw [rr4] at he
      simp only [List.take_succ_cons, List.take_zero]
      rw [u8_back (x := 240 + r / 262144) (c := c) (by omega), u8_back (x := 128 + r / 4096 % 64) (c := b) (by omega), u8_back (x := 128 + r / 64 % 64) (c := d) (by omega), u8_back (x := 128 + r % 64) (c := e) (by omega)]
    | [_, _], h1, h2, h => simp at h1
    | [_], h1, h2, h => simp at h1
    | [], h1, h2, h => simp at h1
  · injection h with _ h; omega

theorem sp_next_zero' (l : List UInt8) (h : (Sp.next l).2 = 0) : (Sp.next l).1 = 0 := by
  have ht : ∀ n r t, 0 < n → (Sp.tailR n r t).2 = 0 → (Sp.tailR n r t).1 = 0 := fun n r t hn => by
    unfold Sp.tailR
    repeat' split
    all_goals (intro h; first | rfl | (simp only at h; omega))
  cases l with
  | nil => rfl
  | cons c t =>
    simp only [Sp.next] at h ⊢
    repeat' split
    all_goals simp_all
    all_goals exact ht _ _ _ (by omega) (by assumption)

theorem rr_none (l : List UInt8) (h : ∀ n, 1 ≤ n → n ≤ 4 → n ≤ l.length → Sp.put (rr n l) ≠ l.take n) : Sp.next l = (0, 0) := by
  cases l with
  | nil => rfl
  | cons c t =>
    obtain ⟨⟨r, n⟩, hn⟩ : ∃ x, Sp.next (c :: t) = x := ⟨_, rfl⟩
    by_cases h0 : n = 0
    · subst h0
      rw [hn]
      have := sp_next_zero' (c :: t) (by rw [hn])
      rw [hn] at this
      simp only at this
      rw [this]
    · obtain ⟨h1, h2, h3, h4⟩ := next_rr c t r n hn h0
      exact absurd h4 (h n h1 h2 h3)
end Go.Proofs.YtokdclmikllepaaGreatDoor
namespace Go.Proofs.YtokdclmikllepaaGreatDoor
open Go.RowKit
set_option linter.unusedVariables false
set_option linter.unusedSimpArgs false

set_option maxHeartbeats 2000000 in
set_option maxRecDepth 100000 in
theorem refChar_calls (r : Int) (w : World) :
    Calls Tryz.prog 22 #[.int .i32 r] w fun e w' => e = .returned (.bool (Sp.isChar r)) ∧ w = w' := by
  go_enter Tryz.func22, Tryz.ntmps22
  go_wp2_with (go_at_call 59; refine (refRune_calls _ _).mono ?_; rintro e w' ⟨rfl, rfl⟩)
  all_goals
    go_ret
    refine ⟨ret_bool ?_, rfl⟩
    simp only [Sp.isChar]
    generalize Sp.isRune r = b at *
    cases b <;> rw [Bool.eq_iff_iff] <;> simp at * <;> try (first | omega | (simp_all; done) | (simp_all; omega))

set_option maxHeartbeats 2000000 in
set_option maxRecDepth 100000 in
theorem refLetter_calls (r : Int) (w : World) :
    Calls Tryz.prog 115 #[.int .i32 r] w fun e w' => e = .returned (.bool (Sp.letter r)) ∧ w = w' := by
  go_enter Tryz.func115, Tryz.ntmps115
  go_wp2_with (go_at_call 22; refine (refChar_calls _ _).mono ?_; rintro e w' ⟨rfl, rfl⟩)
  all_goals
    go_ret
    refine ⟨ret_bool ?_, rfl⟩
    simp only [Sp.letter]
    generalize Sp.isChar r = b at *
    cases b <;> rw [Bool.eq_iff_iff] <;> simp at * <;> try (first | omega | (simp_all; done) | (simp_all; omega))

set_option maxHeartbeats 2000000 in
set_option maxRecDepth 100000 in
theorem refNameRune_calls (r : Int) (w : World) :
    Calls Tryz.prog 116 #[.int .i32 r] w fun e w' => e = .returned (.bool (Sp.nameRune r)) ∧ w = w' := by
  go_enter Tryz.func116, Tryz.ntmps116
  go_wp2_with (go_at_call 115; refine (refLetter_calls _ _).mono ?_; rintro e w' ⟨rfl, rfl⟩)
  all_goals
    go_ret
    refine ⟨ret_bool ?_, rfl⟩
    simp only [Sp.nameRune] at *
    generalize Sp.letter r = b at *
    cases b <;> rw [Bool.eq_iff_iff] <;> simp at * <;> try (first | omega | (simp_all; done) | (simp_all; omega))

/-- The first i bytes of n at p, read. -/
theorem rr_read (s : ByteArray) (p n i : Nat) (hi : i < n) (hn : p + n ≤ s.size) :
    rrI n 0 (((L s).drop p).take (i + 1)) 0 = if 0 < i then rrI n 0 (((L s).drop p).take i) 0 * 64 + ((s[p + i]'(by omega)).toNat : Int) % 64 else if n = 1 then ((s[p + i]'(by omega)).toNat : Int) else ((s[p + i]'(by omega)).toNat : Int) % 2 ^ (7 - n) := by
  have h1 : ((L s).drop p).take (i + 1) = ((L s).drop p).take i ++ [s[p + i]'(by omega)] := by
    rw [List.take_add_one]
    congr 1
    rw [List.getElem?_drop, List.getElem?_eq_getElem (by rw [L_length]; omega)]
    rfl
  rw [h1, rrI_snoc]
  have : (((L s).drop p).take i).length = i := by rw [List.length_take, List.length_drop, L_length]; omega
  rw [this, Nat.zero_add]

theorem rrI_bd (n : Nat) (hn : n ≤ 4) : ∀ (l : List UInt8), l.length ≤ 4 → 0 ≤ rrI n 0 l 0 ∧ rrI n 0 l 0 < 100000000 := by
  have hm : ∀ (x : Nat) (k : Nat), x < 256 → 1 ≤ k → 0 ≤ (x : Int) % 2 ^ k ∧ (x : Int) % 2 ^ k ≤ 255 := fun x k hx hk => by
    have h2 : (0 : Int) < 2 ^ k := Int.pow_pos (by omega)
    refine ⟨Int.emod_nonneg _ (by omega), ?_⟩
    by_cases h : (x : Int) < 2 ^ k
    · rw [Int.emod_eq_of_lt (by omega) h]; omega
    · have := Int.emod_lt_of_pos (x : Int) h2; omega
  have hf : ∀ c : UInt8, 0 ≤ (if n = 1 then (c.toNat : Int) else (c.toNat : Int) % 2 ^ (7 - n)) ∧ (if n = 1 then (c.toNat : Int) else (c.toNat : Int) % 2 ^ (7 - n)) ≤ 255 := fun c => by
    have hc := c.toNat_lt
    split
    · omega
    · exact hm _ _ hc (by omega)
  intro l hl
  match l, hl with
  | [], _ => exact ⟨by simp [rrI], by simp [rrI]⟩
  | [a], _ =>
    have := hf a
    simp only [rrI, Nat.lt_irrefl, if_false] at *
    omega
  | [a, b], _ =>
    have := hf a
    simp only [rrI, Nat.lt_irrefl, if_false, Nat.zero_add, Nat.lt_succ_self, if_true, Nat.zero_lt_succ] at *
    generalize (if n = 1 then (a.toNat : Int) else (a.toNat : Int) % 2 ^ (7 - n)) = x at *
    omega
  | [a, b, c], _ =>
    have := hf a
    simp only [rrI, Nat.lt_irrefl, if_false, Nat.zero_add, Nat.lt_succ_self, if_true, Nat.zero_lt_succ] at *
    generalize (if n = 1 then (a.toNat : Int) else (a.toNat : Int) % 2 ^ (7 - n)) = x at *
    omega
  | [a, b, c, d], _ =>
    have := hf a
    simp only [rrI, Nat.lt_irrefl, if_false, Nat.zero_add, Nat.lt_succ_self, if_true, Nat.zero_lt_succ] at *
    generalize (if n = 1 then (a.toNat : Int) else (a.toNat : Int) % 2 ^ (7 - n)) = x at *
    omega
  | _ :: _ :: _ :: _ :: _ :: _, h => exact absurd h (by simp)

set_option maxHeartbeats 2000000 in
set_option maxRecDepth 100000 in
theorem refNext_calls (s : ByteArray) (p : Nat) (w : World) (hs : s.size ≤ 140737488351232) (hp2 : p ≤ 1407374883512320) :
    Calls Tryz.prog 96 #[.string s, .int .i64 p] w fun e w' => e = .returned (.tuple #[.int .i32 (Sp.next ((L s).drop p)).1, .int .i64 (Sp.next ((L s).drop p)).2]) ∧ Below w.heap.size w w' := by
  by_cases hp : p < s.size
  · obtain ⟨NX, hNX⟩ : ∃ x, Sp.next ((L s).drop p) = x := ⟨_, rfl⟩
    rw [hNX]
    have HN := Lib.hid hNX
    clear hNX
    have hd0 : decide ((p : Int) < 0) = false := by simp
    have hd1 : decide (s.size ≤ p) = false := by simp; omega
    go_enter Tryz.func96, Tryz.ntmps96
    go_wp2_with fail
    go_loopg [6, 7, 8, 9] 5 (fun k n _ _ _ wr => ∃ m : Nat, n = .int .i64 m ∧ 1 ≤ m ∧ m ≤ 5 ∧ 5 - m < k ∧ Hid (∀ q, 1 ≤ q → q < m → q ≤ ((L s).drop p).length → Sp.put (rr q ((L s).drop p)) ≠ ((L s).drop p).take q) ∧ Hid (Below w.heap.size w wr))
    case atStart => exact ⟨1, rfl, by omega, by omega, by omega, fun q h1 h2 => absurd h1 (by omega), Below.refl _ _⟩
    case round =>
      obtain ⟨n, rfl, h1, h5, hk, HQ, HB⟩ := hrel
      obtain ⟨gO, hgO⟩ : ∃ x, x = gk := ⟨_, rfl⟩
      by_cases h4 : n ≤ 4
      · by_cases hn : p + n ≤ s.size
        · have hd : decide ((n : Int) ≤ (s.size : Int) - (p : Int)) = true := by simp; omega
          go_wp2_with fail
          go_loopg [7, 8, 9] 5 (fun k r i _ wr2 => ∃ j : Nat, i = .int .i64 j ∧ r = .int .i32 (rrI n 0 (((L s).drop p).take j) 0) ∧ j ≤ n ∧ n - j < k ∧ wr2 = wr)
          case atStart => exact ⟨0, rfl, by simp [rrI], by omega, by omega, rfl⟩
          case round =>
            obtain ⟨j, rfl, rfl, hj, hkj, rfl⟩ := hrel
            by_cases hlt : j < n
            · have hrd := rr_read s p n j hlt hn
              have hb1 := rrI_bd n h4 (((L s).drop p).take j) (by rw [List.length_take]; omega)
              have hb2 := rrI_bd n h4 (((L s).drop p).take (j + 1)) (by rw [List.length_take]; omega)
              have hcu := (s[p + j]'(by omega)).toNat_lt
              generalize rrI n 0 (((L s).drop p).take j) 0 = R at *
              generalize hR2 : rrI n 0 (((L s).drop p).take (j + 1)) 0 = R2 at hrd hb2
              have HR2 := Lib.hid hR2
              clear hR2
              by_cases hj0 : j = 0
              · subst hj0
                have hcu0 := s[p].toNat_lt
                have hw : wrap32 ((s[p].toNat : Int)) = (s[p].toNat : Int) := IntWalk.wrap32_in _ (by omega)
                simp only [Nat.add_zero, Nat.lt_irrefl, if_false] at hrd
                by_cases hn1 : n = 1
                · subst hn1
                  simp only [if_true] at hrd
                  go_wp2_with fail
                  go_roundg (gk - 1)
                  case measure => omega
                  case rel => exact ⟨0 + 1, by simp, by rw [HR2.out, hrd], by omega, by omega, rfl⟩
                · have hn3 : n = 2 ∨ n = 3 ∨ n = 4 := by omega
                  rw [if_neg hn1] at hrd
                  rcases hn3 with rfl | rfl | rfl
                  all_goals
                    go_wp2_with fail
                    go_roundg (gk - 1)
                    case measure => omega
                    case rel => exact ⟨0 + 1, by simp, by rw [HR2.out, hrd]; simp [Int.tmod_eq_emod_of_nonneg], by omega, by omega, rfl⟩
              · go_wp2_with fail
                go_roundg (gk - 1)
                case measure => omega
                case rel => exact ⟨j + 1, by simp, by rw [HR2.out, hrd, if_pos (by omega)], by omega, by omega, rfl⟩
            · obtain rfl : j = n := by omega
              have hex : (s.extract p ((p : Int) + j).toNat).toList = ((L s).drop p).take j := by
                rw [toList_L, L_extract]
                congr 1
                omega
              have HEX := Lib.hid hex
              clear hex
              have hrr : rrI j 0 (((L s).drop p).take j) 0 = rr j ((L s).drop p) := rfl
              rw [hrr]
              generalize hR : rr j ((L s).drop p) = R at *
              go_wp2_with fail
              go_cut [66] (fun b wx => b = .bool (decide (Sp.put R = ((L s).drop p).take j)) ∧ Hid (Below w.heap.size w wx))
              case first =>
                have hx0 : (0 : Int) ≤ p := by omega
                have hx1 : (p : Int) ≤ (p : Int) + j := by omega
                have hx2 : (p : Int) + j ≤ s.size := by omega
                have hx3 : IntKind.i64.wrap ((p : Int) + j) = (p : Int) + j := IntWalk.i64_in _ (by omega)
                go_region_with (first
                  | (go_at_call 23; refine (refPut_calls _ _).mono ?_; rintro e w' ⟨v, rfl, hv, hb⟩
                     have hc0 := hv.conv
                     have hc1 := fun n => (hv.drewN n).conv))
                all_goals
                  go_wp2_with fail
                  go_meet
                  refine ⟨?_, ?_⟩
                  · rw [HEX.out]
                    congr 1
                    rw [Bool.eq_iff_iff]
                    simp
                  · have hb' : Below wr.heap.size wr w' := ⟨hb.os, hb.tape, hb.output, hb.size, hb.block⟩
                    first
                      | exact below_then HB.out hb'
                      | exact below_drewN (below_then HB.out hb') _
              case rest =>
                obtain ⟨rfl, HB2⟩ := hcut
                by_cases he : Sp.put R = ((L s).drop p).take j
                · have hde : decide (Sp.put R = ((L s).drop p).take j) = true := decide_eq_true he
                  rw [hde]
                  go_wp2_with fail
                  go_ret2
                  refine ⟨?_, HB2.out⟩
                  have := rr_next j ((L s).drop p) h1 h4 (by rw [List.length_drop, L_length]; omega) (by rw [hR]; exact he)
                  rw [HN.out, hR] at this
                  rw [this]
                  rfl
                · have hde : decide (Sp.put R = ((L s).drop p).take j) = false := decide_eq_false he
                  rw [hde]
                  go_wp2_with fail
                  go_roundg (gO - 1)
                  case measure => omega
                  case rel =>
                    refine ⟨j + 1, by simp, by omega, by omega, by omega, fun q hq1 hq2 hq3 => ?_, HB2⟩
                    by_cases hqj : q = j
                    · subst hqj; rw [hR]; exact he
                    · exact HQ.out q hq1 (by omega) hq3
        · go_wp2_with fail
          go_ret2
          refine ⟨?_, HB.out⟩
          have := rr_none ((L s).drop p) (fun q h1 h2 h3 => HQ.out q h1 (by rw [List.length_drop, L_length] at h3; omega) h3)
          rw [HN.out] at this
          rw [this]
          rfl
      · go_wp2_with fail
        go_ret2
        refine ⟨?_, HB.out⟩
        have := rr_none ((L s).drop p) (fun q h1 h2 h3 => HQ.out q h1 (by omega) h3)
        rw [HN.out] at this
        rw [this]
        rfl
  · go_enter Tryz.func96, Tryz.ntmps96
    go_wp2_with fail
    go_ret2
    refine ⟨?_, Below.refl _ _⟩
    rw [List.drop_eq_nil_of_le (by rw [L_length]; omega)]
    rfl
end Go.Proofs.YtokdclmikllepaaGreatDoor
