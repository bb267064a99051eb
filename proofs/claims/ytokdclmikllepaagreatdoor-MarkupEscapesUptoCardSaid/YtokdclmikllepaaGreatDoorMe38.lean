import Derived.Test.YtokdclmikllepaaGreatDoorMe21
import Derived.Test.YtokdclmikllepaaGreatDoorMe29
import Derived.Test.YtokdclmikllepaaGreatDoorMe33
import Derived.Test.YtokdclmikllepaaGreatDoorMe9
namespace Go.Proofs.YtokdclmikllepaaGreatDoor
set_option linter.unusedVariables false
set_option linter.unusedSimpArgs false

/-- The rune that n bytes mean, the first i of them read. -/
def rrI (n : Nat) : Nat → List UInt8 → Int → Int
  | _, [], r => r
  | i, c :: t, r => rrI n (i + 1) t (if 0 < i then r * 64 + (c.toNat : Int) % 64 else if n = 1 then (c.toNat : Int) else (c.toNat : Int) % 2 ^ (7 - n))

theorem rrI_snoc (n i : Nat) (l : List UInt8) (c : UInt8) (r : Int) :
    rrI n i (l ++ [c]) r = if 0 < i + l.length then rrI n i l r * 64 + (c.toNat : Int) % 64 else if n = 1 then (c.toNat : Int) else (c.toNat : Int) % 2 ^ (7 - n) := by
  induction l generalizing i r with
  | nil => simp [rrI]
  | cons d t ih => simp only [List.cons_append, rrI, ih, List.length_cons]; congr 1; simp; omega

def rr (n : Nat) (l : List UInt8) : Int := rrI n 0 (l.take n) 0

theorem put_inj1 {r x : Int} {c : UInt8} (h : UInt8.ofNat x.toNat = c) (h0 : 0 ≤ x ∧ x < 256) : (c.toNat : Int) = x := by
  subst h; simp [UInt8.toNat_ofNat]; omega

theorem put_two {r : Int} (h0 : 128 ≤ r) (h1 : r < 2048) : Sp.put r = [UInt8.ofNat (192 + r / 64).toNat, UInt8.ofNat (128 + r % 64).toNat] := by
  have : Sp.isRune r = true := by simp [Sp.isRune]; omega
  simp only [Sp.put, Sp.putI, this, if_true]
  rw [if_neg (by omega), if_pos (by omega)]
  rfl
theorem put_three {r : Int} (h0 : 2048 ≤ r) (h1 : r < 65536) (hs : r < 55296 ∨ 57344 ≤ r) : Sp.put r = [UInt8.ofNat (224 + r / 4096).toNat, UInt8.ofNat (128 + r / 64 % 64).toNat, UInt8.ofNat (128 + r % 64).toNat] := by
  have : Sp.isRune r = true := by simp [Sp.isRune]; omega
  simp only [Sp.put, Sp.putI, this, if_true]
  rw [if_neg (by omega), if_neg (by omega), if_pos (by omega)]
  rfl
theorem put_four {r : Int} (h0 : 65536 ≤ r) (h1 : r ≤ 1114111) : Sp.put r = [UInt8.ofNat (240 + r / 262144).toNat, UInt8.ofNat (128 + r / 4096 % 64).toNat, UInt8.ofNat (128 + r / 64 % 64).toNat, UInt8.ofNat (128 + r % 64).toNat] := by
  have : Sp.isRune r = true := by simp [Sp.isRune]; omega
  simp only [Sp.put, Sp.putI, this, if_true]
  rw [if_neg (by omega), if_neg (by omega), if_neg (by omega)]
  rfl
theorem put_one {r : Int} (h0 : 0 ≤ r) (h1 : r < 128) : Sp.put r = [UInt8.ofNat r.toNat] := by
  have : Sp.isRune r = true := by simp [Sp.isRune]; omega
  simp only [Sp.put, Sp.putI, this, if_true]
  rw [if_pos (by omega)]
  rfl
theorem put_length (r : Int) : (Sp.put r).length = (Sp.putI r).length := by simp [Sp.put]

theorem putI_one {r : Int} (h : (Sp.putI r).length = 1) : 0 ≤ r ∧ r < 128 := by
  unfold Sp.putI at h
  split at h
  · rename_i hr
    have := isRune_iff hr
    repeat' (split at h)
    all_goals first | omega | (simp at h)
  · simp at h

theorem rr1 (c : UInt8) (t : List UInt8) : rr 1 (c :: t) = (c.toNat : Int) := rfl
theorem rr2 (a b : UInt8) (t : List UInt8) : rr 2 (a :: b :: t) = (a.toNat : Int) % 32 * 64 + (b.toNat : Int) % 64 := rfl
theorem rr3 (a b c : UInt8) (t : List UInt8) : rr 3 (a :: b :: c :: t) = ((a.toNat : Int) % 16 * 64 + (b.toNat : Int) % 64) * 64 + (c.toNat : Int) % 64 := rfl
theorem rr4 (a b c d : UInt8) (t : List UInt8) : rr 4 (a :: b :: c :: d :: t) = (((a.toNat : Int) % 8 * 64 + (b.toNat : Int) % 64) * 64 + (c.toNat : Int) % 64) * 64 + (d.toNat : Int) % 64 := rfl

theorem u8_back {x : Int} {c : UInt8} (h : (c.toNat : Int) = x) : UInt8.ofNat x.toNat = c := by
  apply UInt8.toNat_inj.1
  have := c.toNat_lt
  simp [UInt8.toNat_ofNat]; omega

theorem contB_of {c : UInt8} (h : 128 ≤ c.toNat ∧ c.toNat < 192) : Sp.contB c = true := by simp [Sp.contB]; omega

theorem rr_next : ∀ (n : Nat) (l : List UInt8), 1 ≤ n → n ≤ 4 → n ≤ l.length → Sp.put (rr n l) = l.take n → Sp.next l = (rr n l, n)
  | 1, c :: t, _, _, _, h => by
    have hl := congrArg List.length h
    rw [put_length] at hl
    have hb := putI_one (by rw [hl]; simp)
    rw [rr1] at hb ⊢
    simp only [Sp.next]
    rw [if_pos (by omega)]
  | 2, a :: b :: t, _, _, _, h => by
    have hl := congrArg List.length h
    rw [put_length] at hl
    have hb := putI_two (by rw [hl]; simp)
    rw [put_two hb.1 hb.2] at h
    have hr : rr 2 (a :: b :: t) = (a.toNat : Int) % 32 * 64 + (b.toNat : Int) % 64 := rr2 a b t
    simp only [List.take_succ_cons, List.take_zero, List.cons.injEq, and_true] at h
    have h1 := put_inj1 (r := 0) h.1 (by omega)
    have h2 := put_inj1 (r := 0) h.2 (by omega)
    simp only [Sp.next]
    rw [if_neg (by omega), if_neg (by omega), if_pos (by omega)]
    simp only [Sp.tailR, List.length_cons]
    rw [if_neg (by omega)]
    have hc : (List.take (2 - 1) (b :: t)).all Sp.contB = true := by simp [contB_of (c := b) (by omega)]
    have hf : Sp.foldR ((a.toNat : Int) - 192) (List.take (2 - 1) (b :: t)) = rr 2 (a :: b :: t) := by
      show ((a.toNat : Int) - 192) * 64 + ((b.toNat : Int) - 128) = _
      omega
    rw [hc, hf, if_pos rfl, if_pos (by rw [hl]; simp)]
  | 3, a :: b :: c :: t, _, _, _, h => by
    have hl := congrArg List.length h
    rw [put_length] at hl
    have hb := putI_three (by rw [hl]; simp)
    rw [put_three hb.1 hb.2.1 hb.2.2] at h
    have hr : rr 3 (a :: b :: c :: t) = ((a.toNat : Int) % 16 * 64 + (b.toNat : Int) % 64) * 64 + (c.toNat : Int) % 64 := rr3 a b c t
    simp only [List.take_succ_cons, List.take_zero, List.cons.injEq, and_true] at h
    have h1 := put_inj1 (r := 0) h.1 (by omega)
    have h2 := put_inj1 (r := 0) h.2.1 (by omega)
    have h3 := put_inj1 (r := 0) h.2.2 (by omega)
    simp only [Sp.next]
    rw [if_neg (by omega), if_neg (by omega), if_neg (by omega), if_pos (by omega)]
    simp only [Sp.tailR, List.length_cons]
    rw [if_neg (by omega)]
    have hc : (List.take (3 - 1) (b :: c :: t)).all Sp.contB = true := by simp [contB_of (c := b) (by omega), contB_of (c := c) (by omega)]
    have hf : Sp.foldR ((a.toNat : Int) - 224) (List.take (3 - 1) (b :: c :: t)) = rr 3 (a :: b :: c :: t) := by
      show (((a.toNat : Int) - 224) * 64 + ((b.toNat : Int) - 128)) * 64 + ((c.toNat : Int) - 128) = _
      omega
    rw [hc, hf, if_pos rfl, if_pos (by rw [hl]; simp)]
  | 4, a :: b :: c :: d :: t, _, _, _, h => by
    have hl := congrArg List.length h
    rw [put_length] at hl
    have hb := putI_four (by rw [hl]; simp)
    rw [put_four hb.1 hb.2] at h
    have hr : rr 4 (a :: b :: c :: d :: t) = (((a.toNat : Int) % 8 * 64 + (b.toNat : Int) % 64) * 64 + (c.toNat : Int) % 64) * 64 + (d.toNat : Int) % 64 := rr4 a b c d t
    simp only [List.take_succ_cons, List.take_zero, List.cons.injEq, and_true] at h
    have h1 := put_inj1 (r := 0) h.1 (by omega)
    have h2 := put_inj1 (r := 0) h.2.1 (by omega)
    have h3 := put_inj1 (r := 0) h.2.2.1 (by omega)
    have h4 := put_inj1 (r := 0) h.2.2.2 (by omega)
    simp only [Sp.next]
    rw [if_neg (by omega), if_neg (by omega), if_neg (by omega), if_neg (by omega), if_pos (by omega)]
    simp only [Sp.tailR, List.length_cons]
    rw [if_neg (by omega)]
    have hc : (List.take (4 - 1) (b :: c :: d :: t)).all Sp.contB = true := by simp [contB_of (c := b) (by omega), contB_of (c := c) (by omega), contB_of (c := d) (by omega)]
    have hf : Sp.foldR ((a.toNat : Int) - 240) (List.take (4 - 1) (b :: c :: d :: t)) = rr 4 (a :: b :: c :: d :: t) := by
      show ((((a.toNat : Int) - 240) * 64 + ((b.toNat : Int) - 128)) * 64 + ((c.toNat : Int) - 128)) * 64 + ((d.toNat : Int) - 128) = _
      omega
    rw [hc, hf, if_pos rfl, if_pos (by rw [hl]; simp)]
  | 0, _, h, _, _, _ => absurd h (by omega)
  | n + 5, _, _, h, _, _ => absurd h (by omega)
  | 1, [], _, _, h, _ => absurd h (by simp)
  | 2, [], _, _, h, _ => absurd h (by simp)
  | 2, [_], _, _, h, _ => absurd h (by simp)
  | 3, [], _, _, h, _ => absurd h (by simp)
  | 3, [_], _, _, h, _ => absurd h (by simp)
  | 3, [_, _], _, _, h, _ => absurd h (by simp)
  | 4, [], _, _, h, _ => absurd h (by simp)
  | 4, [_], _, _, h, _ => absurd h (by simp)
  | 4, [_, _], _, _, h, _ => absurd h (by simp)
  | 4, [_, _, _], _, _, h, _ => absurd h (by simp)

theorem next_rr (c : UInt8) (t : List UInt8) (r : Int) (n : Nat) (h : Sp.next (c :: t) = (r, n)) (hn : n ≠ 0) :
    1 ≤ n ∧ n ≤ 4 ∧ n ≤ (c :: t).length ∧ Sp.put (rr n (c :: t)) = (c :: t).take n := by
  simp only [Sp.next] at h
  split at h
  · injection h with h1 h2
    subst h1 h2
    refine ⟨by omega, by omega, by simp, ?_⟩
    rw [rr1, put_one (by omega) (by omega), u8_back rfl]
    rfl
  split at h
  · injection h with h1 h2; omega
  split at h
  · obtain ⟨rfl, h1, h2, h3, -⟩ := tailR_inv h hn
    refine ⟨by omega, by omega, by simp; omega, ?_⟩
    match t, h1, h2, h with
    | b :: t, h1, h2, h =>
      have hb : Sp.contB b = true := by simpa using h2
      have kb := cont_in hb
      have hf : Sp.foldR ((c.toNat : Int) - 192) (List.take (2 - 1) (b :: t)) = rr 2 (c :: b :: t) := by
        rw [rr2]
        show ((c.toNat : Int) - 192) * 64 + ((b.toNat : Int) - 128) = _
        omega
      have he : r = rr 2 (c :: b :: t) := by
        unfold Sp.tailR at h
        repeat' (split at h)
        all_goals first | (injection h with _ h; omega) | (injection h with h _; rw [← h]; exact hf)
      have hb2 := putI_two h3
      rw [← he, put_two hb2.1 hb2.2]
      rw [rr2] at he
      simp only [List.take_succ_cons, List.take_zero]
      rw [u8_back (x := 192 + r / 64) (c := c) (by omega), u8_back (x := 128 + r % 64) (c := b) (by omega)]
    | [], h1, h2, h => simp at h1
  split at h
  · obtain ⟨rfl, h1, h2, h3, -⟩ := tailR_inv h hn
    refine ⟨by omega, by omega, by simp; omega, ?_⟩
    match t, h1, h2, h with
    | b :: d :: t, h1, h2, h =>
      have hb : Sp.contB b = true ∧ Sp.contB d = true := by simpa using h2
      have kb := cont_in hb.1
      have kd := cont_in hb.2
      have hf : Sp.foldR ((c.toNat : Int) - 224) (List.take (3 - 1) (b :: d :: t)) = rr 3 (c :: b :: d :: t) := by
        rw [rr3]
        show (((c.toNat : Int) - 224) * 64 + ((b.toNat : Int) - 128)) * 64 + ((d.toNat : Int) - 128) = _
        omega
      have he : r = rr 3 (c :: b :: d :: t) := by
        unfold Sp.tailR at h
        repeat' (split at h)
        all_goals first | (injection h with _ h; omega) | (injection h with h _; rw [← h]; exact hf)
      have hb2 := putI_three h3
      rw [← he, put_three hb2.1 hb2.2.1 hb2.2.2]
      rw [rr3] at he
      simp only [List.take_succ_cons, List.take_zero]
      rw [u8_back (x := 224 + r / 4096) (c := c) (by omega), u8_back (x := 128 + r / 64 % 64) (c := b) (by omega), u8_back (x := 128 + r % 64) (c := d) (by omega)]
    | [_], h1, h2, h => simp at h1
    | [], h1, h2, h => simp at h1
  split at h
  · obtain ⟨rfl, h1, h2, h3, -⟩ := tailR_inv h hn
    refine ⟨by omega, by omega, by simp; omega, ?_⟩
    match t, h1, h2, h with
    | b :: d :: e :: t, h1, h2, h =>
      have hb : Sp.contB b = true ∧ Sp.contB d = true ∧ Sp.contB e = true := by simpa using h2
      have kb := cont_in hb.1
      have kd := cont_in hb.2.1
      have ke := cont_in hb.2.2
      have hf : Sp.foldR ((c.toNat : Int) - 240) (List.take (4 - 1) (b :: d :: e :: t)) = rr 4 (c :: b :: d :: e :: t) := by
        rw [rr4]
        show ((((c.toNat : Int) - 240) * 64 + ((b.toNat : Int) - 128)) * 64 + ((d.toNat : Int) - 128)) * 64 + ((e.toNat : Int) - 128) = _
        omega
      have he : r = rr 4 (c :: b :: d :: e :: t) := by
        unfold Sp.tailR at h
        repeat' (split at h)
        all_goals first | (injection h with _ h; omega) | (injection h with h _; rw [← h]; exact hf)
      have hb2 := putI_four h3
      rw [← he, put_four hb2.1 hb2.2]
      rw [rr4] at he
      simp only [List.take_succ_cons, List.take_zero]
      rw [u8_back (x := 240 + r / 262144) (c := c) (by omega), u8_back (x := 128 + r / 4096 % 64) (c := b) (by omega), u8_back (x := 128 + r / 64 % 64) (c := d) (by omega), u8_back (x := 128 + r % 64) (c := e) (by omega)]
    | [_, _], h1, h2, h => simp at h1
    | [_], h1, h2, h => simp at h1
    | [], h1, h2, h => simp at h1
  · injection h with _ h; omega

theorem sp_next_zero' (l : List UInt8) (h : (Sp.next l).2 = 0) : (Sp.next l).1 = 0 := by
  have ht : ∀ n r t, 0 < n → (Sp.tailR n r t).2 = 0 → (Sp.tailR n r t).1 = 0 := fun n r t hn => by
    unfold Sp.tailR
    repeat' split
    all_goals (intro h; first | rfl | (simp only at h; omega))
  cases l with
  | nil => rfl
  | cons c t =>
    simp only [Sp.next] at h ⊢
    repeat' split
    all_goals simp_all
    all_goals exact ht _ _ _ (by omega) (by assumption)

theorem rr_none (l : List UInt8) (h : ∀ n, 1 ≤ n → n ≤ 4 → n ≤ l.length → Sp.put (rr n l) ≠ l.take n) : Sp.next l = (0, 0) := by
  cases l with
  | nil => rfl
  | cons c t =>
    obtain ⟨⟨r, n⟩, hn⟩ : ∃ x, Sp.next (c :: t) = x := ⟨_, rfl⟩
    by_cases h0 : n = 0
    · subst h0
      rw [hn]
      have := sp_next_zero' (c :: t) (by rw [hn])
      rw [hn] at this
      simp only at this
      rw [this]
    · obtain ⟨h1, h2, h3, h4⟩ := next_rr c t r n hn h0
      exact absurd h4 (h n h1 h2 h3)
end Go.Proofs.YtokdclmikllepaaGreatDoor
namespace Go.Proofs.YtokdclmikllepaaGreatDoor
open Go.RowKit
set_option linter.unusedVariables false
set_option linter.unusedSimpArgs false

set_option maxHeartbeats 2000000 in
set_option maxRecDepth 100000 in
theorem refChar_calls (r : Int) (w : World) :
    Calls Tryz.prog 22 #[.int .i32 r] w fun e w' => e = .returned (.bool (Sp.isChar r)) ∧ w = w' := by
  go_enter Tryz.func22, Tryz.ntmps22
  go_wp2_with (go_at_call 59; refine (refRune_calls _ _).mono ?_; rintro e w' ⟨rfl, rfl⟩)
  all_goals
    go_ret
    refine ⟨ret_bool ?_, rfl⟩
    simp only [Sp.isChar]
    generalize Sp.isRune r = b at *
    cases b <;> rw [Bool.eq_iff_iff] <;> simp at * <;> try (first | omega | (simp_all; done) | (simp_all; omega))

set_option maxHeartbeats 2000000 in
set_option maxRecDepth 100000 in
theorem refLetter_calls (r : Int) (w : World) :
    Calls Tryz.prog 115 #[.int .i32 r] w fun e w' => e = .returned (.bool (Sp.letter r)) ∧ w = w' := by
  go_enter Tryz.func115, Tryz.ntmps115
  go_wp2_with (go_at_call 22; refine (refChar_calls _ _).mono ?_; rintro e w' ⟨rfl, rfl⟩)
  all_goals
    go_ret
    refine ⟨ret_bool ?_, rfl⟩
    simp only [Sp.letter]
    generalize Sp.isChar r = b at *
    cases b <;> rw [Bool.eq_iff_iff] <;> simp at * <;> try (first | omega | (simp_all; done) | (simp_all; omega))

set_option maxHeartbeats 2000000 in
set_option maxRecDepth 100000 in
theorem refNameRune_calls (r : Int) (w : World) :
    Calls Tryz.prog 116 #[.int .i32 r] w fun e w' => e = .returned (.bool (Sp.nameRune r)) ∧ w = w' := by
  go_enter Tryz.func116, Tryz.ntmps116
  go_wp2_with (go_at_call 115; refine (refLetter_calls _ _).mono ?_; rintro e w' ⟨rfl, rfl⟩)
  all_goals
    go_ret
    refine ⟨ret_bool ?_, rfl⟩
    simp only [Sp.nameRune] at *
    generalize Sp.letter r = b at *
    cases b <;> rw [Bool.eq_iff_iff] <;> simp at * <;> try (first | omega | (simp_all; done) | (simp_all; omega))

/-- The first i bytes of n at p, read. -/
theorem rr_read (s : ByteArray) (p n i : Nat) (hi : i < n) (hn : p + n ≤ s.size) :
    rrI n 0 (((L s).drop p).take (i + 1)) 0 = if 0 < i then rrI n 0 (((L s).drop p).take i) 0 * 64 + ((s[p + i]'(by omega)).toNat : Int) % 64 else if n = 1 then ((s[p + i]'(by omega)).toNat : Int) else ((s[p + i]'(by omega)).toNat : Int) % 2 ^ (7 - n) := by
  have h1 : ((L s).drop p).take (i + 1) = ((L s).drop p).take i ++ [s[p + i]'(by omega)] := by
    rw [List.take_add_one]
    congr 1
    rw [List.getElem?_drop, List.getElem?_eq_getElem (by rw [L_length]; omega)]
    rfl
  rw [h1, rrI_snoc]
  have : (((L s).drop p).take i).length = i := by rw [List.length_take, List.length_drop, L_length]; omega
  rw [this, Nat.zero_add]

theorem rrI_bd (n : Nat) (hn : n ≤ 4) : ∀ (l : List UInt8), l.length ≤ 4 → 0 ≤ rrI n 0 l 0 ∧ rrI n 0 l 0 < 100000000 := by
  have hm : ∀ (x : Nat) (k : Nat), x < 256 → 1 ≤ k → 0 ≤ (x : Int) % 2 ^ k ∧ (x : Int) % 2 ^ k ≤ 255 := fun x k hx hk => by
    have h2 : (0 : Int) < 2 ^ k := Int.pow_pos (by omega)
    refine ⟨Int.emod_nonneg _ (by omega), ?_⟩
    by_cases h : (x : Int) < 2 ^ k
    · rw [Int.emod_eq_of_lt (by omega) h]; omega
    · have := Int.emod_lt_of_pos (x : Int) h2; omega
  have hf : ∀ c : UInt8, 0 ≤ (if n = 1 then (c.toNat : Int) else (c.toNat : Int) % 2 ^ (7 - n)) ∧ (if n = 1 then (c.toNat : Int) else (c.toNat : Int) % 2 ^ (7 - n)) ≤ 255 := fun c => by
    have hc := c.toNat_lt
    split
    · omega
    · exact hm _ _ hc (by omega)
  intro l hl
  match l, hl with
  | [], _ => exact ⟨by simp [rrI], by simp [rrI]⟩
  | [a], _ =>
    have := hf a
    simp only [rrI, Nat.lt_irrefl, if_false] at *
    omega
  | [a, b], _ =>
    have := hf a
    simp only [rrI, Nat.lt_irrefl, if_false, Nat.zero_add, Nat.lt_succ_self, if_true, Nat.zero_lt_succ] at *
    generalize (if n = 1 then (a.toNat : Int) else (a.toNat : Int) % 2 ^ (7 - n)) = x at *
    omega
  | [a, b, c], _ =>
    have := hf a
    simp only [rrI, Nat.lt_irrefl, if_false, Nat.zero_add, Nat.lt_succ_self, if_true, Nat.zero_lt_succ] at *
    generalize (if n = 1 then (a.toNat : Int) else (a.toNat : Int) % 2 ^ (7 - n)) = x at *
    omega
  | [a, b, c, d], _ =>
    have := hf a
    simp only [rrI, Nat.lt_irrefl, if_false, Nat.zero_add, Nat.lt_succ_self, if_true, Nat.zero_lt_succ] at *
    generalize (if n = 1 then (a.toNat : Int) else (a.toNat : Int) % 2 ^ (7 - n)) = x at *
    omega
  | _ :: _ :: _ :: _ :: _ :: _, h => exact absurd h (by simp)

set_option maxHeartbeats 2000000 in
set_option maxRecDepth 100000 in
theorem refNext_calls (s : ByteArray) (p : Nat) (w : World) (hs : s.size ≤ 140737488351232) (hp2 : p ≤ 1407374883512320) :
    Calls Tryz.prog 96 #[.string s, .int .i64 p] w fun e w' => e = .returned (.tuple #[.int .i32 (Sp.next ((L s).drop p)).1, .int .i64 (Sp.next ((L s).drop p)).2]) ∧ Below w.heap.size w w' := by
  by_cases hp : p < s.size
  · obtain ⟨NX, hNX⟩ : ∃ x, Sp.next ((L s).drop p) = x := ⟨_, rfl⟩
    rw [hNX]
    have HN := Lib.hid hNX
    clear hNX
    have hd0 : decide ((p : Int) < 0) = false := by simp
    have hd1 : decide (s.size ≤ p) = false := by simp; omega
    go_enter Tryz.func96, Tryz.ntmps96
    go_wp2_with fail
    go_loopg [6, 7, 8, 9] 5 (fun k n _ _ _ wr => ∃ m : Nat, n = .int .i64 m ∧ 1 ≤ m ∧ m ≤ 5 ∧ 5 - m < k ∧ Hid (∀ q, 1 ≤ q → q < m → q ≤ ((L s).drop p).length → Sp.put (rr q ((L s).drop p)) ≠ ((L s).drop p).take q) ∧ Hid (Below w.heap.size w wr))
    case atStart => exact ⟨1, rfl, by omega, by omega, by omega, fun q h1 h2 => absurd h1 (by omega), Below.refl _ _⟩
    case round =>
      obtain ⟨n, rfl, h1, h5, hk, HQ, HB⟩ := hrel
      obtain ⟨gO, hgO⟩ : ∃ x, x = gk := ⟨_, rfl⟩
      by_cases h4 : n ≤ 4
      · by_cases hn : p + n ≤ s.size
        · have hd : decide ((n : Int) ≤ (s.size : Int) - (p : Int)) = true := by simp; omega
          go_wp2_with fail
          go_loopg [7, 8, 9] 5 (fun k r i _ wr2 => ∃ j : Nat, i = .int .i64 j ∧ r = .int .i32 (rrI n 0 (((L s).drop p).take j) 0) ∧ j ≤ n ∧ n - j < k ∧ wr2 = wr)
          case atStart => exact ⟨0, rfl, by simp [rrI], by omega, by omega, rfl⟩
          case round =>
            obtain ⟨j, rfl, rfl, hj, hkj, rfl⟩ := hrel
            by_cases hlt : j < n
            · have hrd := rr_read s p n j hlt hn
              have hb1 := rrI_bd n h4 (((L s).drop p).take j) (by rw [List.length_take]; omega)
              have hb2 := rrI_bd n h4 (((L s).drop p).take (j + 1)) (by rw [List.length_take]; omega)
              have hcu := (s[p + j]'(by omega)).toNat_lt
              generalize rrI n 0 (((L s).drop p).take j) 0 = R at *
              generalize hR2 : rrI n 0 (((L s).drop p).take (j + 1)) 0 = R2 at hrd hb2
              have HR2 := Lib.hid hR2
              clear hR2
              by_cases hj0 : j = 0
              · subst hj0
                have hcu0 := s[p].toNat_lt
                have hw : wrap32 ((s[p].toNat : Int)) = (s[p].toNat : Int) := IntWalk.wrap32_in _ (by omega)
                simp only [Nat.add_zero, Nat.lt_irrefl, if_false] at hrd
                by_cases hn1 : n = 1
                · subst hn1
                  simp only [if_true] at hrd
                  go_wp2_with fail
                  go_roundg (gk - 1)
                  case measure => omega
                  case rel => exact ⟨0 + 1, by simp, by rw [HR2.out, hrd], by omega, by omega, rfl⟩
                · have hn3 : n = 2 ∨ n = 3 ∨ n = 4 := by omega
                  rw [if_neg hn1] at hrd
                  rcases hn3 with rfl | rfl | rfl
                  all_goals
                    go_wp2_with fail
                    go_roundg (gk - 1)
                    case measure => omega
                    case rel => exact ⟨0 + 1, by simp, by rw [HR2.out, hrd]; simp [Int.tmod_eq_emod_of_nonneg], by omega, by omega, rfl⟩
              · go_wp2_with fail
                go_roundg (gk - 1)
                case measure => omega
                case rel => exact ⟨j + 1, by simp, by rw [HR2.out, hrd, if_pos (by omega)], by omega, by omega, rfl⟩
            · obtain rfl : j = n := by omega
              have hex : (s.extract p ((p : Int) + j).toNat).toList = ((L s).drop p).take j := by
                rw [toList_L, L_extract]
                congr 1
                omega
              have HEX := Lib.hid hex
              clear hex
              have hrr : rrI j 0 (((L s).drop p).take j) 0 = rr j ((L s).drop p) := rfl
              rw [hrr]
              generalize hR : rr j ((L s).drop p) = R at *
              go_wp2_with fail
              go_cut [66] (fun b wx => b = .bool (decide (Sp.put R = ((L s).drop p).take j)) ∧ Hid (Below w.heap.size w wx))
              case first =>
                have hx0 : (0 : Int) ≤ p := by omega
                have hx1 : (p : Int) ≤ (p : Int) + j := by omega
                have hx2 : (p : Int) + j ≤ s.size := by omega
                have hx3 : IntKind.i64.wrap ((p : Int) + j) = (p : Int) + j := IntWalk.i64_in _ (by omega)
                go_region_with (first
                  | (go_at_call 23; refine (refPut_calls _ _).mono ?_; rintro e w' ⟨v, rfl, hv, hb⟩
                     have hc0 := hv.conv
                     have hc1 := fun n => (hv.drewN n).conv))
                all_goals
                  go_wp2_with fail
                  go_meet
                  refine ⟨?_, ?_⟩
                  · rw [HEX.out]
                    congr 1
                    rw [Bool.eq_iff_iff]
                    simp
                  · have hb' : Below wr.heap.size wr w' := ⟨hb.os, hb.tape, hb.output, hb.size, hb.block⟩
                    first
                      | exact below_then HB.out hb'
                      | exact below_drewN (below_then HB.out hb') _
              case rest =>
                obtain ⟨rfl, HB2⟩ := hcut
                by_cases he : Sp.put R = ((L s).drop p).take j
                · have hde : decide (Sp.put R = ((L s).drop p).take j) = true := decide_eq_true he
                  rw [hde]
                  go_wp2_with fail
                  go_ret2
                  refine ⟨?_, HB2.out⟩
                  have := rr_next j ((L s).drop p) h1 h4 (by rw [List.length_drop, L_length]; omega) (by rw [hR]; exact he)
                  rw [HN.out, hR] at this
                  rw [this]
                  rfl
                · have hde : decide (Sp.put R = ((L s).drop p).take j) = false := decide_eq_false he
                  rw [hde]
                  go_wp2_with fail
                  go_roundg (gO - 1)
                  case measure => omega
                  case rel =>
                    refine ⟨j + 1, by simp, by omega, by omega, by omega, fun q hq1 hq2 hq3 => ?_, HB2⟩
                    by_cases hqj : q = j
                    · subst hqj; rw [hR]; exact he
                    · exact HQ.out q hq1 (by omega) hq3
        · go_wp2_with fail
          go_ret2
          refine ⟨?_, HB.out⟩
          have := rr_none ((L s).drop p) (fun q h1 h2 h3 => HQ.out q h1 (by rw [List.length_drop, L_length] at h3; omega) h3)
          rw [HN.out] at this
          rw [this]
          rfl
      · go_wp2_with fail
        go_ret2
        refine ⟨?_, HB.out⟩
        have := rr_none ((L s).drop p) (fun q h1 h2 h3 => HQ.out q h1 (by omega) h3)
        rw [HN.out] at this
        rw [this]
        rfl
  · go_enter Tryz.func96, Tryz.ntmps96
    go_wp2_with fail
    go_ret2
    refine ⟨?_, Below.refl _ _⟩
    rw [List.drop_eq_nil_of_le (by rw [L_length]; omega)]
    rfl
end Go.Proofs.YtokdclmikllepaaGreatDoor
namespace Go.Proofs.YtokdclmikllepaaGreatDoor
open Go.RowKit
set_option linter.unusedVariables false
set_option linter.unusedSimpArgs false

set_option maxHeartbeats 1000000 in
set_option maxRecDepth 100000 in
theorem refBad_calls (s : ByteArray) (w : World) (hs : s.size ≤ 140737488351232) :
    Calls Tryz.prog 95 #[.string s] w fun e w' => e = .returned (.int .i64 (badI (Sp.bad (s.size + 1) 0 (L s)))) ∧ Below w.heap.size w w' := by
  obtain ⟨B, hB⟩ : ∃ B, Sp.bad (s.size + 1) 0 (L s) = B := ⟨_, rfl⟩
  rw [hB]
  have HB := Lib.hid hB
  clear hB
  go_enter Tryz.func95, Tryz.ntmps95
  go_wp2_with fail
  go_loopg [3, 4, 5] (s.size + 1) (fun kk i _ _ wr => ∃ p k : Nat, p ≤ s.size ∧ s.size - p < k ∧ s.size - p < kk ∧ i = .int .i64 p ∧ Hid (Sp.bad k p ((L s).drop p) = B) ∧ Hid (Below w.heap.size w wr))
  case atStart => exact ⟨0, s.size + 1, by omega, by omega, by omega, rfl, HB, Below.refl _ _⟩
  case round =>
    obtain ⟨p, k, hp, hk, hkk, rfl, HK, hb⟩ := hrel
    by_cases hlt : p < s.size
    · obtain ⟨k, rfl⟩ : ∃ m, k = m + 1 := ⟨k - 1, by omega⟩
      have hst := bad_step k p _ (drop_ne s p hlt)
      have hle := next_le ((L s).drop p)
      rw [List.length_drop, L_length] at hle
      have hle1 := hle.1
      have hle2 := hle.2
      clear hle
      generalize hnx : Sp.next ((L s).drop p) = x at *
      obtain ⟨r, n⟩ := x
      simp only at hst hle1 hle2
      have HS := Lib.hid hst
      have HN := Lib.hid hnx
      clear hst hnx
      by_cases hn : n = 0
      · subst hn
        go_wp2_with (go_at_call 96; refine (refNext_calls s p _ hs (by omega)).mono ?_; rw [HN.out]; rintro e w' ⟨rfl, hb2⟩)
        go_ret
        refine ⟨?_, below_then hb.out hb2⟩
        have := HS.out.symm.trans HK.out
        simp only [if_true] at this
        rw [← this]
        rfl
      · have hn0 : (((n : Nat) : Int) == 0) = false := by rw [beq_eq_false_iff_ne]; omega
        go_wp2_with (go_at_call 96; refine (refNext_calls s p _ hs (by omega)).mono ?_; rw [HN.out]; rintro e w' ⟨rfl, hb2⟩)
        go_roundg (gk - 1)
        case rel =>
          refine ⟨p + n, k, by omega, by omega, by omega, by go_num, ?_, below_then hb.out hb2⟩
          have := HK.out
          rw [HS.out, if_neg hn, List.drop_drop] at this
          exact this
        case measure => omega
    · have : p = s.size := by omega
      subst this
      go_wp2_with fail
      go_ret
      refine ⟨?_, hb.out⟩
      have := HK.out
      rw [List.drop_eq_nil_of_le (by rw [L_length]; exact Nat.le_refl _)] at this
      rw [← this]
      cases k <;> rfl

set_option maxHeartbeats 1000000 in
theorem refWhite_calls (c : UInt8) (w : World) :
    Calls Tryz.prog 53 #[.int .u8 (c.toNat : Int)] w fun e w' => e = .returned (.bool (Sp.white c)) ∧ w = w' := by
  have hc := c.toNat_lt
  go_enter Tryz.func53, Tryz.ntmps53
  go_wp2_with fail
  all_goals
    go_ret
    refine ⟨ret_bool ?_, rfl⟩
    simp only [Sp.white]
    rw [Bool.eq_iff_iff]; simp; try omega

theorem refWhite_is (c : UInt8) (b : Bool) (w : World) (h : Sp.white c = b) :
    Calls Tryz.prog 53 #[.int .u8 (c.toNat : Int)] w fun e w' => e = .returned (.bool b) ∧ w = w' := h ▸ refWhite_calls c w

theorem prefix_take (k l : List UInt8) : k.isPrefixOf l = (decide (k.length ≤ l.length) && (l.take k.length == k)) := by
  rw [Bool.eq_iff_iff]
  simp only [List.isPrefixOf_iff_prefix, Bool.and_eq_true, decide_eq_true_eq, beq_iff_eq]
  constructor
  · intro h
    exact ⟨h.length_le, (List.prefix_iff_eq_take.1 h).symm⟩
  · rintro ⟨h1, h2⟩
    rw [← h2]
    exact List.take_prefix _ _

set_option maxHeartbeats 1000000 in
set_option maxRecDepth 100000 in
theorem refAt_calls (s t : ByteArray) (p : Nat) (w : World) (hs : s.size ≤ 140737488351232) (hp : p ≤ s.size) (ht : t.size ≤ 140737488351232) :
    Calls Tryz.prog 52 #[.string s, .int .i64 p, .string t] w fun e w' => e = .returned (.bool ((L t).isPrefixOf ((L s).drop p))) ∧ w = w' := by
  have hd0 : decide ((0 : Int) ≤ p) = true := by simp
  have hx0 : (0 : Int) ≤ p := by omega
  have hx1 : (p : Int) ≤ (p : Int) + t.size := by omega
  have hx3 : IntKind.i64.wrap ((p : Int) + t.size) = (p : Int) + t.size := IntWalk.i64_in _ (by omega)
  have hpre := prefix_take (L t) ((L s).drop p)
  rw [List.length_drop, L_length, L_length] at hpre
  rw [hpre]
  clear hpre
  by_cases h : p + t.size ≤ s.size
  · have hx2 : (p : Int) + t.size ≤ s.size := by omega
    have hd1 : decide (t.size ≤ s.size - p) = true := by simp; omega
    have hd2 : decide ((t.size : Int) ≤ (s.size : Int) - p) = true := by simp; omega
    rw [hd1, Bool.true_and]
    go_enter Tryz.func52, Tryz.ntmps52
    go_wp2_with fail
    go_ret
    refine ⟨ret_bool ?_, rfl⟩
    rw [toList_L, toList_L, L_extract]
    congr 2
    omega
  · have hd1 : decide (t.size ≤ s.size - p) = false := by simp; omega
    have hd2 : decide ((t.size : Int) ≤ (s.size : Int) - p) = false := by simp; omega
    rw [hd1, Bool.false_and]
    go_enter Tryz.func52, Tryz.ntmps52
    go_wp2_with fail
    go_ret
    exact ⟨rfl, rfl⟩

set_option maxHeartbeats 2000000 in
set_option maxRecDepth 100000 in
theorem refBlanks_calls (s : ByteArray) (p : Nat) (w : World) (hs : s.size ≤ 140737488351232) (hp : p ≤ s.size) :
    Calls Tryz.prog 99 #[.string s, .int .i64 p] w fun e w' => e = .returned (.int .i64 (bl s p)) ∧ w = w' := by
  obtain ⟨q, hq⟩ : ∃ q, bl s p = q := ⟨_, rfl⟩
  have hqb := bl_le s p hp
  rw [hq] at hqb ⊢
  have HQ := Lib.hid hq
  clear hq
  go_enter Tryz.func99, Tryz.ntmps99
  go_wp2_with fail
  go_loopg [1] (s.size + 1) (fun k i wr => ∃ p' : Nat, i = .int .i64 p' ∧ p ≤ p' ∧ p' ≤ q ∧ s.size - p' < k ∧ Hid (bl s p' = q) ∧ wr = w)
  case atStart => exact ⟨p, rfl, Nat.le_refl _, hqb.1, by omega, HQ, rfl⟩
  case round =>
    obtain ⟨p', rfl, hpp, hpq, hk, HB, rfl⟩ := hrel
    by_cases hlt : p' < s.size
    · have hd : decide ((p' : Int) < s.size) = true := by simp; omega
      have hx0 : (0 : Int) ≤ p' := by omega
      have hx1 : (p' : Int) < s.size := by omega
      cases hw : Sp.white s[p'] with
      | true =>
        have HW := Lib.hid hw
        clear hw
        have hqs := hqb.2
        have hq' := bl_le s (p' + 1) (by omega)
        have hstep := bl_white s p' hlt HW.out
        rw [HB.out] at hstep
        go_wp2_with (go_at_call 53; refine (refWhite_is s[p'] true _ HW.out).mono ?_; rintro e w' ⟨rfl, rfl⟩)
        go_roundg (gk - 1)
        case measure => omega
        case rel => exact ⟨p' + 1, by simp, by omega, by omega, by omega, hstep.symm, rfl⟩
      | false =>
        have HW := Lib.hid hw
        clear hw
        have hpq' : p' = q := (bl_not s p' hlt HW.out).symm.trans HB.out
        subst hpq'
        go_wp2_with (go_at_call 53; refine (refWhite_is s[p'] false _ HW.out).mono ?_; rintro e w' ⟨rfl, rfl⟩)
        go_ret
        exact ⟨rfl, rfl⟩
    · have hpq' : p' = q := (bl_end s p' (by omega)).symm.trans HB.out
      subst hpq'
      have hd : decide ((p' : Int) < s.size) = false := by simp; omega
      go_wp2_with fail
      go_ret
      exact ⟨rfl, rfl⟩

theorem find_step (what l : List UInt8) (c : UInt8) : Sp.find what (c :: l) = if what.isPrefixOf (c :: l) = true then some 0 else (Sp.find what l).map (· + 1) := rfl

/-- What is found from a place on, told as a place. -/
def findAt (s t : ByteArray) (p : Nat) : Int := match Sp.find (L t) ((L s).drop p) with | some i => ((p + i : Nat) : Int) | none => -1

theorem findAt_step (s t : ByteArray) (p : Nat) (hp : p < s.size) : findAt s t p = if (L t).isPrefixOf ((L s).drop p) = true then (p : Int) else findAt s t (p + 1) := by
  have h : Sp.find (L t) ((L s).drop p) = if (L t).isPrefixOf ((L s).drop p) = true then some 0 else (Sp.find (L t) ((L s).drop (p + 1))).map (· + 1) := by
    rw [L_drop s p hp, find_step]
  unfold findAt
  rw [h]
  by_cases hq : (L t).isPrefixOf ((L s).drop p) = true
  · rw [if_pos hq, if_pos hq]; rfl
  · rw [if_neg hq, if_neg hq]
    cases Sp.find (L t) ((L s).drop (p + 1)) with
    | none => rfl
    | some i => simp only [Option.map]; omega

theorem findAt_end (s t : ByteArray) (p : Nat) (ht : 0 < t.size) (hp : s.size < p + t.size) : findAt s t p = -1 := by
  unfold findAt
  cases h : Sp.find (L t) ((L s).drop p) with
  | none => rfl
  | some i =>
    have := find_le _ _ _ h
    rw [L_length, List.length_drop, L_length] at this
    omega

set_option maxHeartbeats 2000000 in
set_option maxRecDepth 100000 in
theorem refFind_calls (s t : ByteArray) (p : Nat) (w : World) (hs : s.size ≤ 140737488351232) (hp : p ≤ s.size) (ht : t.size ≤ 1000) (ht0 : 0 < t.size) :
    Calls Tryz.prog 54 #[.string s, .int .i64 p, .string t] w fun e w' => e = .returned (.int .i64 (findAt s t p)) ∧ w = w' := by
  obtain ⟨q, hq⟩ : ∃ q, findAt s t p = q := ⟨_, rfl⟩
  rw [hq]
  have HQ := Lib.hid hq
  clear hq
  go_enter Tryz.func54, Tryz.ntmps54
  go_wp2_with fail
  go_loopg [7] (s.size + 2) (fun k i wr => ∃ p' : Nat, i = .int .i64 p' ∧ p' ≤ s.size + 1 ∧ s.size + 1 - p' < k ∧ Hid (findAt s t p' = q) ∧ wr = w)
  case atStart => exact ⟨p, rfl, by omega, by omega, HQ, rfl⟩
  case round =>
    obtain ⟨p', rfl, hpp, hk, HB, rfl⟩ := hrel
    by_cases hlt : p' + t.size ≤ s.size
    · have hd : decide ((p' : Int) ≤ (s.size : Int) - t.size) = true := by simp; omega
      have hstep := findAt_step s t p' (by omega)
      cases hw : (L t).isPrefixOf ((L s).drop p') with
      | true =>
        have HW := Lib.hid hw
        rw [hw, if_pos rfl, HB.out] at hstep
        clear hw
        go_wp2_with (go_at_call 52; refine (refAt_calls s t p' _ hs (by omega) (by omega)).mono ?_; rw [HW.out]; rintro e w' ⟨rfl, rfl⟩)
        go_ret
        exact ⟨by rw [hstep]; rfl, rfl⟩
      | false =>
        have HW := Lib.hid hw
        rw [hw, if_neg (by simp), HB.out] at hstep
        clear hw
        go_wp2_with (go_at_call 52; refine (refAt_calls s t p' _ hs (by omega) (by omega)).mono ?_; rw [HW.out]; rintro e w' ⟨rfl, rfl⟩)
        go_roundg (gk - 1)
        case measure => omega
        case rel => exact ⟨p' + 1, by simp, by omega, by omega, hstep.symm, rfl⟩
    · have hd : decide ((p' : Int) ≤ (s.size : Int) - t.size) = false := by simp; omega
      have := findAt_end s t p' ht0 (by omega)
      rw [HB.out] at this
      go_wp2_with fail
      go_ret
      exact ⟨by rw [this]; rfl, rfl⟩

set_option maxHeartbeats 2000000 in
set_option maxRecDepth 100000 in
theorem refMissing_calls (s : ByteArray) (fr p : Nat) (w : World) (hs : s.size ≤ 140737488351232) :
    Calls Tryz.prog 98 #[.string s, .int .i64 fr, .int .i64 p] w fun e w' => e = .returned (.agg #[.int .i64 (Sp.stop fr p ((L s).drop p)).1, .int .i64 (Sp.stop fr p ((L s).drop p)).2]) ∧ Below w.heap.size w w' := by
  by_cases hp : s.size ≤ p
  · have hle : decide ((s.size : Int) ≤ p) = true := by simp; omega
    have hst : Sp.stop fr p ((L s).drop p) = (fr, 84) := by
      rw [Sp.stop, if_pos (List.drop_eq_nil_of_le (by rw [L_length]; exact hp))]
    rw [hst]
    go_enter Tryz.func98, Tryz.ntmps98
    go_wp2_with fail
    refine bodyPost_ret (v := .agg #[.int .i64 fr, .int .i64 84]) ?_ rfl ⟨rfl, (Below.refl _ _).alloc (Nat.le_refl _) _⟩
    simp [results, Tryz.f98, go_sem]
  · have hle : decide ((s.size : Int) ≤ p) = false := by simp; omega
    have hst : Sp.stop fr p ((L s).drop p) = (p, 82) := by
      rw [Sp.stop, if_neg (drop_ne s p (by omega))]
    rw [hst]
    go_enter Tryz.func98, Tryz.ntmps98
    go_wp2_with fail
    refine bodyPost_ret (v := .agg #[.int .i64 p, .int .i64 82]) ?_ rfl ⟨rfl, (Below.refl _ _).alloc (Nat.le_refl _) _⟩
    simp [results, Tryz.f98, go_sem]

def digI (o : Option Nat) : Int := match o with | some i => (i : Int) | none => -1

set_option maxHeartbeats 2000000 in
set_option maxRecDepth 100000 in
theorem refDigit_calls (c : UInt8) (b : Nat) (w : World) (hb : b = 10 ∨ b = 16) :
    Calls Tryz.prog 152 #[.int .u8 (c.toNat : Int), .int .i64 b] w fun e w' => e = .returned (.int .i64 (digI (Sp.digit b c))) ∧ w = w' := by
  have hc := c.toNat_lt
  generalize hcn : c.toNat = n at *
  have hD : digI (Sp.digit b c) = if 48 ≤ n ∧ n ≤ 57 then (n : Int) - 48 else if b = 16 ∧ 97 ≤ n ∧ n ≤ 102 then (n : Int) - 87 else if b = 16 ∧ 65 ≤ n ∧ n ≤ 70 then (n : Int) - 55 else -1 := by
    unfold Sp.digit
    rw [hcn]
    repeat' split
    all_goals simp only [digI]
    all_goals omega
  rw [hD]
  have HD := hD
  clear hD HD
  rcases hb with rfl | rfl
  all_goals
    go_enter Tryz.func152, Tryz.ntmps152
    go_wp2_with fail
    all_goals
      go_ret
      refine ⟨?_, rfl⟩
      simp
      try omega

end Go.Proofs.YtokdclmikllepaaGreatDoor
namespace Go.Proofs.YtokdclmikllepaaGreatDoor
open Go.RowKit
set_option linter.unusedVariables false
set_option linter.unusedSimpArgs false

set_option maxHeartbeats 2000000 in
set_option maxRecDepth 100000 in
theorem refName_calls (s : ByteArray) (p : Nat) (w : World) (hs : s.size ≤ 140737488351232) (hp : p ≤ s.size) :
    Calls Tryz.prog 97 #[.string s, .int .i64 p] w fun e w' => e = .returned (.int .i64 (nm (s.size - p + 1) true s p)) ∧ Below w.heap.size w w' := by
  obtain ⟨q, hq⟩ : ∃ q, nm (s.size - p + 1) true s p = q := ⟨_, rfl⟩
  rw [hq]
  have HQ := Lib.hid hq
  clear hq
  go_enter Tryz.func97, Tryz.ntmps97
  go_wp2_with fail
  go_loopg [1, 6, 7] (s.size + 1) (fun kk i _ _ wr => ∃ p' k : Nat, i = .int .i64 p' ∧ p ≤ p' ∧ p' ≤ s.size ∧ s.size - p' < kk ∧ s.size - p' < k ∧ Hid (nm k (decide (p' = p)) s p' = q) ∧ Hid (Below w.heap.size w wr))
  case atStart => exact ⟨p, s.size - p + 1, rfl, Nat.le_refl _, hp, by omega, by omega, by rw [decide_eq_true rfl]; exact HQ, Below.refl _ _⟩
  case round =>
    obtain ⟨p', k, rfl, hpp, hpe, hkk, hk, HN, HB⟩ := hrel
    by_cases hlt : p' < s.size
    · obtain ⟨k, rfl⟩ : ∃ m, k = m + 1 := ⟨k - 1, by omega⟩
      have hd : decide ((p' : Int) < s.size) = true := by simp; omega
      have hnx := nameN_step k (decide (p' = p)) _ (drop_ne s p' hlt)
      have hle := next_le ((L s).drop p')
      have hbd := next_bd ((L s).drop p')
      have hps := next_pos ((L s).drop p')
      rw [List.length_drop, L_length] at hle
      generalize hX : Sp.next ((L s).drop p') = X at *
      obtain ⟨r, n⟩ := X
      simp only at hnx hle hbd hps
      have hlast : nm (k + 1) (decide (p' = p)) s p' = q := HN.out
      unfold nm at hlast
      rw [hnx] at hlast
      have HX := Lib.hid hX
      clear hX hnx
      obtain ⟨hle1, hle2⟩ := hle
      obtain ⟨hbd1, hbd2⟩ := hbd
      by_cases hyes : r = 58 ∨ (decide (p' = p) = false ∧ Sp.nameRune r = true) ∨ Sp.letter r = true
      · rw [if_pos hyes, List.drop_drop] at hlast
        have hn0 : 0 < n := hps (hyes.imp id (Or.imp And.right id))
        have HL := Lib.hid hlast
        clear hlast hps
        by_cases h58 : r = 58
        · subst h58
          clear hyes
          go_wp2_with (go_at_call 96; refine (refNext_calls s p' _ hs (by omega)).mono ?_; rw [HX.out]; rintro e w' ⟨rfl, hb2⟩)
          go_roundg (gk - 1)
          case measure => omega
          case rel => exact ⟨p' + n, k, by simp, by omega, by omega, by omega, by omega, by rw [decide_eq_false (by omega)]; exact Lib.hid (by unfold nm; rw [Nat.add_assoc]; exact HL.out), below_then HB.out hb2⟩
        · have hb58 : (r != 58) = true := by rw [bne_iff_ne]; exact h58
          have hb58' : (r == 58) = false := by rw [beq_eq_false_iff_ne]; exact h58
          by_cases hl : Sp.letter r = true
          · have HLe := Lib.hid hl
            clear hyes hl
            go_wp2_with (first
              | (go_at_call 96; refine (refNext_calls s p' _ hs (by omega)).mono ?_; rw [HX.out]; rintro e w' ⟨rfl, hb2⟩)
              | (go_at_call 115; refine (refLetter_calls r _).mono ?_; rw [HLe.out]; rintro e w' ⟨rfl, rfl⟩))
            go_roundg (gk - 1)
            case measure => omega
            case rel => exact ⟨p' + n, k, by simp, by omega, by omega, by omega, by omega, by rw [decide_eq_false (by omega)]; exact Lib.hid (by unfold nm; rw [Nat.add_assoc]; exact HL.out), below_then HB.out hb2⟩
          · have hl' : Sp.letter r = false := by simpa using hl
            have HLe := Lib.hid hl'
            obtain ⟨hne, hnr⟩ : p' ≠ p ∧ Sp.nameRune r = true := by
              rcases hyes with h | ⟨h, h2⟩ | h
              · exact absurd h h58
              · exact ⟨by simpa using h, h2⟩
              · exact absurd h hl
            have HNr := Lib.hid hnr
            have hdne : ((p' : Int) == p) = false := by rw [beq_eq_false_iff_ne]; omega
            clear hyes hl hl' hnr
            go_wp2_with (first
              | (go_at_call 96; refine (refNext_calls s p' _ hs (by omega)).mono ?_; rw [HX.out]; rintro e w' ⟨rfl, hb2⟩)
              | (go_at_call 115; refine (refLetter_calls r _).mono ?_; rw [HLe.out]; rintro e w' ⟨rfl, rfl⟩)
              | (go_at_call 116; refine (refNameRune_calls r _).mono ?_; rw [HNr.out]; rintro e w' ⟨rfl, rfl⟩))
            go_roundg (gk - 1)
            case measure => omega
            case rel => exact ⟨p' + n, k, by simp, by omega, by omega, by omega, by omega, by rw [decide_eq_false (by omega)]; exact Lib.hid (by unfold nm; rw [Nat.add_assoc]; exact HL.out), below_then HB.out hb2⟩
      · rw [if_neg hyes] at hlast
        have hpq : p' = q := by omega
        subst hpq
        have h58 : r ≠ 58 := fun h => hyes (.inl h)
        have hb58 : (r != 58) = true := by rw [bne_iff_ne]; exact h58
        have hl' : Sp.letter r = false := by
          cases hx : Sp.letter r with
          | false => rfl
          | true => exact absurd (.inr (.inr hx)) hyes
        have HLe := Lib.hid hl'
        by_cases hne : p' = p
        · subst hne
          clear hyes hl' hps hlast
          go_wp2_with (first
            | (go_at_call 96; refine (refNext_calls s p' _ hs (by omega)).mono ?_; rw [HX.out]; rintro e w' ⟨rfl, hb2⟩)
            | (go_at_call 115; refine (refLetter_calls r _).mono ?_; rw [HLe.out]; rintro e w' ⟨rfl, rfl⟩))
          go_ret
          exact ⟨rfl, below_then HB.out hb2⟩
        · have hnr : Sp.nameRune r = false := by
            cases hx : Sp.nameRune r with
            | false => rfl
            | true => exact absurd (.inr (.inl ⟨decide_eq_false hne, hx⟩)) hyes
          have HNr := Lib.hid hnr
          have hdne : ((p' : Int) == p) = false := by rw [beq_eq_false_iff_ne]; omega
          clear hyes hl' hnr hps hlast
          go_wp2_with (first
            | (go_at_call 96; refine (refNext_calls s p' _ hs (by omega)).mono ?_; rw [HX.out]; rintro e w' ⟨rfl, hb2⟩)
            | (go_at_call 115; refine (refLetter_calls r _).mono ?_; rw [HLe.out]; rintro e w' ⟨rfl, rfl⟩)
            | (go_at_call 116; refine (refNameRune_calls r _).mono ?_; rw [HNr.out]; rintro e w' ⟨rfl, rfl⟩))
          go_ret
          exact ⟨rfl, below_then HB.out hb2⟩
    · have hd : decide ((p' : Int) < s.size) = false := by simp; omega
      have hpq : p' = q := by
        have := HN.out
        unfold nm at this
        rw [List.drop_eq_nil_of_le (by rw [L_length]; omega)] at this
        cases k <;> simpa [Sp.nameN] using this
      subst hpq
      go_wp2_with fail
      go_ret
      exact ⟨rfl, HB.out⟩

/-- A number's rune, told as Go tells it. -/
def numI (base : Nat) (l : List UInt8) : Int :=
  if l = [] ∨ 8 < l.length then -1
  else match Sp.number base 0 l with
    | some n => if Sp.isChar (n : Int) = true then (n : Int) else -1
    | none => -1

theorem number_bd (base : Nat) (hb : base = 10 ∨ base = 16) (l : List UInt8) (n m : Nat) (h : Sp.number base n l = some m) : m < (n + 1) * 16 ^ l.length := by
  induction l generalizing n with
  | nil => simp [Sp.number] at h; subst h; simp
  | cons c t ih =>
    unfold Sp.number at h
    split at h
    · rename_i d hd
      have hd2 : d < 16 ∧ (base = 10 → d < 10) := by
        unfold Sp.digit at hd
        repeat' (split at hd)
        all_goals first | (injection hd with hd; omega) | cases hd
      have := ih _ h
      have h3 : n * base + d + 1 ≤ (n + 1) * 16 := by
        rcases hb with rfl | rfl
        · omega
        · omega
      calc m < (n * base + d + 1) * 16 ^ t.length := this
        _ ≤ ((n + 1) * 16) * 16 ^ t.length := Nat.mul_le_mul_right _ h3
        _ = (n + 1) * 16 ^ (t.length + 1) := by rw [Nat.pow_succ, Nat.mul_assoc, Nat.mul_comm 16]
    · cases h

theorem number_split (base : Nat) : ∀ (l1 l2 : List UInt8) (n : Nat), Sp.number base n (l1 ++ l2) = (Sp.number base n l1).bind fun m => Sp.number base m l2
  | [], l2, n => rfl
  | c :: t, l2, n => by
    simp only [List.cons_append, Sp.number]
    cases Sp.digit base c with
    | none => rfl
    | some d => exact number_split base t l2 _

theorem numI_some {base : Nat} {l : List UInt8} {n : Nat} (h0 : l ≠ []) (h8 : l.length ≤ 8) (h : Sp.number base 0 l = some n) : numI base l = if Sp.isChar (n : Int) = true then (n : Int) else -1 := by
  unfold numI
  rw [if_neg (by rintro (e | e); exact h0 e; omega), h]
theorem numI_none {base : Nat} {l : List UInt8} (h0 : l ≠ []) (h8 : l.length ≤ 8) (h : Sp.number base 0 l = none) : numI base l = -1 := by
  unfold numI
  rw [if_neg (by rintro (e | e); exact h0 e; omega), h]

theorem refDigit_is (c : UInt8) (b : Nat) (o : Option Nat) (w : World) (hb : b = 10 ∨ b = 16) (h : Sp.digit b c = o) :
    Calls Tryz.prog 152 #[.int .u8 (c.toNat : Int), .int .i64 b] w fun e w' => e = .returned (.int .i64 (digI o)) ∧ w = w' := h ▸ refDigit_calls c b w hb

theorem pow_le8 (k : Nat) (h : k ≤ 8) : 16 ^ k ≤ 4294967296 := by
  have := Nat.pow_le_pow_right (n := 16) (by omega) h
  simpa using this

theorem refChar_is (r : Int) (b : Bool) (w : World) (h : Sp.isChar r = b) :
    Calls Tryz.prog 22 #[.int .i32 r] w fun e w' => e = .returned (.bool b) ∧ w = w' := h ▸ refChar_calls r w

set_option maxHeartbeats 4000000 in
set_option maxRecDepth 100000 in
theorem refNumber_calls (s : ByteArray) (b : Nat) (w : World) (hs : s.size ≤ 140737488351232) (hb : b = 10 ∨ b = 16) :
    Calls Tryz.prog 128 #[.string s, .int .i64 b] w fun e w' => e = .returned (.int .i64 (numI b (L s))) ∧ w = w' := by
  by_cases h0 : s.size < 1 ∨ 8 < s.size
  · have hn : numI b (L s) = -1 := by
      unfold numI
      rw [if_pos]
      rcases h0 with h | h
      · exact .inl (List.eq_nil_of_length_eq_zero (by rw [L_length]; omega))
      · exact .inr (by rw [L_length]; exact h)
    rw [hn]
    rcases h0 with h | h
    all_goals
      go_enter Tryz.func128, Tryz.ntmps128
      go_wp2_with fail
      go_ret
      exact ⟨rfl, rfl⟩
  · obtain ⟨x, hx⟩ : ∃ x, numI b (L s) = x := ⟨_, rfl⟩
    have hne : L s ≠ [] := by
      intro e
      have h3 : s.size = 0 := by rw [← L_length, e]; rfl
      omega
    have hl8 : (L s).length ≤ 8 := by rw [L_length]; omega
    rw [hx]
    have HX := Lib.hid hx
    clear hx
    go_enter Tryz.func128, Tryz.ntmps128
    go_wp2_with fail
    go_loopg [5, 6, 7] (s.size + 1) (fun kk n i _ wr => ∃ j m : Nat, i = .int .i64 j ∧ n = .int .i64 m ∧ j ≤ s.size ∧ s.size - j < kk ∧ Hid (Sp.number b 0 ((L s).take j) = some m) ∧ wr = w)
    case atStart => exact ⟨0, 0, rfl, rfl, by omega, by omega, rfl, rfl⟩
    case round =>
      obtain ⟨j, m, rfl, rfl, hj, hk, HM, rfl⟩ := hrel
      have hmb := number_bd b hb _ _ _ HM.out
      have hpw := pow_le8 ((L s).take j).length (Nat.le_trans (by rw [List.length_take]; exact Nat.min_le_right _ _) hl8)
      have hm : m ≤ 4294967296 := by omega
      clear hmb hpw
      by_cases hlt : j < s.size
      · have hd : decide ((j : Int) < s.size) = true := by simp; omega
        have hx0 : (0 : Int) ≤ j := by omega
        have hx1 : (j : Int) < s.size := by omega
        have htk : (L s).take (j + 1) = (L s).take j ++ [s[j]] := by
          rw [List.take_add_one, L_get s j hlt]; rfl
        have hdg := refDigit_is s[j] b
        cases hc : Sp.digit b s[j] with
        | none =>
          have hno : Sp.number b 0 (L s) = none := by
            have e : L s = (L s).take (j + 1) ++ (L s).drop (j + 1) := (List.take_append_drop _ _).symm
            rw [e, htk, List.append_assoc, number_split, HM.out]
            simp only [Option.bind, List.cons_append, List.nil_append, Sp.number, hc]
          have := numI_none hne hl8 hno
          rw [HX.out] at this
          have HD := Lib.hid hc
          clear hc htk hno
          go_wp2_with (go_at_call 152; refine (hdg none _ hb HD.out).mono ?_; simp only [digI]; rintro e w' ⟨rfl, rfl⟩)
          go_ret
          exact ⟨by rw [this]; rfl, rfl⟩
        | some d =>
          have hno : Sp.number b 0 ((L s).take (j + 1)) = some (m * b + d) := by
            rw [htk, number_split, HM.out]
            simp only [Option.bind, Sp.number, hc]
          have hd15 : d ≤ 15 := by
            unfold Sp.digit at hc
            repeat' (split at hc)
            all_goals first | (injection hc with hc; omega) | cases hc
          have HD := Lib.hid hc
          have HNO := Lib.hid hno
          clear hc htk hno
          rcases hb with rfl | rfl
          all_goals
            go_wp2_with (go_at_call 152; refine (hdg (some d) _ (by first | exact .inl rfl | exact .inr rfl) HD.out).mono ?_; simp only [digI]; rintro e w' ⟨rfl, rfl⟩)
            go_roundg (gk - 1)
            case measure => omega
            case rel => exact ⟨j + 1, _, by simp, by first | rfl | simp, by omega, by omega, HNO, rfl⟩
      · have hjs : j = s.size := by omega
        subst hjs
        have hd : decide ((s.size : Int) < s.size) = false := by simp
        have hall : (L s).take s.size = L s := List.take_of_length_le (by rw [L_length]; exact Nat.le_refl _)
        have hnum := HM.out
        rw [hall] at hnum
        have hval := numI_some hne hl8 hnum
        rw [HX.out] at hval
        have hf : 1114111 < m → Sp.isChar (m : Int) = false := fun h => by simp [Sp.isChar, Sp.isRune]; omega
        cases hch : Sp.isChar (m : Int) with
        | true =>
          have hm2 : m ≤ 1114111 := by
            rcases Nat.lt_or_ge 1114111 m with h | h
            · rw [hf h] at hch; cases hch
            · exact h
          rw [if_pos hch] at hval
          have HC := Lib.hid hch
          clear hch hf hall hnum
          go_wp2_with (go_at_call 22; refine (refChar_is m true _ HC.out).mono ?_; rintro e w' ⟨rfl, rfl⟩)
          go_ret
          exact ⟨by rw [hval]; rfl, rfl⟩
        | false =>
          rw [hch, if_neg (by simp)] at hval
          have HC := Lib.hid hch
          clear hch hf hall hnum
          by_cases hm2 : m ≤ 1114111
          · go_wp2_with (go_at_call 22; refine (refChar_is m false _ HC.out).mono ?_; rintro e w' ⟨rfl, rfl⟩)
            go_ret
            exact ⟨by rw [hval]; rfl, rfl⟩
          · go_wp2_with fail
            go_ret
            exact ⟨by first | rfl | (rw [hval]; rfl), rfl⟩

end Go.Proofs.YtokdclmikllepaaGreatDoor
