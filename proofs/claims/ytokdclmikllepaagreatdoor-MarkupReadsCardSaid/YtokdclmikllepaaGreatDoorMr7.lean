import Derived.Test.YtokdclmikllepaaGreatDoorMr5
import Derived.Test.YtokdclmikllepaaGreatDoorMr6
namespace Go.Proofs.YtokdclmikllepaaGreatDoor
set_option linter.unusedVariables false
set_option linter.unusedSimpArgs false

/-- The rune that n bytes mean, the first i of them read. -/
def rrI (n : Nat) : Nat → List UInt8 → Int → Int
  | _, [], r => r
  | i, c :: t, r => rrI n (i + 1) t (if 0 < i then r * 64 + (c.toNat : Int) % 64 else if n = 1 then (c.toNat : Int) else (c.toNat : Int) % 2 ^ (7 - n))

theorem rrI_snoc (n i : Nat) (l : List UInt8) (c : UInt8) (r : Int) :
    rrI n i (l ++ [c]) r = if 0 < i + l.length then rrI n i l r * 64 + (c.toNat : Int) % 64 else if n = 1 then (c.toNat : Int) else (c.toNat : Int) % 2 ^ (7 - n) := by
  induction l generalizing i r with
  | nil => simp [rrI]
  | cons d t ih => simp only [List.cons_append, rrI, ih, List.length_cons]; congr 1; simp; omega

def rr (n : Nat) (l : List UInt8) : Int := rrI n 0 (l.take n) 0

theorem put_inj1 {r x : Int} {c : UInt8} (h : UInt8.ofNat x.toNat = c) (h0 : 0 ≤ x ∧ x < 256) : (c.toNat : Int) = x := by
  subst h; simp [UInt8.toNat_ofNat]; omega

theorem put_two {r : Int} (h0 : 128 ≤ r) (h1 : r < 2048) : Sp.put r = [UInt8.ofNat (192 + r / 64).toNat, UInt8.ofNat (128 + r % 64).toNat] := by
  have : Sp.isRune r = true := by simp [Sp.isRune]; omega
  simp only [Sp.put, Sp.putI, this, if_true]
  rw [if_neg (by omega), if_pos (by omega)]
  rfl
theorem put_three {r : Int} (h0 : 2048 ≤ r) (h1 : r < 65536) (hs : r < 55296 ∨ 57344 ≤ r) : Sp.put r = [UInt8.ofNat (224 + r / 4096).toNat, UInt8.ofNat (128 + r / 64 % 64).toNat, UInt8.ofNat (128 + r % 64).toNat] := by
  have : Sp.isRune r = true := by simp [Sp.isRune]; omega
  simp only [Sp.put, Sp.putI, this, if_true]
  rw [if_neg (by omega), if_neg (by omega), if_pos (by omega)]
  rfl
theorem put_four {r : Int} (h0 : 65536 ≤ r) (h1 : r ≤ 1114111) : Sp.put r = [UInt8.ofNat (240 + r / 262144).toNat, UInt8.ofNat (128 + r / 4096 % 64).toNat, UInt8.ofNat (128 + r / 64 % 64).toNat, UInt8.ofNat (128 + r % 64).toNat] := by
  have : Sp.isRune r = true := by simp [Sp.isRune]; omega
  simp only [Sp.put, Sp.putI, this, if_true]
  rw [if_neg (by omega), if_neg (by omega), if_neg (by omega)]
  rfl
theorem put_one {r : Int} (h0 : 0 ≤ r) (h1 : r < 128) : Sp.put r = [UInt8.ofNat r.toNat] := by
  have : Sp.isRune r = true := by simp [Sp.isRune]; omega
  simp only [Sp.put, Sp.putI, this, if_true]
  rw [if_pos (by omega)]
  rfl
theorem put_length (r : Int) : (Sp.put r).length = (Sp.putI r).length := by simp [Sp.put]

theorem putI_one {r : Int} (h : (Sp.putI r).length = 1) : 0 ≤ r ∧ r < 128 := by
  unfold Sp.putI at h
  split at h
  · rename_i hr
    have := isRune_iff hr
    repeat' (split at h)
    all_goals first | omega | (simp at h)
  · simp at h

theorem rr1 (c : UInt8) (t : List UInt8) : rr 1 (c :: t) = (c.toNat : Int) := rfl
theorem rr2 (a b : UInt8) (t : List UInt8) : rr 2 (a :: b :: t) = (a.toNat : Int) % 32 * 64 + (b.toNat : Int) % 64 := rfl
theorem rr3 (a b c : UInt8) (t : List UInt8) : rr 3 (a :: b :: c :: t) = ((a.toNat : Int) % 16 * 64 + (b.toNat : Int) % 64) * 64 + (c.toNat : Int) % 64 := rfl
theorem rr4 (a b c d : UInt8) (t : List UInt8) : rr 4 (a :: b :: c :: d :: t) = (((a.toNat : Int) % 8 * 64 + (b.toNat : Int) % 64) * 64 + (c.toNat : Int) % 64) * 64 + (d.toNat : Int) % 64 := rfl

theorem u8_back {x : Int} {c : UInt8} (h : (c.toNat : Int) = x) : UInt8.ofNat x.toNat = c := by
  apply UInt8.toNat_inj.1
  have := c.toNat_lt
  simp [UInt8.toNat_ofNat]; omega

theorem contB_of {c : UInt8} (h : 128 ≤ c.toNat ∧ c.toNat < 192) : Sp.contB c = true := by simp [Sp.contB]; omega

theorem rr_next : ∀ (n : Nat) (l : List UInt8), 1 ≤ n → n ≤ 4 → n ≤ l.length → Sp.put (rr n l) = l.take n → Sp.next l = (rr n l, n)
  | 1, c :: t, _, _, _, h => by
    have hl := congrArg List.length h
    rw [put_length] at hl
    have hb := putI_one (by rw [hl]; simp)
    rw [rr1] at hb ⊢
    simp only [Sp.next]
    rw [if_pos (by omega)]
  | 2, a :: b :: t, _, _, _, h => by
    have hl := congrArg List.length h
    rw [put_length] at hl
    have hb := putI_two (by rw [hl]; simp)
    rw [put_two hb.1 hb.2] at h
    have hr : rr 2 (a :: b :: t) = (a.toNat : Int) % 32 * 64 + (b.toNat : Int) % 64 := rr2 a b t
    simp only [List.take_succ_cons, List.take_zero, List.cons.injEq, and_true] at h
    have h1 := put_inj1 (r := 0) h.1 (by omega)
    have h2 := put_inj1 (r := 0) h.2 (by omega)
    simp only [Sp.next]
    rw [if_neg (by omega), if_neg (by omega), if_pos (by omega)]
    simp only [Sp.tailR, List.length_cons]
    rw [if_neg (by omega)]
    have hc : (List.take (2 - 1) (b :: t)).all Sp.contB = true := by simp [contB_of (c := b) (by omega)]
    have hf : Sp.foldR ((a.toNat : Int) - 192) (List.take (2 - 1) (b :: t)) = rr 2 (a :: b :: t) := by
      show ((a.toNat : Int) - 192) * 64 + ((b.toNat : Int) - 128) = _
      omega
    rw [hc, hf, if_pos rfl, if_pos (by rw [hl]; simp)]
  | 3, a :: b :: c :: t, _, _, _, h => by
    have hl := congrArg List.length h
    rw [put_length] at hl
    have hb := putI_three (by rw [hl]; simp)
    rw [put_three hb.1 hb.2.1 hb.2.2] at h
    have hr : rr 3 (a :: b :: c :: t) = ((a.toNat : Int) % 16 * 64 + (b.toNat : Int) % 64) * 64 + (c.toNat : Int) % 64 := rr3 a b c t
    simp only [List.take_succ_cons, List.take_zero, List.cons.injEq, and_true] at h
    have h1 := put_inj1 (r := 0) h.1 (by omega)
    have h2 := put_inj1 (r := 0) h.2.1 (by omega)
    have h3 := put_inj1 (r := 0) h.2.2 (by omega)
    simp only [Sp.next]
    rw [if_neg (by omega), if_neg (by omega), if_neg (by omega), if_pos (by omega)]
    simp only [Sp.tailR, List.length_cons]
    rw [if_neg (by omega)]
    have hc : (List.take (3 - 1) (b :: c :: t)).all Sp.contB = true := by simp [contB_of (c := b) (by omega), contB_of (c := c) (by omega)]
    have hf : Sp.foldR ((a.toNat : Int) - 224) (List.take (3 - 1) (b :: c :: t)) = rr 3 (a :: b :: c :: t) := by
      show (((a.toNat : Int) - 224) * 64 + ((b.toNat : Int) - 128)) * 64 + ((c.toNat : Int) - 128) = _
      omega
    rw [hc, hf, if_pos rfl, if_pos (by rw [hl]; simp)]
  | 4, a :: b :: c :: d :: t, _, _, _, h => by
    have hl := congrArg List.length h
    rw [put_length] at hl
    have hb := putI_four (by rw [hl]; simp)
    rw [put_four hb.1 hb.2] at h
    have hr : rr 4 (a :: b :: c :: d :: t) = (((a.toNat : Int) % 8 * 64 + (b.toNat : Int) % 64) * 64 + (c.toNat : Int) % 64) * 64 + (d.toNat : Int) % 64 := rr4 a b c d t
    simp only [List.take_succ_cons, List.take_zero, List.cons.injEq, and_true] at h
    have h1 := put_inj1 (r := 0) h.1 (by omega)
    have h2 := put_inj1 (r := 0) h.2.1 (by omega)
    have h3 := put_inj1 (r := 0) h.2.2.1 (by omega)
    have h4 := put_inj1 (r := 0) h.2.2.2 (by omega)
    simp only [Sp.next]
    rw [if_neg (by omega), if_neg (by omega), if_neg (by omega), if_neg (by omega), if_pos (by omega)]
    simp only [Sp.tailR, List.length_cons]
    rw [if_neg (by omega)]
    have hc : (List.take (4 - 1) (b :: c :: d :: t)).all Sp.contB = true := by simp [contB_of (c := b) (by omega), contB_of (c := c) (by omega), contB_of (c := d) (by omega)]
    have hf : Sp.foldR ((a.toNat : Int) - 240) (List.take (4 - 1) (b :: c :: d :: t)) = rr 4 (a :: b :: c :: d :: t) := by
      show ((((a.toNat : Int) - 240) * 64 + ((b.toNat : Int) - 128)) * 64 + ((c.toNat : Int) - 128)) * 64 + ((d.toNat : Int) - 128) = _
      omega
    rw [hc, hf, if_pos rfl, if_pos (by rw [hl]; simp)]
  | 0, _, h, _, _, _ => absurd h (by omega)
  | n + 5, _, _, h, _, _ => absurd h (by omega)
  | 1, [], _, _, h, _ => absurd h (by simp)
  | 2, [], _, _, h, _ => absurd h (by simp)
  | 2, [_], _, _, h, _ => absurd h (by simp)
  | 3, [], _, _, h, _ => absurd h (by simp)
  | 3, [_], _, _, h, _ => absurd h (by simp)
  | 3, [_, _], _, _, h, _ => absurd h (by simp)
  | 4, [], _, _, h, _ => absurd h (by simp)
  | 4, [_], _, _, h, _ => absurd h (by simp)
  | 4, [_, _], _, _, h, _ => absurd h (by simp)
  | 4, [_, _, _], _, _, h, _ => absurd h (by simp)

theorem next_rr (c : UInt8) (t : List UInt8) (r : Int) (n : Nat) (h : Sp.next (c :: t) = (r, n)) (hn : n ≠ 0) :
    1 ≤ n ∧ n ≤ 4 ∧ n ≤ (c :: t).length ∧ Sp.put (rr n (c :: t)) = (c :: t).take n := by
  simp only [Sp.next] at h
  split at h
  · injection h with h1 h2
    subst h1 h2
    refine ⟨by omega, by omega, by simp, ?_⟩
    rw [rr1, put_one (by omega) (by omega), u8_back rfl]
    rfl
  split at h
  · injection h with h1 h2; omega
  split at h
  · obtain ⟨rfl, h1, h2, h3, -⟩ := tailR_inv h hn
    refine ⟨by omega, by omega, by simp; omega, ?_⟩
    match t, h1, h2, h with
    | b :: t, h1, h2, h =>
      have hb : Sp.contB b = true := by simpa using h2
      have kb := cont_in hb
      have hf : Sp.foldR ((c.toNat : Int) - 192) (List.take (2 - 1) (b :: t)) = rr 2 (c :: b :: t) := by
        rw [rr2]
        show ((c.toNat : Int) - 192) * 64 + ((b.toNat : Int) - 128) = _
        omega
      have he : r = rr 2 (c :: b :: t) := by
        unfold Sp.tailR at h
        repeat' (split at h)
        all_goals first | (injection h with _ h; omega) | (injection h with h _; rw [← h]; exact hf)
      have hb2 := putI_two h3
      rw [← he, put_two hb2.1 hb2.2]
      rw [rr2] at he
      simp only [List.take_succ_cons, List.take_zero]
      rw [u8_back (x := 192 + r / 64) (c := c) (by omega), u8_back (x := 128 + r % 64) (c := b) (by omega)]
    | [], h1, h2, h => simp at h1
  split at h
  · obtain ⟨rfl, h1, h2, h3, -⟩ := tailR_inv h hn
    refine ⟨by omega, by omega, by simp; omega, ?_⟩
    match t, h1, h2, h with
    | b :: d :: t, h1, h2, h =>
      have hb : Sp.contB b = true ∧ Sp.contB d = true := by simpa using h2
      have kb := cont_in hb.1
      have kd := cont_in hb.2
      have hf : Sp.foldR ((c.toNat : Int) - 224) (List.take (3 - 1) (b :: d :: t)) = rr 3 (c :: b :: d :: t) := by
        rw [rr3]
        show (((c.toNat : Int) - 224) * 64 + ((b.toNat : Int) - 128)) * 64 + ((d.toNat : Int) - 128) = _
        omega
      have he : r = rr 3 (c :: b :: d :: t) := by
        unfold Sp.tailR at h
        repeat' (split at h)
        all_goals first | (injection h with _ h; omega) | (injection h with h _; rw [← h]; exact hf)
      have hb2 := putI_three h3
      rw [← he, put_three hb2.1 hb2.2.1 hb2.2.2]
      rw [rr3] at he
      simp only [List.take_succ_cons, List.take_zero]
      rw [u8_back (x := 224 + r / 4096) (c := c) (by omega), u8_back (x := 128 + r / 64 % 64) (c := b) (by omega), u8_back (x := 128 + r % 64) (c := d) (by omega)]
    | [_], h1, h2, h => simp at h1
    | [], h1, h2, h => simp at h1
  split at h
  · obtain ⟨rfl, h1, h2, h3, -⟩ := tailR_inv h hn
    refine ⟨by omega, by omega, by simp; omega, ?_⟩
    match t, h1, h2, h with
    | b :: d :: e :: t, h1, h2, h =>
      have hb : Sp.contB b = true ∧ Sp.contB d = true ∧ Sp.contB e = true := by simpa using h2
      have kb := cont_in hb.1
      have kd := cont_in hb.2.1
      have ke := cont_in hb.2.2
      have hf : Sp.foldR ((c.toNat : Int) - 240) (List.take (4 - 1) (b :: d :: e :: t)) = rr 4 (c :: b :: d :: e :: t) := by
        rw [rr4]
        show ((((c.toNat : Int) - 240) * 64 + ((b.toNat : Int) - 128)) * 64 + ((d.toNat : Int) - 128)) * 64 + ((e.toNat : Int) - 128) = _
        omega
      have he : r = rr 4 (c :: b :: d :: e :: t) := by
        unfold Sp.tailR at h
        repeat' (split at h)
        all_goals first | (injection h with _ h; omega) | (injection h with h _; rw [← h]; exact hf)
      have hb2 := putI_four h3
      rw [← he, put_four hb2.1 hb2.2]
      rw [rr4] at he
      simp only [List.take_succ_cons, List.take_zero]
      rw [u8_back (x := 240 + r / 262144) (c := c) (by omega), u8_back (x := 128 + r / 4096 % 64) (c := b) (by omega), u8_back (x := 128 + r / 64 % 64) (c := d) (by omega), u8_back (x := 128 + r % 64) (c := e) (by omega)]
    | [_, _], h1, h2, h => simp at h1
    | [_], h1, h2, h => simp at h1
    | [], h1, h2, h => simp at h1
  · injection h with _ h; omega

theorem sp_next_zero' (l : List UInt8) (h : (Sp.next l).2 = 0) : (Sp.next l).1 = 0 := by
  have ht : ∀ n r t, 0 < n → (Sp.tailR n r t).2 = 0 → (Sp.tailR n r t).1 = 0 := fun n r t hn => by
    unfold Sp.tailR
    repeat' split
    all_goals (intro h; first | rfl | (simp only at h; omega))
  cases l with
  | nil => rfl
  | cons c t =>
    simp only [Sp.next] at h ⊢
    repeat' split
    all_goals simp_all
    all_goals exact ht _ _ _ (by omega) (by assumption)

theorem rr_none (l : List UInt8) (h : ∀ n, 1 ≤ n → n ≤ 4 → n ≤ l.length → Sp.put (rr n l) ≠ l.take n) : Sp.next l = (0, 0) := by
  cases l with
  | nil => rfl
  | cons c t =>
    obtain ⟨⟨r, n⟩, hn⟩ : ∃ x, Sp.next (c :: t) = x := ⟨_, rfl⟩
    by_cases h0 : n = 0
    · subst h0
      rw [hn]
      have := sp_next_zero' (c :: t) (by rw [hn])
      rw [hn] at this
      simp only at this
      rw [this]
    · obtain ⟨h1, h2, h3, h4⟩ := next_rr c t r n hn h0
      exact absurd h4 (h n h1 h2 h3)
end Go.Proofs.YtokdclmikllepaaGreatDoor
