import Derived.Test.YtokdclmikllepaaDoorVa
namespace Go.Proofs.YtokdclmikllepaaDoor
set_option linter.unusedVariables false
set_option linter.unusedSimpArgs false

theorem putI_two {r : Int} (h : (Sp.putI r).length = 2) : 128 ≤ r ∧ r < 2048 := by
  unfold Sp.putI at h
  repeat' (split at h)
  all_goals first | omega | (simp at h)
theorem isRune_iff {r : Int} (h : Sp.isRune r = true) : 0 ≤ r ∧ r ≤ 1114111 ∧ (r < 55296 ∨ 57344 ≤ r) := by
  simp [Sp.isRune] at h; omega
theorem putI_three {r : Int} (h : (Sp.putI r).length = 3) : 2048 ≤ r ∧ r < 65536 ∧ (r < 55296 ∨ 57344 ≤ r) := by
  unfold Sp.putI at h
  split at h
  · rename_i hr
    have := isRune_iff hr
    repeat' (split at h)
    all_goals first | omega | (simp at h)
  · simp at h
theorem putI_four {r : Int} (h : (Sp.putI r).length = 4) : 65536 ≤ r ∧ r ≤ 1114111 := by
  unfold Sp.putI at h
  split at h
  · rename_i hr
    have := isRune_iff hr
    repeat' (split at h)
    all_goals first | omega | (simp at h)
  · simp at h

theorem cont_in {c : UInt8} (h : Sp.contB c = true) : 128 ≤ c.toNat ∧ c.toNat < 192 := by
  simp [Sp.contB] at h; omega

/-- What Sp.next finds in a rune that is no ASCII. -/
structure Found (l : List UInt8) (r : Int) (n : Nat) : Prop where
  split : ∃ u t, l = u ++ t ∧ u.length = n ∧ Chunk u
  dec : Lib.decodeL l = (r.toNat, n)
  pos : 0 ≤ r

theorem dec_two (c a : UInt8) (t : List UInt8) (h1 : 192 ≤ c.toNat ∧ c.toNat < 224) (h2 : 128 ≤ a.toNat ∧ a.toNat < 192) (h3 : 128 ≤ c.toNat % 32 * 64 + a.toNat % 64) :
    Lib.decodeL (c :: a :: t) = (c.toNat % 32 * 64 + a.toNat % 64, 2) := by
  rw [Lib.decodeL_N]
  show Lib.decodeN (t.length + 1 + 1) c.toNat a.toNat _ _ = _
  unfold Lib.decodeN
  rw [if_neg (by omega), if_pos (by omega), if_pos h3]
theorem dec_three (c a b : UInt8) (t : List UInt8) (h1 : 224 ≤ c.toNat ∧ c.toNat < 240) (h2 : 128 ≤ a.toNat ∧ a.toNat < 192) (h3 : 128 ≤ b.toNat ∧ b.toNat < 192)
    (h4 : 2048 ≤ c.toNat % 16 * 4096 + a.toNat % 64 * 64 + b.toNat % 64) (h5 : c.toNat % 16 * 4096 + a.toNat % 64 * 64 + b.toNat % 64 < 55296 ∨ 57344 ≤ c.toNat % 16 * 4096 + a.toNat % 64 * 64 + b.toNat % 64) :
    Lib.decodeL (c :: a :: b :: t) = (c.toNat % 16 * 4096 + a.toNat % 64 * 64 + b.toNat % 64, 3) := by
  rw [Lib.decodeL_N]
  show Lib.decodeN (t.length + 1 + 1 + 1) c.toNat a.toNat b.toNat _ = _
  unfold Lib.decodeN
  rw [if_neg (by omega), if_neg (by omega), if_pos (by omega), if_pos (by omega)]
theorem dec_four (c a b d : UInt8) (t : List UInt8) (h1 : 240 ≤ c.toNat ∧ c.toNat < 248) (h2 : 128 ≤ a.toNat ∧ a.toNat < 192) (h3 : 128 ≤ b.toNat ∧ b.toNat < 192) (h6 : 128 ≤ d.toNat ∧ d.toNat < 192)
    (h4 : 65536 ≤ c.toNat % 8 * 262144 + a.toNat % 64 * 4096 + b.toNat % 64 * 64 + d.toNat % 64) (h5 : c.toNat % 8 * 262144 + a.toNat % 64 * 4096 + b.toNat % 64 * 64 + d.toNat % 64 ≤ 1114111) :
    Lib.decodeL (c :: a :: b :: d :: t) = (c.toNat % 8 * 262144 + a.toNat % 64 * 4096 + b.toNat % 64 * 64 + d.toNat % 64, 4) := by
  rw [Lib.decodeL_N]
  show Lib.decodeN (t.length + 1 + 1 + 1 + 1) c.toNat a.toNat b.toNat d.toNat = _
  unfold Lib.decodeN
  rw [if_neg (by omega), if_neg (by omega), if_neg (by omega), if_pos (by omega), if_pos (by omega)]

theorem tail_inv (n : Nat) (r : Int) (t : List UInt8) (x : Int) (m : Nat) (h : Sp.tailR n r t = (x, m)) (hm : m ≠ 0) :
    n - 1 ≤ t.length ∧ (t.take (n - 1)).all Sp.contB = true ∧ (Sp.putI (Sp.foldR r (t.take (n - 1)))).length = n ∧ Sp.foldR r (t.take (n - 1)) = x ∧ n = m := by
  unfold Sp.tailR at h
  split at h
  · injection h with _ h2; omega
  · split at h
    · split at h
      · injection h with h1 h2
        exact ⟨by omega, by assumption, by assumption, h1, h2⟩
      · injection h with _ h2; omega
    · injection h with _ h2; omega
theorem tail_two (c : UInt8) (t : List UInt8) (hc : 192 ≤ c.toNat ∧ c.toNat < 224) (r : Int) (n : Nat) (h : Sp.tailR 2 ((c.toNat : Int) - 192) t = (r, n)) (hn : n ≠ 0) : Found (c :: t) r n := by
  obtain ⟨h1, h2, h3, h4, h5⟩ := tail_inv _ _ _ _ _ h hn
  match t with
  | [] => simp at h1
  | a :: t =>
    have h2 : ([a] : List UInt8).all Sp.contB = true := h2
    have h3 : (Sp.putI (Sp.foldR ((c.toNat : Int) - 192) [a])).length = 2 := h3
    have h4 : Sp.foldR ((c.toNat : Int) - 192) [a] = r := h4
    have hf : Sp.foldR ((c.toNat : Int) - 192) [a] = ((c.toNat % 32 * 64 + a.toNat % 64 : Nat) : Int) := by
      show (((c.toNat : Int) - 192) * 64 + ((a.toNat : Int) - 128)) = _
      simp only [List.all_cons, List.all_nil, Bool.and_true, Bool.and_eq_true] at h2
      have ka := cont_in h2
      omega
    rw [hf] at h3 h4
    have hp := putI_two h3
    simp only [List.all_cons, List.all_nil, Bool.and_true, Bool.and_eq_true] at h2
    have ka := cont_in h2
    subst h4 h5
    have hd := fun t => dec_two c a t hc ka (by omega)
    exact ⟨⟨[c, a], t, rfl, rfl, ⟨by simp, by simp; omega, _, by omega, by omega, hd⟩⟩, hd t, by omega⟩
theorem tail_three (c : UInt8) (t : List UInt8) (hc : 224 ≤ c.toNat ∧ c.toNat < 240) (r : Int) (n : Nat) (h : Sp.tailR 3 ((c.toNat : Int) - 224) t = (r, n)) (hn : n ≠ 0) : Found (c :: t) r n := by
  obtain ⟨h1, h2, h3, h4, h5⟩ := tail_inv _ _ _ _ _ h hn
  match t with
  | [] => simp at h1
  | [a] => simp at h1
  | a :: b :: t =>
    have h2 : ([a, b] : List UInt8).all Sp.contB = true := h2
    have h3 : (Sp.putI (Sp.foldR ((c.toNat : Int) - 224) [a, b])).length = 3 := h3
    have h4 : Sp.foldR ((c.toNat : Int) - 224) [a, b] = r := h4
    have hf : Sp.foldR ((c.toNat : Int) - 224) [a, b] = ((c.toNat % 16 * 4096 + a.toNat % 64 * 64 + b.toNat % 64 : Nat) : Int) := by
      show ((((c.toNat : Int) - 224) * 64 + ((a.toNat : Int) - 128)) * 64 + ((b.toNat : Int) - 128)) = _
      simp only [List.all_cons, List.all_nil, Bool.and_true, Bool.and_eq_true] at h2
      have ka := cont_in h2.1; have kb := cont_in h2.2
      omega
    rw [hf] at h3 h4
    have hp := putI_three h3
    simp only [List.all_cons, List.all_nil, Bool.and_true, Bool.and_eq_true] at h2
    have ka := cont_in h2.1; have kb := cont_in h2.2
    subst h4 h5
    have hd := fun t => dec_three c a b t hc ka kb (by omega) (by omega)
    exact ⟨⟨[c, a, b], t, rfl, rfl, ⟨by simp, by simp; omega, _, by omega, by omega, hd⟩⟩, hd t, by omega⟩
theorem tail_four (c : UInt8) (t : List UInt8) (hc : 240 ≤ c.toNat ∧ c.toNat < 248) (r : Int) (n : Nat) (h : Sp.tailR 4 ((c.toNat : Int) - 240) t = (r, n)) (hn : n ≠ 0) : Found (c :: t) r n := by
  obtain ⟨h1, h2, h3, h4, h5⟩ := tail_inv _ _ _ _ _ h hn
  match t with
  | [] => simp at h1
  | [a] => simp at h1
  | [a, b] => simp at h1
  | a :: b :: d :: t =>
    have h2 : ([a, b, d] : List UInt8).all Sp.contB = true := h2
    have h3 : (Sp.putI (Sp.foldR ((c.toNat : Int) - 240) [a, b, d])).length = 4 := h3
    have h4 : Sp.foldR ((c.toNat : Int) - 240) [a, b, d] = r := h4
    have hf : Sp.foldR ((c.toNat : Int) - 240) [a, b, d] = ((c.toNat % 8 * 262144 + a.toNat % 64 * 4096 + b.toNat % 64 * 64 + d.toNat % 64 : Nat) : Int) := by
      show (((((c.toNat : Int) - 240) * 64 + ((a.toNat : Int) - 128)) * 64 + ((b.toNat : Int) - 128)) * 64 + ((d.toNat : Int) - 128)) = _
      simp only [List.all_cons, List.all_nil, Bool.and_true, Bool.and_eq_true] at h2
      have ka := cont_in h2.1; have kb := cont_in h2.2.1; have kd := cont_in h2.2.2
      omega
    rw [hf] at h3 h4
    have hp := putI_four h3
    simp only [List.all_cons, List.all_nil, Bool.and_true, Bool.and_eq_true] at h2
    have ka := cont_in h2.1; have kb := cont_in h2.2.1; have kd := cont_in h2.2.2
    subst h4 h5
    have hd := fun t => dec_four c a b d t hc ka kb kd (by omega) (by omega)
    exact ⟨⟨[c, a, b, d], t, rfl, rfl, ⟨by simp, by simp; omega, _, by omega, by omega, hd⟩⟩, hd t, by omega⟩
/-- What Sp.next finds. -/
theorem next_cases (c : UInt8) (t : List UInt8) (r : Int) (n : Nat) (h : Sp.next (c :: t) = (r, n)) (hn : n ≠ 0) :
    (c.toNat < 128 ∧ r = c.toNat ∧ n = 1) ∨ (128 ≤ c.toNat ∧ Found (c :: t) r n) := by
  simp only [Sp.next] at h
  split at h
  · rename_i hc
    injection h with h1 h2
    exact .inl ⟨hc, h1.symm, h2.symm⟩
  · split at h
    · injection h with _ h2; omega
    · split at h
      · exact .inr ⟨by omega, tail_two c t (by omega) r n h hn⟩
      · split at h
        · exact .inr ⟨by omega, tail_three c t (by omega) r n h hn⟩
        · split at h
          · exact .inr ⟨by omega, tail_four c t (by omega) r n h hn⟩
          · injection h with _ h2; omega

theorem next_dec (c : UInt8) (t : List UInt8) (r : Int) (n : Nat) (h : Sp.next (c :: t) = (r, n)) (hn : n ≠ 0) : Lib.decodeL (c :: t) = (r.toNat, n) ∧ 0 ≤ r ∧ n ≤ t.length + 1 := by
  rcases next_cases c t r n h hn with ⟨h1, h2, h3⟩ | ⟨h1, h2⟩
  · subst h2 h3
    exact ⟨by rw [Lib.decodeL_ascii c t h1]; simp, by omega, by omega⟩
  · refine ⟨h2.dec, h2.pos, ?_⟩
    obtain ⟨u, t', e, hl, _⟩ := h2.split
    have := congrArg List.length e
    simp at this; omega

theorem U8.of_bad : ∀ (k p : Nat) (l : List UInt8), Sp.bad k p l = none → U8 l
  | _, _, [], _ => .nil
  | 0, _, _ :: _, h => by simp [Sp.bad] at h
  | k + 1, p, c :: t, h => by
    unfold Sp.bad at h
    obtain ⟨⟨r, n⟩, hrn⟩ : ∃ x, Sp.next (c :: t) = x := ⟨_, rfl⟩
    rw [hrn] at h
    simp only at h
    split at h
    · cases h
    · rename_i hn
      have ih := U8.of_bad k _ _ h
      rcases next_cases c t r n hrn hn with ⟨h1, h2, h3⟩ | ⟨h1, h2⟩
      · subst h3; exact .asc c t h1 ih
      · obtain ⟨u, t', e, hl, hu⟩ := h2.split
        rw [e] at ih ⊢
        rw [← hl, List.drop_left] at ih
        exact .multi u t' hu ih
end Go.Proofs.YtokdclmikllepaaDoor
