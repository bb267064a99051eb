import Derived.Test.YtokdclmikllepaaGreatDoorKt0
import Derived.Lib.MapLaws
import Derived.Lib.TrimAscii
import Derived.Test.YtokdclmikllepaaGreatDoorKt12
namespace Go.Proofs.YtokdclmikllepaaGreatDoor
set_option linter.unusedVariables false
set_option linter.unusedSimpArgs false

/-- The bytes of one rune that is no ASCII. -/
structure Chunk (u : List UInt8) : Prop where
  len : 2 ≤ u.length
  hi : ∀ x ∈ u, 128 ≤ x.toNat
  dec : ∃ r : Nat, 128 ≤ r ∧ r ≤ 1114111 ∧ (∀ t, Lib.decodeL (u ++ t) = (r, u.length))
/-- Runes one behind the other. -/
inductive U8 : List UInt8 → Prop
  | nil : U8 []
  | asc (c : UInt8) (t : List UInt8) (hc : c.toNat < 128) (ht : U8 t) : U8 (c :: t)
  | multi (u t : List UInt8) (hu : Chunk u) (ht : U8 t) : U8 (u ++ t)

theorem U8.at_ascii {l : List UInt8} (h : U8 l) : ∀ (a b : List UInt8) (c : UInt8), l = a ++ c :: b → c.toNat < 128 → U8 a ∧ U8 b := by
  induction h with
  | nil => intro a b c h _; cases a <;> cases h
  | asc d t hd ht ih =>
    intro a b c h hc
    cases a with
    | nil => injection h with h1 h2; subst h2; exact ⟨.nil, ht⟩
    | cons x a =>
      injection h with h1 h2
      subst h1
      have := ih a b c h2 hc
      exact ⟨.asc _ _ hd this.1, this.2⟩
  | multi u t hu ht ih =>
    intro a b c h hc
    rcases List.append_eq_append_iff.1 h with ⟨a', h1, h2⟩ | ⟨a', h1, h2⟩
    · subst h1
      have := ih a' b c h2 hc
      exact ⟨.multi _ _ hu this.1, this.2⟩
    · cases a' with
      | nil =>
        rw [List.append_nil] at h1
        subst h1
        have := ih [] b c h2.symm hc
        exact ⟨by have := U8.multi _ _ hu .nil; rwa [List.append_nil] at this, this.2⟩
      | cons y a' =>
        injection h2 with h3 h4
        subst h3
        have := hu.hi c (by rw [h1]; simp)
        omega

theorem blank_hi {x : UInt8} (h : 128 ≤ x.toNat) : Sp.blank x = x := by
  have : Sp.white x = false := by simp [Sp.white]; omega
  rw [Sp.blank, this]; simp

/-- What attr's function makes of a rune. -/
def wf (r : Int) : Int := if r = 32 ∨ r = 9 ∨ r = 13 ∨ r = 10 then 32 else r

theorem U8.map_blank {l : List UInt8} (h : U8 l) : Lib.mapD wf l = l.map Sp.blank := by
  induction h with
  | nil => rfl
  | asc c t hc ht ih =>
    rw [Lib.mapD_step wf (c :: t) (by simp), Lib.decodeL_ascii c t hc]
    simp only [List.drop_succ_cons, List.drop_zero, ih, List.map_cons]
    have key : (if 0 ≤ wf (c.toNat : Int) then Lib.encodeRune (wf (c.toNat : Int)) else []) = [Sp.blank c] := by
      by_cases hw : Sp.white c = true
      · have hwf : wf (c.toNat : Int) = 32 := by
          rw [wf, if_pos]
          simp [Sp.white] at hw; omega
        rw [hwf, Sp.blank, if_pos hw]
        rfl
      · have hwf : wf (c.toNat : Int) = (c.toNat : Int) := by
          rw [wf, if_neg]
          simp [Sp.white] at hw; omega
        rw [hwf, Sp.blank, if_neg hw, if_pos (by omega), Lib.encodeRune, Lib.encodeRuneZ_one (by omega) (by omega)]
        simp
    rw [key]; rfl
  | multi u t hu ht ih =>
    obtain ⟨r, hr, hr2, hd⟩ := hu.dec
    have hne : u ++ t ≠ [] := by
      have := hu.len
      cases u with
      | nil => simp at this
      | cons => simp
    have hwf : wf (r : Int) = r := by rw [wf, if_neg (by omega)]
    rw [Lib.mapD_same wf (u ++ t) hne (by rw [hd]; exact hwf) (by rw [hd]; have := hu.len; simp only; omega), hd]
    simp only [List.take_left, List.drop_left, List.map_append, ih]
    congr 1
    have : u.map Sp.blank = u.map id := List.map_congr_left fun x hx => blank_hi (hu.hi x hx)
    rw [this, List.map_id]

theorem lines_hi (u t : List UInt8) (h : ∀ x ∈ u, 128 ≤ x.toNat) : Sp.lines (u ++ t) = u ++ Sp.lines t := by
  induction u with
  | nil => rfl
  | cons c u ih =>
    have hc := h c (by simp)
    have ih := ih fun x hx => h x (by simp [hx])
    show Sp.lines (c :: (u ++ t)) = c :: (u ++ Sp.lines t)
    rw [← ih]
    rw [Sp.lines]
    · intro t' h1 _; subst h1; revert hc; decide
    · intro h1; subst h1; revert hc; decide

theorem U8.lines {l : List UInt8} (h : U8 l) : U8 (Sp.lines l) := by
  induction h with
  | nil => exact .nil
  | asc c t hc ht ih =>
    by_cases h13 : c = 13
    · subst h13
      cases t with
      | nil => exact .asc 10 _ (by decide) .nil
      | cons d t =>
        by_cases h10 : d = 10
        · subst h10
          have e : Sp.lines (13 :: 10 :: t) = Sp.lines (10 :: t) := by
            rw [Sp.lines, Sp.lines]
            · intro t' h1 _; revert h1; decide
            · intro h1; revert h1; decide
          rw [e]; exact ih
        · rw [Sp.lines]
          · exact .asc 10 _ (by decide) ih
          · intro t' h1; injection h1 with h1 h2; exact h10 h1
    · rw [Sp.lines]
      · exact .asc c _ hc ih
      · intro t' h1 h2; exact h13 h1
      · intro h1; exact h13 h1
  | multi u t hu ht ih =>
    rw [lines_hi u t hu.hi]
    exact .multi u _ hu ih

theorem plain_hi (e : UInt8) (he : e.toNat < 128) {x : UInt8} (h : 128 ≤ x.toNat) : Sp.plainB e x = true := by
  have h1 : x ≠ e := by rintro rfl; omega
  have h2 : x ≠ 38 := by rintro rfl; revert h; decide
  have h3 : x ≠ 60 := by rintro rfl; revert h; decide
  simp [Sp.plainB, h1, h2, h3]

theorem while_hi (q : UInt8 → Bool) (u t : List UInt8) (h : ∀ x ∈ u, q x = true) : (u ++ t).takeWhile q = u ++ t.takeWhile q ∧ (u ++ t).dropWhile q = t.dropWhile q := by
  induction u with
  | nil => exact ⟨rfl, rfl⟩
  | cons c u ih =>
    have ih := ih fun x hx => h x (by simp [hx])
    simp only [List.cons_append, List.takeWhile_cons, List.dropWhile_cons, h c (by simp), if_true]
    exact ⟨by rw [ih.1], ih.2⟩

theorem U8.while_ {l : List UInt8} (h : U8 l) (e : UInt8) (he : e.toNat < 128) : U8 (l.takeWhile (Sp.plainB e)) ∧ U8 (l.dropWhile (Sp.plainB e)) := by
  induction h with
  | nil => exact ⟨.nil, .nil⟩
  | asc c t hc ht ih =>
    rw [List.takeWhile_cons, List.dropWhile_cons]
    split
    · exact ⟨.asc c _ hc ih.1, ih.2⟩
    · exact ⟨.nil, .asc c _ hc ht⟩
  | multi u t hu ht ih =>
    have := while_hi (Sp.plainB e) u t fun x hx => plain_hi e he (hu.hi x hx)
    rw [this.1, this.2]
    exact ⟨.multi u _ hu ih.1, ih.2⟩

/-- What attr makes of a piece. -/
theorem U8.flat {l : List UInt8} (h : U8 l) : Lib.mapD wf (Sp.lines l) = Sp.flat true l := by
  rw [h.lines.map_blank]; rfl
end Go.Proofs.YtokdclmikllepaaGreatDoor
namespace Go.Proofs.YtokdclmikllepaaGreatDoor
set_option linter.unusedVariables false
set_option linter.unusedSimpArgs false

theorem putI_two {r : Int} (h : (Sp.putI r).length = 2) : 128 ≤ r ∧ r < 2048 := by
  unfold Sp.putI at h
  repeat' (split at h)
  all_goals first | omega | (simp at h)
theorem isRune_iff {r : Int} (h : Sp.isRune r = true) : 0 ≤ r ∧ r ≤ 1114111 ∧ (r < 55296 ∨ 57344 ≤ r) := by
  simp [Sp.isRune] at h; omega
theorem putI_three {r : Int} (h : (Sp.putI r).length = 3) : 2048 ≤ r ∧ r < 65536 ∧ (r < 55296 ∨ 57344 ≤ r) := by
  unfold Sp.putI at h
  split at h
  · rename_i hr
    have := isRune_iff hr
    repeat' (split at h)
    all_goals first | omega | (simp at h)
  · simp at h
theorem putI_four {r : Int} (h : (Sp.putI r).length = 4) : 65536 ≤ r ∧ r ≤ 1114111 := by
  unfold Sp.putI at h
  split at h
  · rename_i hr
    have := isRune_iff hr
    repeat' (split at h)
    all_goals first | omega | (simp at h)
  · simp at h

theorem cont_in {c : UInt8} (h : Sp.contB c = true) : 128 ≤ c.toNat ∧ c.toNat < 192 := by
  simp [Sp.contB] at h; omega

/-- What Sp.next finds in a rune that is no ASCII. -/
structure Found (l : List UInt8) (r : Int) (n : Nat) : Prop where
  split : ∃ u t, l = u ++ t ∧ u.length = n ∧ Chunk u
  dec : Lib.decodeL l = (r.toNat, n)
  pos : 0 ≤ r

theorem dec_two (c a : UInt8) (t : List UInt8) (h1 : 192 ≤ c.toNat ∧ c.toNat < 224) (h2 : 128 ≤ a.toNat ∧ a.toNat < 192) (h3 : 128 ≤ c.toNat % 32 * 64 + a.toNat % 64) :
    Lib.decodeL (c :: a :: t) = (c.toNat % 32 * 64 + a.toNat % 64, 2) := by
  rw [Lib.decodeL_N]
  show Lib.decodeN (t.length + 1 + 1) c.toNat a.toNat _ _ = _
  unfold Lib.decodeN
  rw [if_neg (by omega), if_pos (by omega), if_pos h3]
theorem dec_three (c a b : UInt8) (t : List UInt8) (h1 : 224 ≤ c.toNat ∧ c.toNat < 240) (h2 : 128 ≤ a.toNat ∧ a.toNat < 192) (h3 : 128 ≤ b.toNat ∧ b.toNat < 192)
    (h4 : 2048 ≤ c.toNat % 16 * 4096 + a.toNat % 64 * 64 + b.toNat % 64) (h5 : c.toNat % 16 * 4096 + a.toNat % 64 * 64 + b.toNat % 64 < 55296 ∨ 57344 ≤ c.toNat % 16 * 4096 + a.toNat % 64 * 64 + b.toNat % 64) :
    Lib.decodeL (c :: a :: b :: t) = (c.toNat % 16 * 4096 + a.toNat % 64 * 64 + b.toNat % 64, 3) := by
  rw [Lib.decodeL_N]
  show Lib.decodeN (t.length + 1 + 1 + 1) c.toNat a.toNat b.toNat _ = _
  unfold Lib.decodeN
  rw [if_neg (by omega), if_neg (by omega), if_pos (by omega), if_pos (by omega)]
theorem dec_four (c a b d : UInt8) (t : List UInt8) (h1 : 240 ≤ c.toNat ∧ c.toNat < 248) (h2 : 128 ≤ a.toNat ∧ a.toNat < 192) (h3 : 128 ≤ b.toNat ∧ b.toNat < 192) (h6 : 128 ≤ d.toNat ∧ d.toNat < 192)
    (h4 : 65536 ≤ c.toNat % 8 * 262144 + a.toNat % 64 * 4096 + b.toNat % 64 * 64 + d.toNat % 64) (h5 : c.toNat % 8 * 262144 + a.toNat % 64 * 4096 + b.toNat % 64 * 64 + d.toNat % 64 ≤ 1114111) :
    Lib.decodeL (c :: a :: b :: d :: t) = (c.toNat % 8 * 262144 + a.toNat % 64 * 4096 + b.toNat % 64 * 64 + d.toNat % 64, 4) := by
  rw [Lib.decodeL_N]
  show Lib.decodeN (t.length + 1 + 1 + 1 + 1) c.toNat a.toNat b.toNat d.toNat = _
  unfold Lib.decodeN
  rw [if_neg (by omega), if_neg (by omega), if_neg (by omega), if_pos (by omega), if_pos (by omega)]

theorem tail_inv (n : Nat) (r : Int) (t : List UInt8) (x : Int) (m : Nat) (h : Sp.tailR n r t = (x, m)) (hm : m ≠ 0) :
    n - 1 ≤ t.length ∧ (t.take (n - 1)).all Sp.contB = true ∧ (Sp.putI (Sp.foldR r (t.take (n - 1)))).length = n ∧ Sp.foldR r (t.take (n - 1)) = x ∧ n = m := by
  unfold Sp.tailR at h
  split at h
  · injection h with _ h2; omega
  · split at h
    · split at h
      · injection h with h1 h2
        exact ⟨by omega, by assumption, by assumption, h1, h2⟩
      · injection h with _ h2; omega
    · injection h with _ h2; omega
theorem tail_two (c : UInt8) (t : List UInt8) (hc : 192 ≤ c.toNat ∧ c.toNat < 224) (r : Int) (n : Nat) (h : Sp.tailR 2 ((c.toNat : Int) - 192) t = (r, n)) (hn : n ≠ 0) : Found (c :: t) r n := by
  obtain ⟨h1, h2, h3, h4, h5⟩ := tail_inv _ _ _ _ _ h hn
  match t with
  | [] => simp at h1
  | a :: t =>
    have h2 : ([a] : List UInt8).all Sp.contB = true := h2
    have h3 : (Sp.putI (Sp.foldR ((c.toNat : Int) - 192) [a])).length = 2 := h3
    have h4 : Sp.foldR ((c.toNat : Int) - 192) [a] = r := h4
    have hf : Sp.foldR ((c.toNat : Int) - 192) [a] = ((c.toNat % 32 * 64 + a.toNat % 64 : Nat) : Int) := by
      show (((c.toNat : Int) - 192) * 64 + ((a.toNat : Int) - 128)) = _
      simp only [List.all_cons, List.all_nil, Bool.and_true, Bool.and_eq_true] at h2
      have ka := cont_in h2
      omega
    rw [hf] at h3 h4
    have hp := putI_two h3
    simp only [List.all_cons, List.all_nil, Bool.and_true, Bool.and_eq_true] at h2
    have ka := cont_in h2
    subst h4 h5
    have hd := fun t => dec_two c a t hc ka (by omega)
    exact ⟨⟨[c, a], t, rfl, rfl, ⟨by simp, by simp; omega, _, by omega, by omega, hd⟩⟩, hd t, by omega⟩
theorem tail_three (c : UInt8) (t : List UInt8) (hc : 224 ≤ c.toNat ∧ c.toNat < 240) (r : Int) (n : Nat) (h : Sp.tailR 3 ((c.toNat : Int) - 224) t = (r, n)) (hn : n ≠ 0) : Found (c :: t) r n := by
  obtain ⟨h1, h2, h3, h4, h5⟩ := tail_inv _ _ _ _ _ h hn
  match t with
  | [] => simp at h1
  | [a] => simp at h1
  | a :: b :: t =>
    have h2 : ([a, b] : List UInt8).all Sp.contB = true := h2
    have h3 : (Sp.putI (Sp.foldR ((c.toNat : Int) - 224) [a, b])).length = 3 := h3
    have h4 : Sp.foldR ((c.toNat : Int) - 224) [a, b] = r := h4
    have hf : Sp.foldR ((c.toNat : Int) - 224) [a, b] = ((c.toNat % 16 * 4096 + a.toNat % 64 * 64 + b.toNat % 64 : Nat) : Int) := by
      show ((((c.toNat : Int) - 224) * 64 + ((a.toNat : Int) - 128)) * 64 + ((b.toNat : Int) - 128)) = _
      simp only [List.all_cons, List.all_nil, Bool.and_true, Bool.and_eq_true] at h2
      have ka := cont_in h2.1; have kb := cont_in h2.2
      omega
    rw [hf] at h3 h4
    have hp := putI_three h3
    simp only [List.all_cons, List.all_nil, Bool.and_true, Bool.and_eq_true] at h2
    have ka := cont_in h2.1; have kb := cont_in h2.2
    subst h4 h5
    have hd := fun t => dec_three c a b t hc ka kb (by omega) (by omega)
    exact ⟨⟨[c, a, b], t, rfl, rfl, ⟨by simp, by simp; omega, _, by omega, by omega, hd⟩⟩, hd t, by omega⟩
theorem tail_four (c : UInt8) (t : List UInt8) (hc : 240 ≤ c.toNat ∧ c.toNat < 248) (r : Int) (n : Nat) (h : Sp.tailR 4 ((c.toNat : Int) - 240) t = (r, n)) (hn : n ≠ 0) : Found (c :: t) r n := by
  obtain ⟨h1, h2, h3, h4, h5⟩ := tail_inv _ _ _ _ _ h hn
  match t with
  | [] => simp at h1
  | [a] => simp at h1
  | [a, b] => simp at h1
  | a :: b :: d :: t =>
    have h2 : ([a, b, d] : List UInt8).all Sp.contB = true := h2
    have h3 : (Sp.putI (Sp.foldR ((c.toNat : Int) - 240) [a, b, d])).length = 4 := h3
    have h4 : Sp.foldR ((c.toNat : Int) - 240) [a, b, d] = r := h4
    have hf : Sp.foldR ((c.toNat : Int) - 240) [a, b, d] = ((c.toNat % 8 * 262144 + a.toNat % 64 * 4096 + b.toNat % 64 * 64 + d.toNat % 64 : Nat) : Int) := by
      show (((((c.toNat : Int) - 240) * 64 + ((a.toNat : Int) - 128)) * 64 + ((b.toNat : Int) - 128)) * 64 + ((d.toNat : Int) - 128)) = _
      simp only [List.all_cons, List.all_nil, Bool.and_true, Bool.and_eq_true] at h2
      have ka := cont_in h2.1; have kb := cont_in h2.2.1; have kd := cont_in h2.2.2
      omega
    rw [hf] at h3 h4
    have hp := putI_four h3
    simp only [List.all_cons, List.all_nil, Bool.and_true, Bool.and_eq_true] at h2
    have ka := cont_in h2.1; have kb := cont_in h2.2.1; have kd := cont_in h2.2.2
    subst h4 h5
    have hd := fun t => dec_four c a b d t hc ka kb kd (by omega) (by omega)
    exact ⟨⟨[c, a, b, d], t, rfl, rfl, ⟨by simp, by simp; omega, _, by omega, by omega, hd⟩⟩, hd t, by omega⟩
/-- What Sp.next finds. -/
theorem next_cases (c : UInt8) (t : List UInt8) (r : Int) (n : Nat) (h : Sp.next (c :: t) = (r, n)) (hn : n ≠ 0) :
    (c.toNat < 128 ∧ r = c.toNat ∧ n = 1) ∨ (128 ≤ c.toNat ∧ Found (c :: t) r n) := by
  simp only [Sp.next] at h
  split at h
  · rename_i hc
    injection h with h1 h2
    exact .inl ⟨hc, h1.symm, h2.symm⟩
  · split at h
    · injection h with _ h2; omega
    · split at h
      · exact .inr ⟨by omega, tail_two c t (by omega) r n h hn⟩
      · split at h
        · exact .inr ⟨by omega, tail_three c t (by omega) r n h hn⟩
        · split at h
          · exact .inr ⟨by omega, tail_four c t (by omega) r n h hn⟩
          · injection h with _ h2; omega

theorem next_dec (c : UInt8) (t : List UInt8) (r : Int) (n : Nat) (h : Sp.next (c :: t) = (r, n)) (hn : n ≠ 0) : Lib.decodeL (c :: t) = (r.toNat, n) ∧ 0 ≤ r ∧ n ≤ t.length + 1 := by
  rcases next_cases c t r n h hn with ⟨h1, h2, h3⟩ | ⟨h1, h2⟩
  · subst h2 h3
    exact ⟨by rw [Lib.decodeL_ascii c t h1]; simp, by omega, by omega⟩
  · refine ⟨h2.dec, h2.pos, ?_⟩
    obtain ⟨u, t', e, hl, _⟩ := h2.split
    have := congrArg List.length e
    simp at this; omega

theorem U8.of_bad : ∀ (k p : Nat) (l : List UInt8), Sp.bad k p l = none → U8 l
  | _, _, [], _ => .nil
  | 0, _, _ :: _, h => by simp [Sp.bad] at h
  | k + 1, p, c :: t, h => by
    unfold Sp.bad at h
    obtain ⟨⟨r, n⟩, hrn⟩ : ∃ x, Sp.next (c :: t) = x := ⟨_, rfl⟩
    rw [hrn] at h
    simp only at h
    split at h
    · cases h
    · rename_i hn
      have ih := U8.of_bad k _ _ h
      rcases next_cases c t r n hrn hn with ⟨h1, h2, h3⟩ | ⟨h1, h2⟩
      · subst h3; exact .asc c t h1 ih
      · obtain ⟨u, t', e, hl, hu⟩ := h2.split
        rw [e] at ih ⊢
        rw [← hl, List.drop_left] at ih
        exact .multi u t' hu ih
end Go.Proofs.YtokdclmikllepaaGreatDoor
namespace Go.Proofs.YtokdclmikllepaaGreatDoor
open Go.RowKit
set_option linter.unusedVariables false
set_option linter.unusedSimpArgs false

set_option maxHeartbeats 2000000 in
set_option maxRecDepth 100000 in
theorem wf_calls (x : Nat) (hx : x ≤ 1114111) (w : World) :
    Calls Tryz.prog 150 #[.int .i32 x] w fun e w' => e = .returned (.int .i32 (wf x)) ∧ ∃ q, w' = w.drewN q := by
  by_cases h : x < 128
  · have hd : decide ((x : Int) < 128) = true := by simp; omega
    have hc : (UInt8.ofNat x).toNat = x := by simp; omega
    have hwr : IntKind.u8.wrap (x : Int) = (x : Int) := by simp [IntKind.wrap, IntKind.bits, IntKind.signed]; omega
    have hW := white_calls (UInt8.ofNat x)
    rw [hc] at hW
    cases hb : Sp.white (UInt8.ofNat x) with
    | true =>
      have hwf : wf x = 32 := by
        rw [wf, if_pos]
        simp [Sp.white] at hb; omega
      rw [hb] at hW
      rw [hwf]
      go_enter Tryz.func150, Tryz.ntmps150
      go_wp2_with (go_at_call 88; refine (hW _).mono ?_; rintro e w' ⟨rfl, rfl⟩)
      go_ret
      exact ⟨rfl, 0, rfl⟩
    | false =>
      have hwf : wf x = x := by
        rw [wf, if_neg]
        simp [Sp.white] at hb; omega
      rw [hb] at hW
      rw [hwf]
      go_enter Tryz.func150, Tryz.ntmps150
      go_wp2_with (go_at_call 88; refine (hW _).mono ?_; rintro e w' ⟨rfl, rfl⟩)
      go_ret
      exact ⟨rfl, 0, rfl⟩
  · have hd : decide ((x : Int) < 128) = false := by simp; omega
    have hwf : wf x = x := by
      rw [wf, if_neg]; omega
    rw [hwf]
    go_enter Tryz.func150, Tryz.ntmps150
    go_wp2_with fail
    go_ret
    exact ⟨rfl, 0, rfl⟩

set_option maxHeartbeats 2000000 in
set_option maxRecDepth 100000 in
theorem flat_calls (s : ByteArray) (w : World) (hG : Gl w) (hs : s.size ≤ 65536) (hU : U8 (L s)) :
    Calls Tryz.prog 148 #[.string s] w fun e w' => e = .returned (.string ⟨(Sp.flat true (L s)).toArray⟩) ∧ Below w.heap.size w w' := by
  obtain ⟨m, hm⟩ := hG.mx
  have hll := lines_len (L s)
  rw [L_length] at hll
  have hfl := hU.flat
  have HF := Lib.hid hfl
  clear hfl hU
  go_enter Tryz.func148, Tryz.ntmps148
  go_wp2_with fail
  refine (lines_calls s _ m (by exact hm) hs).mono ?_
  rintro e w1 ⟨rfl, hb⟩
  have hG1 := Lib.hid (hG.below hb)
  have HB := Lib.hid hb
  clear hb hm
  go_wp2_with fail
  refine (Tryz.strings_Map_runes 150 #[] (fun _ _ => rfl) wf ⟨(Sp.lines (L s)).toArray⟩ _ (by rw [mk_len]; omega) (fun W x hx _ => wf_calls x hx W) (fun x hx => by unfold wf; split <;> omega) hG1.out.tabs).mono ?_
  rintro e w2 ⟨rfl, hb2⟩
  have hsz : w.heap.size ≤ w1.heap.size := HB.out.size
  have hb3 := HB.out.trans (hb2.mono hsz)
  go_wp2_with fail
  go_ret
  refine ⟨?_, hb3⟩
  rw [← HF.out]; rfl
end Go.Proofs.YtokdclmikllepaaGreatDoor
