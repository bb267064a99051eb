import Derived.Test.YtokdclmikllepaaDoorSpecA
import Derived.Lib.MapLaws
import Derived.Lib.TrimAscii
namespace Go.Proofs.YtokdclmikllepaaDoor
set_option linter.unusedVariables false
set_option linter.unusedSimpArgs false

/-- The bytes of one rune that is no ASCII. -/
structure Chunk (u : List UInt8) : Prop where
  len : 2 ≤ u.length
  hi : ∀ x ∈ u, 128 ≤ x.toNat
  dec : ∃ r : Nat, 128 ≤ r ∧ r ≤ 1114111 ∧ (∀ t, Lib.decodeL (u ++ t) = (r, u.length))
/-- Runes one behind the other. -/
inductive U8 : List UInt8 → Prop
  | nil : U8 []
  | asc (c : UInt8) (t : List UInt8) (hc : c.toNat < 128) (ht : U8 t) : U8 (c :: t)
  | multi (u t : List UInt8) (hu : Chunk u) (ht : U8 t) : U8 (u ++ t)

theorem U8.at_ascii {l : List UInt8} (h : U8 l) : ∀ (a b : List UInt8) (c : UInt8), l = a ++ c :: b → c.toNat < 128 → U8 a ∧ U8 b := by
  induction h with
  | nil => intro a b c h _; cases a <;> cases h
  | asc d t hd ht ih =>
    intro a b c h hc
    cases a with
    | nil => injection h with h1 h2; subst h2; exact ⟨.nil, ht⟩
    | cons x a =>
      injection h with h1 h2
      subst h1
      have := ih a b c h2 hc
      exact ⟨.asc _ _ hd this.1, this.2⟩
  | multi u t hu ht ih =>
    intro a b c h hc
    rcases List.append_eq_append_iff.1 h with ⟨a', h1, h2⟩ | ⟨a', h1, h2⟩
    · subst h1
      have := ih a' b c h2 hc
      exact ⟨.multi _ _ hu this.1, this.2⟩
    · cases a' with
      | nil =>
        rw [List.append_nil] at h1
        subst h1
        have := ih [] b c h2.symm hc
        exact ⟨by have := U8.multi _ _ hu .nil; rwa [List.append_nil] at this, this.2⟩
      | cons y a' =>
        injection h2 with h3 h4
        subst h3
        have := hu.hi c (by rw [h1]; simp)
        omega

theorem U8.cons_tail {c : UInt8} {t : List UInt8} (h : U8 (c :: t)) (hc : c.toNat < 128) : U8 t := (h.at_ascii [] t c rfl hc).2

theorem blank_hi {x : UInt8} (h : 128 ≤ x.toNat) : Sp.blank x = x := by
  have : Sp.white x = false := by simp [Sp.white]; omega
  rw [Sp.blank, this]; simp

/-- What attr's function makes of a rune. -/
def wf (r : Int) : Int := if r = 32 ∨ r = 9 ∨ r = 13 ∨ r = 10 then 32 else r

theorem U8.map_blank {l : List UInt8} (h : U8 l) : Lib.mapD wf l = l.map Sp.blank := by
  induction h with
  | nil => rfl
  | asc c t hc ht ih =>
    rw [Lib.mapD_step wf (c :: t) (by simp), Lib.decodeL_ascii c t hc]
    simp only [List.drop_succ_cons, List.drop_zero, ih, List.map_cons]
    have key : (if 0 ≤ wf (c.toNat : Int) then Lib.encodeRune (wf (c.toNat : Int)) else []) = [Sp.blank c] := by
      by_cases hw : Sp.white c = true
      · have hwf : wf (c.toNat : Int) = 32 := by
          rw [wf, if_pos]
          simp [Sp.white] at hw; omega
        rw [hwf, Sp.blank, if_pos hw]
        rfl
      · have hwf : wf (c.toNat : Int) = (c.toNat : Int) := by
          rw [wf, if_neg]
          simp [Sp.white] at hw; omega
        rw [hwf, Sp.blank, if_neg hw, if_pos (by omega), Lib.encodeRune, Lib.encodeRuneZ_one (by omega) (by omega)]
        simp
    rw [key]; rfl
  | multi u t hu ht ih =>
    obtain ⟨r, hr, hr2, hd⟩ := hu.dec
    have hne : u ++ t ≠ [] := by
      have := hu.len
      cases u with
      | nil => simp at this
      | cons => simp
    have hwf : wf (r : Int) = r := by rw [wf, if_neg (by omega)]
    rw [Lib.mapD_same wf (u ++ t) hne (by rw [hd]; exact hwf) (by rw [hd]; have := hu.len; simp only; omega), hd]
    simp only [List.take_left, List.drop_left, List.map_append, ih]
    congr 1
    have : u.map Sp.blank = u.map id := List.map_congr_left fun x hx => blank_hi (hu.hi x hx)
    rw [this, List.map_id]

theorem lines_hi (u t : List UInt8) (h : ∀ x ∈ u, 128 ≤ x.toNat) : Sp.lines (u ++ t) = u ++ Sp.lines t := by
  induction u with
  | nil => rfl
  | cons c u ih =>
    have hc := h c (by simp)
    have ih := ih fun x hx => h x (by simp [hx])
    show Sp.lines (c :: (u ++ t)) = c :: (u ++ Sp.lines t)
    rw [← ih]
    rw [Sp.lines]
    · intro t' h1 _; subst h1; revert hc; decide
    · intro h1; subst h1; revert hc; decide

theorem U8.lines {l : List UInt8} (h : U8 l) : U8 (Sp.lines l) := by
  induction h with
  | nil => exact .nil
  | asc c t hc ht ih =>
    by_cases h13 : c = 13
    · subst h13
      cases t with
      | nil => exact .asc 10 _ (by decide) .nil
      | cons d t =>
        by_cases h10 : d = 10
        · subst h10
          have e : Sp.lines (13 :: 10 :: t) = Sp.lines (10 :: t) := by
            rw [Sp.lines, Sp.lines]
            · intro t' h1 _; revert h1; decide
            · intro h1; revert h1; decide
          rw [e]; exact ih
        · rw [Sp.lines]
          · exact .asc 10 _ (by decide) ih
          · intro t' h1; injection h1 with h1 h2; exact h10 h1
    · rw [Sp.lines]
      · exact .asc c _ hc ih
      · intro t' h1 h2; exact h13 h1
      · intro h1; exact h13 h1
  | multi u t hu ht ih =>
    rw [lines_hi u t hu.hi]
    exact .multi u _ hu ih

theorem plain_hi (e : UInt8) (he : e.toNat < 128) {x : UInt8} (h : 128 ≤ x.toNat) : Sp.plainB e x = true := by
  have h1 : x ≠ e := by rintro rfl; omega
  have h2 : x ≠ 38 := by rintro rfl; revert h; decide
  have h3 : x ≠ 60 := by rintro rfl; revert h; decide
  simp [Sp.plainB, h1, h2, h3]

theorem while_hi (q : UInt8 → Bool) (u t : List UInt8) (h : ∀ x ∈ u, q x = true) : (u ++ t).takeWhile q = u ++ t.takeWhile q ∧ (u ++ t).dropWhile q = t.dropWhile q := by
  induction u with
  | nil => exact ⟨rfl, rfl⟩
  | cons c u ih =>
    have ih := ih fun x hx => h x (by simp [hx])
    simp only [List.cons_append, List.takeWhile_cons, List.dropWhile_cons, h c (by simp), if_true]
    exact ⟨by rw [ih.1], ih.2⟩

theorem U8.while_ {l : List UInt8} (h : U8 l) (e : UInt8) (he : e.toNat < 128) : U8 (l.takeWhile (Sp.plainB e)) ∧ U8 (l.dropWhile (Sp.plainB e)) := by
  induction h with
  | nil => exact ⟨.nil, .nil⟩
  | asc c t hc ht ih =>
    rw [List.takeWhile_cons, List.dropWhile_cons]
    split
    · exact ⟨.asc c _ hc ih.1, ih.2⟩
    · exact ⟨.nil, .asc c _ hc ht⟩
  | multi u t hu ht ih =>
    have := while_hi (Sp.plainB e) u t fun x hx => plain_hi e he (hu.hi x hx)
    rw [this.1, this.2]
    exact ⟨.multi u _ hu ih.1, ih.2⟩

/-- What attr makes of a piece. -/
theorem U8.flat {l : List UInt8} (h : U8 l) : Lib.mapD wf (Sp.lines l) = Sp.flat true l := by
  rw [h.lines.map_blank]; rfl
end Go.Proofs.YtokdclmikllepaaDoor
