import Derived.Test.YtokdclmikllepaaGreatDoorKt0
import Derived.Lib.Replace
import Derived.Lib.CountLaws
namespace Go.Proofs.YtokdclmikllepaaGreatDoor

def RA (old new s : List UInt8) : List UInt8 := Lib.replaceK old new (Lib.count s old) s

theorem RA_nil (old new : List UInt8) (ho : old ≠ []) : RA old new [] = [] := by
  have hi : Lib.index [] old = -1 := by
    unfold Lib.index
    cases old with
    | nil => exact absurd rfl ho
    | cons => rfl
  unfold RA
  rw [Lib.count_miss hi]
  rfl

theorem RA_pre (old new : List UInt8) (ho : old ≠ []) (b : UInt8) (l : List UInt8) (h : old.isPrefixOf (b :: l) = true) : RA old new (b :: l) = new ++ RA old new ((b :: l).drop old.length) := by
  have hi : Lib.index (b :: l) old = (0 : Nat) := by
    unfold Lib.index
    rw [if_pos h]; rfl
  unfold RA
  rw [Lib.count_hit ho hi, Nat.add_comm, Lib.replaceK_hit _ _ _ _ _ hi]
  simp

theorem RA_not (old new : List UInt8) (ho : old ≠ []) (b : UInt8) (l : List UInt8) (h : old.isPrefixOf (b :: l) = false) : RA old new (b :: l) = b :: RA old new l := by
  have hx : Lib.index (b :: l) old = if Lib.index l old == -1 then -1 else Lib.index l old + 1 := by
    conv => lhs; unfold Lib.index
    rw [if_neg (by rw [h]; simp)]
  have hge := Lib.index_ge l old
  by_cases hm : Lib.index l old = -1
  · rw [if_pos (by rw [hm]; rfl)] at hx
    unfold RA
    rw [Lib.count_miss hx, Lib.count_miss hm]
    rfl
  · have hi : Lib.index l old = ((Lib.index l old).toNat : Nat) := by omega
    generalize (Lib.index l old).toNat = i at hi
    rw [if_neg (by simpa using hm), hi] at hx
    have hx' : Lib.index (b :: l) old = ((i + 1 : Nat) : Int) := hx
    unfold RA
    rw [Lib.count_hit ho hx', Lib.count_hit ho hi, Nat.add_comm 1, Nat.add_comm 1, Lib.replaceK_hit _ _ _ _ _ hx', Lib.replaceK_hit _ _ _ _ _ hi]
    rw [show i + 1 + old.length = (i + old.length) + 1 by omega]
    simp

theorem replaceAll_RA (s old new : List UInt8) (hne : old ≠ new) : Lib.replaceAll s old new = RA old new s := by
  unfold Lib.replaceAll Lib.replace Lib.replaceNum RA
  rw [if_neg (by simpa using hne), if_pos (.inl (by omega))]

def crlf : List UInt8 → List UInt8
  | [] => []
  | 13 :: 10 :: t => 10 :: crlf t
  | c :: t => c :: crlf t

theorem RA_crlf : ∀ (n : Nat) (s : List UInt8), s.length ≤ n → RA [13, 10] [10] s = crlf s := by
  intro n
  induction n with
  | zero =>
    intro s hs
    obtain rfl : s = [] := List.length_eq_zero_iff.1 (by omega)
    exact RA_nil _ _ (by simp)
  | succ n ih =>
    intro s hs
    cases s with
    | nil => exact RA_nil _ _ (by simp)
    | cons b l =>
      cases hp : List.isPrefixOf [13, 10] (b :: l) with
      | false =>
        rw [RA_not _ _ (by simp) _ _ hp, ih l (by simp at hs; omega)]
        conv => rhs; unfold crlf
        split
        · rename_i h; cases h
        · rename_i h; injection h with h1 h2; subst h1 h2; simp [List.isPrefixOf] at hp
        · rename_i _ h; injection h with h1 h2; subst h1 h2; rfl
      | true =>
        obtain ⟨t, ht⟩ := List.isPrefixOf_iff_prefix.1 hp
        rw [← ht]
        have hl : t.length ≤ n := by
          have := congrArg List.length ht
          simp at this hs; omega
        rw [show [13, 10] ++ t = (13 : UInt8) :: 10 :: t from rfl, RA_pre _ _ (by simp) _ _ (by simp [List.isPrefixOf])]
        simp only [List.length_cons, List.length_nil, List.drop_succ_cons, List.drop_zero]
        rw [ih t hl]
        rfl

theorem RA_one (c d : UInt8) (s : List UInt8) : RA [c] [d] s = s.map fun x => if x = c then d else x := by
  induction s with
  | nil => exact RA_nil _ _ (by simp)
  | cons b l ih =>
    by_cases h : b = c
    · subst h
      rw [RA_pre _ _ (by simp) _ _ (by simp [List.isPrefixOf])]
      simp [ih]
    · rw [RA_not _ _ (by simp) _ _ (by simp [List.isPrefixOf]; exact fun e => h e.symm)]
      simp [ih, h]

theorem lines_eq : ∀ (n : Nat) (s : List UInt8), s.length ≤ n → Sp.lines s = (crlf s).map fun x => if x = 13 then 10 else x := by
  intro n
  induction n with
  | zero =>
    intro s hs
    obtain rfl : s = [] := List.length_eq_zero_iff.1 (by omega)
    rfl
  | succ n ih =>
    intro s hs
    unfold Sp.lines
    split
    · rfl
    · rename_i t
      simp only [crlf, List.map_cons]
      rw [ih t (by simp at hs; omega)]
      rfl
    · rename_i t hne
      have : crlf (13 :: t) = 13 :: crlf t := by
        conv => lhs; unfold crlf
        split
        · rename_i h; cases h
        · rename_i h; injection h with h1 h2; exact absurd h2 (hne _)
        · rename_i _ h; injection h with h1 h2; subst h1 h2; rfl
      rw [this, ih t (by simp at hs; omega)]
      rfl
    · rename_i c t h1 h2
      have hc : c ≠ 13 := h2
      have : crlf (c :: t) = c :: crlf t := by
        conv => lhs; unfold crlf
        split
        · rename_i h; cases h
        · rename_i h; injection h with h1 h2; exact absurd h1 hc
        · rename_i _ h; injection h with h1 h2; subst h1 h2; rfl
      rw [this, ih t (by simp at hs; omega)]
      simp [hc]

theorem replaced_lines (s : List UInt8) : Lib.replaceAll (Lib.replaceAll s [13, 10] [10]) [13] [10] = Sp.lines s := by
  rw [replaceAll_RA _ _ _ (by simp), replaceAll_RA _ _ _ (by simp), RA_crlf _ s (Nat.le_refl _), RA_one, lines_eq _ s (Nat.le_refl _)]

theorem crlf_len : ∀ (n : Nat) (s : List UInt8), s.length ≤ n → (crlf s).length ≤ s.length := by
  intro n
  induction n with
  | zero =>
    intro s hs
    obtain rfl : s = [] := List.length_eq_zero_iff.1 (by omega)
    exact Nat.le_refl _
  | succ n ih =>
    intro s hs
    unfold crlf
    split
    · exact Nat.le_refl _
    · rename_i t; have := ih t (by simp at hs; omega); simp; omega
    · rename_i c t _; have := ih t (by simp at hs; omega); simp; omega
theorem lines_len (s : List UInt8) : (Sp.lines s).length ≤ s.length := by
  rw [lines_eq _ s (Nat.le_refl _), List.length_map]; exact crlf_len _ s (Nat.le_refl _)
end Go.Proofs.YtokdclmikllepaaGreatDoor
