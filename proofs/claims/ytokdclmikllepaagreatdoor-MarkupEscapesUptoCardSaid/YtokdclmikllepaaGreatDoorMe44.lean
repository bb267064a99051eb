import Derived.Test.YtokdclmikllepaaGreatDoorMe42
import Derived.Test.YtokdclmikllepaaGreatDoorMe43
namespace Go.Proofs.YtokdclmikllepaaGreatDoor
open Go.RowKit
set_option linter.unusedVariables false
set_option linter.unusedSimpArgs false

theorem w64 {x : Int} (h0 : -9223372036854775808 ≤ x) (h1 : x ≤ 9223372036854775807) : wrap64 x = x := by unfold wrap64; omega

theorem bt_nat {s : ByteArray} {p : Nat} (hp : p < s.size) : YtokdclmikllepaaGreatDoorW.PrintWords.bt s (p : Int) = (s[p].toNat : Int) := by
  unfold YtokdclmikllepaaGreatDoorW.PrintWords.bt
  rw [dif_pos (by simpa using hp)]
  rfl
theorem check_loop {s : ByteArray} (hs : s.size ≤ 65536) : ∀ (k p f1 f2 q : Nat), p ≤ s.size → s.size - p < k → s.size - p < f1 → s.size - p < f2 → Sp.bad f2 q ((L s).drop p) = none →
    YtokdclmikllepaaGreatDoorP.pavaneref08_Check.l0 k s (p : Int) = some (match Sp.badChar f1 p ((L s).drop p) with | some i => ((i : Int), 81) | none => (0, 0)) := by
  intro k
  induction k with
  | zero => intro p f1 f2 q hp hk; omega
  | succ k ih =>
    intro p f1 f2 q hp hk h1 h2 hb
    rw [YtokdclmikllepaaGreatDoorP.pavaneref08_Check.l0]
    by_cases hlt : p < s.size
    · obtain ⟨f1, rfl⟩ : ∃ m, f1 = m + 1 := ⟨f1 - 1, by omega⟩
      obtain ⟨f2, rfl⟩ : ∃ m, f2 = m + 1 := ⟨f2 - 1, by omega⟩
      rw [if_pos (by omega)]
      have hn : YtokdclmikllepaaGreatDoorP.pavaneref07_Next.f k s (p : Int) = some ((Sp.next ((L s).drop p)).1, ((Sp.next ((L s).drop p)).2 : Int)) := by
        unfold YtokdclmikllepaaGreatDoorP.pavaneref07_Next.f
        rw [if_pos ⟨hs, by omega, by omega⟩]; rfl
      have hle := sp_next_le ((L s).drop p)
      rw [List.length_drop, L_length] at hle
      rw [hn]
      simp only [Option.bind_some, YtokdclmikllepaaGreatDoorP.pavaneref07_Char.f]
      have hd := L_drop s p hlt
      have hb' : (Sp.next ((L s).drop p)).2 ≠ 0 ∧ Sp.bad f2 (q + (Sp.next ((L s).drop p)).2) (((L s).drop p).drop (Sp.next ((L s).drop p)).2) = none := by
        rw [hd] at hb ⊢
        rw [Sp.bad] at hb
        split at hb
        · cases hb
        · rename_i hz; exact ⟨hz, hb⟩
      have hc' : Sp.badChar (f1 + 1) p ((L s).drop p) = if Sp.isChar (Sp.next ((L s).drop p)).1 = true then Sp.badChar f1 (p + (Sp.next ((L s).drop p)).2) (((L s).drop p).drop (Sp.next ((L s).drop p)).2) else some p := by
        rw [hd]; rfl
      rw [hc']
      generalize Sp.next ((L s).drop p) = x at *
      obtain ⟨r, n⟩ := x
      simp only at hle hb' ⊢
      by_cases hch : Sp.isChar r = true
      · rw [if_pos hch, if_pos hch, w64 (by omega) (by omega), List.drop_drop]
        have hb2 := hb'.2
        rw [List.drop_drop] at hb2
        exact ih (p + n) f1 f2 _ (by omega) (by omega) (by omega) (by omega) hb2
      · rw [if_neg hch, if_neg hch]
    · rw [if_neg (by omega), List.drop_eq_nil_of_le (by rw [L_length]; omega)]
      cases f1 <;> rfl

theorem check_f {s : ByteArray} (k : Nat) (hk : s.size < k) : YtokdclmikllepaaGreatDoorP.pavaneref08_Check.f k s = some (
    if 65536 < s.size then ((0 : Int), (3 : Int)) else match Sp.bad (s.size + 1) 0 (L s) with
      | some i => ((i : Int), (71 : Int))
      | none => match Sp.badChar (s.size + 1) 0 (L s) with | some i => ((i : Int), (81 : Int)) | none => ((0 : Int), (0 : Int))) := by
  unfold YtokdclmikllepaaGreatDoorP.pavaneref08_Check.f
  by_cases h : 65536 < s.size
  · rw [if_pos (by omega), if_pos h]
  · rw [if_neg (by omega), if_neg h]
    unfold YtokdclmikllepaaGreatDoorP.pavaneref07_Bad.f
    rw [if_pos (by omega)]
    simp only [Option.bind_some]
    cases hb : Sp.bad (s.size + 1) 0 (L s) with
    | some i => rw [if_neg (by unfold badI; simp only; omega)]; rfl
    | none =>
      rw [if_pos (show badI none = -1 from rfl)]
      have := check_loop (s := s) (by omega) k 0 (s.size + 1) (s.size + 1) 0 (by omega) (by omega) (by omega) (by omega) (by simpa using hb)
      simpa using this

theorem refCheck_is (s : ByteArray) (x c : Int) (w : World) (h : YtokdclmikllepaaGreatDoorP.pavaneref08_Check.f (s.size + 1) s = some (x, c)) :
    Calls Tryz.prog 51 #[.string s] w fun e w' => e = .returned (.agg #[.int .i64 x, .int .i64 c]) ∧ Below w.heap.size w w' := YtokdclmikllepaaGreatDoorP.pavaneref08_Check.calls (s.size + 1) s x c w h
end Go.Proofs.YtokdclmikllepaaGreatDoor
