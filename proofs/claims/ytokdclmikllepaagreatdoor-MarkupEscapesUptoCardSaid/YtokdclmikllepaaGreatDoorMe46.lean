import Derived.Test.YtokdclmikllepaaGreatDoorMe37
import Derived.Test.YtokdclmikllepaaGreatDoorMe44
import Derived.Test.YtokdclmikllepaaGreatDoorMe45
namespace Go.Proofs.YtokdclmikllepaaGreatDoor
open Go.RowKit
set_option linter.unusedVariables false
set_option linter.unusedSimpArgs false

def swp (q : Bool) (c : UInt8) : List UInt8 := match (if q then quoPs else escPs).lookup c with | some r => L r | none => [c]
theorem one_nums (c : UInt8) : strOfNums [(c.toNat : Int)] = ⟨[c].toArray⟩ := by
  unfold strOfNums
  simp
theorem swap_f (k : Nat) (c : UInt8) (q : Bool) : YtokdclmikllepaaGreatDoorP.pavaneref08_swap.f (k + 4) (c.toNat : Int) q = some ⟨(swp q c).toArray⟩ := by
  by_cases h1 : c = 38
  · subst h1; cases q <;> rfl
  by_cases h2 : c = 60
  · subst h2; cases q <;> rfl
  by_cases h3 : c = 62
  · subst h3; cases q <;> rfl
  by_cases h4 : c = 13
  · subst h4; cases q <;> rfl
  by_cases h5 : c = 34
  · subst h5; cases q <;> rfl
  by_cases h6 : c = 9
  · subst h6; cases q <;> rfl
  by_cases h7 : c = 10
  · subst h7; cases q <;> rfl
  have n1 : ¬ ((c.toNat : Int) = 38) := fun e => h1 (UInt8.toNat_inj.1 (show c.toNat = 38 by omega))
  have n2 : ¬ ((c.toNat : Int) = 60) := fun e => h2 (UInt8.toNat_inj.1 (show c.toNat = 60 by omega))
  have n3 : ¬ ((c.toNat : Int) = 62) := fun e => h3 (UInt8.toNat_inj.1 (show c.toNat = 62 by omega))
  have n4 : ¬ ((c.toNat : Int) = 13) := fun e => h4 (UInt8.toNat_inj.1 (show c.toNat = 13 by omega))
  have n5 : ¬ ((c.toNat : Int) = 34) := fun e => h5 (UInt8.toNat_inj.1 (show c.toNat = 34 by omega))
  have n6 : ¬ ((c.toNat : Int) = 9) := fun e => h6 (UInt8.toNat_inj.1 (show c.toNat = 9 by omega))
  have n7 : ¬ ((c.toNat : Int) = 10) := fun e => h7 (UInt8.toNat_inj.1 (show c.toNat = 10 by omega))
  have hl : (if q then quoPs else escPs).lookup c = none := by
    rw [List.lookup_eq_none_iff]
    intro x hx
    rw [bne_iff_ne]
    rintro rfl
    cases q
    · simp only [Bool.false_eq_true, if_false, escPs, List.mem_cons, List.not_mem_nil, or_false] at hx
      rcases hx with rfl | rfl | rfl | rfl <;> simp_all
    · simp only [if_true, quoPs, List.mem_cons, List.not_mem_nil, or_false] at hx
      rcases hx with rfl | rfl | rfl | rfl | rfl | rfl <;> simp_all
  unfold swp
  rw [hl]
  unfold YtokdclmikllepaaGreatDoorP.pavaneref08_swap.f
  rw [if_neg n1, if_neg n2, if_neg n3, YtokdclmikllepaaGreatDoorP.pavaneref08_swap.j0, if_neg (by decide), if_neg n4, if_neg n5, YtokdclmikllepaaGreatDoorP.pavaneref08_swap.j1, if_neg (by decide), if_neg n6, YtokdclmikllepaaGreatDoorP.pavaneref08_swap.j2, if_neg (by decide), if_neg n7, one_nums]
theorem rep_swp (q : Bool) (l : List UInt8) : Sp.rep (if q then quoPs else escPs) l = l.flatMap (swp q) := rfl
def nums (l : List UInt8) : List Int := l.map fun c => (c.toNat : Int)
theorem nums_append (l m : List UInt8) : nums (l ++ m) = nums l ++ nums m := by simp [nums]
theorem nums_str (l : List UInt8) : strOfNums (nums l) = ⟨l.toArray⟩ := by
  unfold strOfNums nums
  simp [Function.comp_def]
theorem bytes_nums (l : List UInt8) : YtokdclmikllepaaGreatDoorW.PrintWords.bytesOf ⟨l.toArray⟩ = nums l := rfl
theorem swp_len (q : Bool) (c : UInt8) : (swp q c).length ≤ 100 := by
  have h := rep_bound (if q then quoPs else escPs) 100 (by cases q <;> decide) (by decide) [c]
  rw [rep_swp] at h
  simpa using h
theorem swps_len (q : Bool) (l : List UInt8) : (l.flatMap (swp q)).length ≤ l.length * 100 := by
  have h := rep_bound (if q then quoPs else escPs) 100 (by cases q <;> decide) (by decide) l
  rw [rep_swp] at h
  exact h
theorem swps_take (q : Bool) (s : ByteArray) (i : Nat) (h : i < s.size) : ((L s).take (i + 1)).flatMap (swp q) = ((L s).take i).flatMap (swp q) ++ swp q s[i] := by
  rw [List.take_add_one, L_get s i h, Option.toList_some, List.flatMap_append]
  simp
theorem mk_sizeL (l : List UInt8) : (⟨l.toArray⟩ : ByteArray).size = l.length := by simp [ByteArray.size]

theorem escape_l (s : ByteArray) (hs : s.size ≤ 6000000) : ∀ (m i : Nat), i + m = s.size → YtokdclmikllepaaGreatDoorP.pavaneref08_Escape.l0 (m + 5) s (nums (((L s).take i).flatMap (swp false))) (i : Int) = some (⟨(Sp.escape (L s)).toArray⟩) := by
  intro m
  induction m with
  | zero =>
    intro i hi
    obtain rfl : i = s.size := by omega
    have hb := swps_len false (L s)
    rw [L_length] at hb
    rw [YtokdclmikllepaaGreatDoorP.pavaneref08_Escape.l0, if_neg (by omega), take_allL]
    rw [nums_str]; rfl
  | succ m ih =>
    intro i hi
    have hlt : i < s.size := by omega
    have hb := swps_len false ((L s).take i)
    rw [List.length_take, L_length] at hb
    have hb2 : (((L s).take i).flatMap (swp false)).length ≤ 600000000 := by omega
    have hsl := swp_len false s[i]
    have hw : wrap64 ((i : Int) + 1) = ((i + 1 : Nat) : Int) := by rw [w64 (by omega) (by omega)]; rfl
    rw [show m + 1 + 5 = (m + 5) + 1 from rfl, YtokdclmikllepaaGreatDoorP.pavaneref08_Escape.l0, if_pos (by omega), if_pos (by omega), bt_nat hlt, show m + 5 = (m + 1) + 4 from rfl, swap_f, Option.bind_some, if_pos (by
      rw [mk_sizeL]
      simp only [nums, List.length_append, List.length_map, List.length_cons, List.length_nil]
      omega), bytes_nums, hw]
    have := ih (i + 1) (by omega)
    rw [swps_take false s i hlt, nums_append] at this
    rw [show (m + 1) + 4 = m + 5 from rfl]
    simpa using this

theorem quote_l (s : ByteArray) (hs : s.size ≤ 6000000) : ∀ (m i : Nat), i + m = s.size → YtokdclmikllepaaGreatDoorP.pavaneref08_Quote.l0 (m + 5) s ([34] ++ nums (((L s).take i).flatMap (swp true))) (i : Int) = some (⟨(Sp.quote (L s)).toArray⟩) := by
  intro m
  induction m with
  | zero =>
    intro i hi
    obtain rfl : i = s.size := by omega
    have hb := swps_len true (L s)
    rw [L_length] at hb
    rw [YtokdclmikllepaaGreatDoorP.pavaneref08_Quote.l0, if_neg (by omega), take_allL]
    rw [if_pos (by simp only [nums, List.length_append, List.length_map, List.length_cons, List.length_nil]; omega)]; exact congrArg some (nums_str (34 :: (L s).flatMap (swp true) ++ [34]) ▸ by simp [nums])
  | succ m ih =>
    intro i hi
    have hlt : i < s.size := by omega
    have hb := swps_len true ((L s).take i)
    rw [List.length_take, L_length] at hb
    have hb2 : (((L s).take i).flatMap (swp true)).length ≤ 600000000 := by omega
    have hsl := swp_len true s[i]
    have hw : wrap64 ((i : Int) + 1) = ((i + 1 : Nat) : Int) := by rw [w64 (by omega) (by omega)]; rfl
    rw [show m + 1 + 5 = (m + 5) + 1 from rfl, YtokdclmikllepaaGreatDoorP.pavaneref08_Quote.l0, if_pos (by omega), if_pos (by omega), bt_nat hlt, show m + 5 = (m + 1) + 4 from rfl, swap_f, Option.bind_some, if_pos (by
      rw [mk_sizeL]
      simp only [nums, List.length_append, List.length_map, List.length_cons, List.length_nil]
      omega), bytes_nums, hw]
    have := ih (i + 1) (by omega)
    rw [swps_take true s i hlt, nums_append] at this
    rw [show (m + 1) + 4 = m + 5 from rfl]
    simpa using this

theorem refEscape_calls (s : ByteArray) (w : World) (hs : s.size ≤ 6000000) : Calls Tryz.prog 26 #[.string s] w fun e w' => e = .returned (.string ⟨(Sp.escape (L s)).toArray⟩) ∧ Below w.heap.size w w' :=
  YtokdclmikllepaaGreatDoorP.pavaneref08_Escape.calls (s.size + 5) s _ w (escape_l s hs s.size 0 (by omega))
theorem refQuote_calls (s : ByteArray) (w : World) (hs : s.size ≤ 6000000) : Calls Tryz.prog 27 #[.string s] w fun e w' => e = .returned (.string ⟨(Sp.quote (L s)).toArray⟩) ∧ Below w.heap.size w w' :=
  YtokdclmikllepaaGreatDoorP.pavaneref08_Quote.calls (s.size + 5) s _ w (quote_l s hs s.size 0 (by omega))
end Go.Proofs.YtokdclmikllepaaGreatDoor
