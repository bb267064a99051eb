import Derived.Test.YtokdclmikllepaaGreatDoorKt24
import Derived.Test.YtokdclmikllepaaGreatDoorKt10
import Derived.Deep.DeepCutAuto
namespace Go.Proofs.YtokdclmikllepaaGreatDoor
open Go.RowKit Go.Maps
set_option linter.unusedVariables false
set_option linter.unusedSimpArgs false

def nmAll : Nat → Bool → List UInt8 → Bool
  | _, _, [] => true
  | 0, _, _ :: _ => false
  | k + 1, first, c :: t => if (Sp.next (c :: t)).2 = 0 then false
    else if (Sp.next (c :: t)).1 = 58 ∨ Sp.letter (Sp.next (c :: t)).1 = true ∨ (first = false ∧ Sp.nameRune (Sp.next (c :: t)).1 = true) then nmAll k false ((c :: t).drop (Sp.next (c :: t)).2)
    else false
theorem nmAll_nil (k : Nat) (first : Bool) : nmAll k first [] = true := by cases k <;> rfl
theorem nmAll_step (k : Nat) (first : Bool) (l : List UInt8) (h : l ≠ []) (r : Int) (n : Nat) (hn : Sp.next l = (r, n)) : nmAll (k + 1) first l = if n = 0 then false else if r = 58 ∨ Sp.letter r = true ∨ (first = false ∧ Sp.nameRune r = true) then nmAll k false (l.drop n) else false := by
  cases l with
  | nil => exact absurd rfl h
  | cons c t =>
    have e1 : (Sp.next (c :: t)).1 = r := by rw [hn]
    have e2 : (Sp.next (c :: t)).2 = n := by rw [hn]
    rw [nmAll, e1, e2]
theorem nmAll_is : ∀ (k : Nat) (first : Bool) (l : List UInt8), l.length < k → (nmAll k first l = true ↔ Sp.nameN k first l = l.length) := by
  intro k
  induction k with
  | zero => intro first l h; omega
  | succ k ih =>
    intro first l h
    cases l with
    | nil => simp [nmAll, Sp.nameN]
    | cons c t =>
      obtain ⟨r, n, hn⟩ : ∃ r n, Sp.next (c :: t) = (r, n) := ⟨_, _, rfl⟩
      rw [nmAll_step k first _ (by simp) r n hn, sp_nameN _ _ _ (by simp), hn]
      simp only
      have hle := sp_next_le (c :: t)
      have hpos := sp_next_pos (c :: t)
      rw [hn] at hle hpos
      simp only at hle hpos
      have hd := List.length_drop (i := n) (l := c :: t)
      by_cases hc : r = 58 ∨ (first = false ∧ Sp.nameRune r = true) ∨ Sp.letter r = true
      · have hp : 0 < n := hpos (by rcases hc with h | ⟨_, h⟩ | h <;> simp_all)
        have hc' : r = 58 ∨ Sp.letter r = true ∨ (first = false ∧ Sp.nameRune r = true) := by
          rcases hc with h | h | h
          · exact .inl h
          · exact .inr (.inr h)
          · exact .inr (.inl h)
        rw [if_neg (by omega), if_pos hc', if_pos hc, ih _ _ (by omega)]
        omega
      · have hc' : ¬ (r = 58 ∨ Sp.letter r = true ∨ (first = false ∧ Sp.nameRune r = true)) := by
          rintro (h | h | h)
          · exact hc (.inl h)
          · exact hc (.inr (.inr h))
          · exact hc (.inr (.inl h))
        rw [if_neg hc', if_neg hc]
        split <;> simp
theorem isName_all (l : List UInt8) : Sp.isName l = (!l.isEmpty && nmAll (l.length + 1) true l) := by
  unfold Sp.isName
  rw [Bool.eq_iff_iff]
  simp only [Bool.and_eq_true, decide_eq_true_eq, Bool.not_eq_true', List.isEmpty_eq_false_iff]
  rw [nmAll_is _ _ _ (Nat.lt_succ_self _)]

set_option maxHeartbeats 4000000 in
set_option maxRecDepth 100000 in
theorem tname_calls (s : ByteArray) (w : World) (hs : s.size ≤ 140737488351232) :
    Calls Tryz.prog 112 #[.string s] w fun e w' => e = .returned (.bool (Sp.isName (L s))) ∧ Below w.heap.size w w' := by
  rw [isName_all, L_length]
  obtain ⟨B, hB⟩ : ∃ B, nmAll (s.size + 1) true (L s) = B := ⟨_, rfl⟩
  obtain ⟨b0, hb0⟩ : ∃ b, (L s).isEmpty = b := ⟨_, rfl⟩
  rw [hB, hb0]
  have hte : s.toList.isEmpty = b0 := by rw [toList_L]; exact hb0
  have HB : Hid (nmAll (s.size + 1) (decide (0 = 0)) ((L s).drop 0) = B) := hB
  have HTE := Lib.hid hte
  clear hB hb0 hte
  go_enter Tryz.func112, Tryz.ntmps112
  go_wp2_with fail
  go_loopw [3] (fun i wr => ∃ p k : Nat, p ≤ s.size ∧ s.size - p < k ∧ i = .int .i64 p ∧ Hid (nmAll k (decide (p = 0)) ((L s).drop p) = B) ∧ Hid (Below w.heap.size w wr)) (fun i _ => s.size - (intOf i).toNat)
  case atStart => exact ⟨0, s.size + 1, by omega, by omega, rfl, HB, Below.refl _ _⟩
  case round =>
    clear HB
    obtain ⟨p, k, hp, hk, rfl, HK, hb⟩ := hrel
    by_cases hlt : p < s.size
    · obtain ⟨k, rfl⟩ : ∃ m, k = m + 1 := ⟨k - 1, by omega⟩
      have hle := next_le ((L s).drop p)
      have hbd := next_bd ((L s).drop p)
      rw [List.length_drop, L_length] at hle
      generalize hnx : Sp.next ((L s).drop p) = x at *
      obtain ⟨r, n⟩ := x
      simp only at hle hbd
      have hst := nmAll_step k (decide (p = 0)) _ (drop_ne s p hlt) r n hnx
      have hle1 := hle.1
      have hle2 := hle.2
      have hr0 := hbd.1
      have hr1 := hbd.2
      have HS := Lib.hid hst
      have HN := Lib.hid hnx
      clear hst hnx hle hbd
      have hd : decide ((p : Int) < s.size) = true := by simp; omega
      have hfin : ∀ (b : Bool), B = false → (Ending.returned (.bool false) = .returned (.bool (!b && B))) := fun b h => by rw [h]; simp
      have HFIN := Lib.hid hfin
      clear hfin
      by_cases hn : n = 0
      · subst hn
        have hBf : B = false := by rw [← HK.out, HS.out, if_pos rfl]
        go_wp2_with (go_at_call 85; refine (next_calls s p _ hs (by omega)).mono ?_; rw [HN.out]; rintro e w' ⟨rfl, hb2⟩; have HB2 := Lib.hid (below_then hb.out hb2); clear hb2)
        go_ret
        exact ⟨HFIN.out _ hBf, HB2.out⟩
      · have hn0 : (((n : Nat) : Int) == 0) = false := by rw [beq_eq_false_iff_ne]; omega
        have hnext : (r = 58 ∨ Sp.letter r = true ∨ (decide (p = 0) = false ∧ Sp.nameRune r = true)) → Hid (nmAll k (decide (p + n = 0)) ((L s).drop (p + n)) = B) := fun hc => by
          have h1 := HK.out
          rw [HS.out, if_neg hn, if_pos hc, List.drop_drop] at h1
          have h2 : decide (p + n = 0) = false := by simp; omega
          show _ = _
          rw [h2]; exact h1
        have hfail : ¬ (r = 58 ∨ Sp.letter r = true ∨ (decide (p = 0) = false ∧ Sp.nameRune r = true)) → B = false := fun hc => by
          rw [← HK.out, HS.out, if_neg hn, if_neg hc]
        have HNX := Lib.hid hnext
        have HFL := Lib.hid hfail
        clear hnext hfail
        by_cases h58 : r = 58
        · subst h58
          have hgo := HNX.out (.inl rfl)
          go_wp2_with (go_at_call 85; refine (next_calls s p _ hs (by omega)).mono ?_; rw [HN.out]; rintro e w' ⟨rfl, hb2⟩; have HB2 := Lib.hid (below_then hb.out hb2); clear hb2)
          go_roundw
          case rel => exact ⟨p + n, k, by omega, by omega, by go_num, hgo, HB2⟩
          case measure => simp [intOf]; omega
        · have hr58 : (r != 58) = true := by rw [bne_iff_ne]; exact h58
          cases hl : Sp.letter r with
          | true =>
            have hgo := HNX.out (.inr (.inl hl))
            have HL := Lib.hid hl
            clear hl
            go_wp2_with (first | (go_at_call 85; refine (next_calls s p _ hs (by omega)).mono ?_; rw [HN.out]; rintro e w' ⟨rfl, hb2⟩; have HB2 := Lib.hid (below_then hb.out hb2); clear hb2) | (go_at_call 143; refine (letter_is r true _ (by omega) (by omega) HL.out).mono ?_; rintro e w3 ⟨rfl, hb3⟩; have HB3 := Lib.hid (below_then HB2.out hb3); clear hb3))
            go_roundw
            case rel => exact ⟨p + n, k, by omega, by omega, by go_num, hgo, HB3⟩
            case measure => simp [intOf]; omega
          | false =>
            have HL := Lib.hid hl
            by_cases hp0 : p = 0
            · subst hp0
              have hBf := HFL.out (by rintro (h | h | ⟨h, _⟩); exact h58 h; rw [hl] at h; cases h; exact absurd h (by simp))
              clear hl
              go_wp2_with (first | (go_at_call 85; refine (next_calls s 0 _ hs (by omega)).mono ?_; rw [HN.out]; rintro e w' ⟨rfl, hb2⟩; have HB2 := Lib.hid (below_then hb.out hb2); clear hb2) | (go_at_call 143; refine (letter_is r false _ (by omega) (by omega) HL.out).mono ?_; rintro e w3 ⟨rfl, hb3⟩; have HB3 := Lib.hid (below_then HB2.out hb3); clear hb3))
              go_ret
              exact ⟨HFIN.out _ hBf, HB3.out⟩
            · have hp0' : ((p : Int) == 0) = false := by rw [beq_eq_false_iff_ne]; omega
              cases hnr : Sp.nameRune r with
              | true =>
                have hgo := HNX.out (.inr (.inr ⟨by simp [hp0], hnr⟩))
                have HR := Lib.hid hnr
                clear hl hnr
                go_wp2_with (first | (go_at_call 85; refine (next_calls s p _ hs (by omega)).mono ?_; rw [HN.out]; rintro e w' ⟨rfl, hb2⟩; have HB2 := Lib.hid (below_then hb.out hb2); clear hb2) | (go_at_call 143; refine (letter_is r false _ (by omega) (by omega) HL.out).mono ?_; rintro e w3 ⟨rfl, hb3⟩; have HB3 := Lib.hid (below_then HB2.out hb3); clear hb3) | (go_at_call 144; refine (nameRune_is r true _ (by omega) (by omega) HR.out).mono ?_; rintro e w4 ⟨rfl, hb4⟩; have HB4 := Lib.hid (below_then HB3.out hb4); clear hb4))
                go_roundw
                case rel => exact ⟨p + n, k, by omega, by omega, by go_num, hgo, HB4⟩
                case measure => simp [intOf]; omega
              | false =>
                have hBf := HFL.out (by rintro (h | h | ⟨_, h⟩); exact h58 h; rw [hl] at h; cases h; rw [hnr] at h; cases h)
                have HR := Lib.hid hnr
                clear hl hnr
                go_wp2_with (first | (go_at_call 85; refine (next_calls s p _ hs (by omega)).mono ?_; rw [HN.out]; rintro e w' ⟨rfl, hb2⟩; have HB2 := Lib.hid (below_then hb.out hb2); clear hb2) | (go_at_call 143; refine (letter_is r false _ (by omega) (by omega) HL.out).mono ?_; rintro e w3 ⟨rfl, hb3⟩; have HB3 := Lib.hid (below_then HB2.out hb3); clear hb3) | (go_at_call 144; refine (nameRune_is r false _ (by omega) (by omega) HR.out).mono ?_; rintro e w4 ⟨rfl, hb4⟩; have HB4 := Lib.hid (below_then HB3.out hb4); clear hb4))
                go_ret
                exact ⟨HFIN.out _ hBf, HB4.out⟩
    · have hp' : p = s.size := by omega
      subst hp'
      have hd : decide ((s.size : Int) < s.size) = false := by simp
      have hBt : B = true := by
        rw [← HK.out, List.drop_eq_nil_of_le (by rw [L_length]; omega), nmAll_nil]
      subst hBt
      have hte := HTE.out
      go_wp2_with fail
      go_ret
      refine ⟨?_, hb.out⟩
      simp
end Go.Proofs.YtokdclmikllepaaGreatDoor
namespace Go.Proofs.YtokdclmikllepaaGreatDoor
open Go.RowKit Go.Maps
set_option linter.unusedVariables false
set_option linter.unusedSimpArgs false

theorem bc_step (k p : Nat) (l : List UInt8) (h : l ≠ []) (r : Int) (n : Nat) (hn : Sp.next l = (r, n)) : Sp.badChar (k + 1) p l = if Sp.isChar r = true then Sp.badChar k (p + n) (l.drop n) else some p := by
  cases l with
  | nil => exact absurd rfl h
  | cons c t =>
    have e1 : (Sp.next (c :: t)).1 = r := by rw [hn]
    have e2 : (Sp.next (c :: t)).2 = n := by rw [hn]
    rw [Sp.badChar, e1, e2]
set_option maxHeartbeats 4000000 in
set_option maxRecDepth 100000 in
theorem tchars_calls (s : ByteArray) (w : World) (hs : s.size ≤ 140737488351232) :
    Calls Tryz.prog 113 #[.string s] w fun e w' => e = .returned (.bool (Sp.chars (L s))) ∧ Below w.heap.size w w' := by
  unfold Sp.chars
  rw [L_length]
  obtain ⟨B, hB⟩ : ∃ B, Sp.badChar (s.size + 1) 0 (L s) = B := ⟨_, rfl⟩
  rw [hB]
  have HB : Hid (Sp.badChar (s.size + 1) 0 ((L s).drop 0) = B) := hB
  clear hB
  go_enter Tryz.func113, Tryz.ntmps113
  go_wp2_with fail
  go_loopw [3] (fun i wr => ∃ p k : Nat, p ≤ s.size ∧ s.size - p < k ∧ i = .int .i64 p ∧ Hid (Sp.badChar k p ((L s).drop p) = B) ∧ Hid (Below w.heap.size w wr)) (fun i _ => s.size - (intOf i).toNat)
  case atStart => exact ⟨0, s.size + 1, by omega, by omega, rfl, HB, Below.refl _ _⟩
  case round =>
    clear HB
    obtain ⟨p, k, hp, hk, rfl, HK, hb⟩ := hrel
    by_cases hlt : p < s.size
    · obtain ⟨k, rfl⟩ : ∃ m, k = m + 1 := ⟨k - 1, by omega⟩
      have hle := next_le ((L s).drop p)
      have hbd := next_bd ((L s).drop p)
      have hz := sp_next_zero ((L s).drop p)
      rw [List.length_drop, L_length] at hle
      generalize hnx : Sp.next ((L s).drop p) = x at *
      obtain ⟨r, n⟩ := x
      simp only at hle hbd hz
      have hst := bc_step k p _ (drop_ne s p hlt) r n hnx
      have hle1 := hle.1
      have hle2 := hle.2
      have hr0 := hbd.1
      have hr1 := hbd.2
      have HS := Lib.hid hst
      have HN := Lib.hid hnx
      have hd : decide ((p : Int) < s.size) = true := by simp; omega
      clear hst hnx hle hbd
      by_cases hn : n = 0
      · have hr := hz hn
        subst hn
        have hBf : B = some p := by
          rw [← HK.out, HS.out, hr]
          rfl
        subst hBf
        clear hr hz
        go_wp2_with (go_at_call 85; refine (next_calls s p _ hs (by omega)).mono ?_; rw [HN.out]; rintro e w' ⟨rfl, hb2⟩; have HB2 := Lib.hid (below_then hb.out hb2); clear hb2)
        go_ret
        exact ⟨rfl, HB2.out⟩
      · have hn0 : (((n : Nat) : Int) == 0) = false := by rw [beq_eq_false_iff_ne]; omega
        clear hz
        cases hc : Sp.isChar r with
        | true =>
          have hgo : Hid (Sp.badChar k (p + n) ((L s).drop (p + n)) = B) := by
            have h1 := HK.out
            rw [HS.out, if_pos hc, List.drop_drop] at h1
            exact h1
          have HC := Lib.hid hc
          clear hc
          go_wp2_with (first | (go_at_call 85; refine (next_calls s p _ hs (by omega)).mono ?_; rw [HN.out]; rintro e w' ⟨rfl, hb2⟩; have HB2 := Lib.hid (below_then hb.out hb2); clear hb2) | (go_at_call 48; refine (char_is r true _ (by omega) (by omega) HC.out).mono ?_; rintro e w3 ⟨rfl, hb3⟩; have HB3 := Lib.hid (below_then HB2.out hb3); clear hb3))
          go_roundw
          case rel => exact ⟨p + n, k, by omega, by omega, by go_num, hgo, HB3⟩
          case measure => simp [intOf]; omega
        | false =>
          have hBf : B = some p := by
            rw [← HK.out, HS.out, if_neg (by rw [hc]; simp)]
          subst hBf
          have HC := Lib.hid hc
          clear hc
          go_wp2_with (first | (go_at_call 85; refine (next_calls s p _ hs (by omega)).mono ?_; rw [HN.out]; rintro e w' ⟨rfl, hb2⟩; have HB2 := Lib.hid (below_then hb.out hb2); clear hb2) | (go_at_call 48; refine (char_is r false _ (by omega) (by omega) HC.out).mono ?_; rintro e w3 ⟨rfl, hb3⟩; have HB3 := Lib.hid (below_then HB2.out hb3); clear hb3))
          go_ret
          exact ⟨rfl, HB3.out⟩
    · have hp' : p = s.size := by omega
      subst hp'
      have hd : decide ((s.size : Int) < s.size) = false := by simp
      have hBt : B = none := by
        rw [← HK.out, List.drop_eq_nil_of_le (by rw [L_length]; omega)]
        cases k <;> rfl
      subst hBt
      go_wp2_with fail
      go_ret
      exact ⟨rfl, hb.out⟩

theorem tname_is (s : ByteArray) (w : World) (hs : s.size ≤ 140737488351232) (b : Bool) (h : Sp.isName (L s) = b) : Calls Tryz.prog 112 #[.string s] w fun e w' => e = .returned (.bool b) ∧ Below w.heap.size w w' := h ▸ tname_calls s w hs
theorem tchars_is (s : ByteArray) (w : World) (hs : s.size ≤ 140737488351232) (b : Bool) (h : Sp.chars (L s) = b) : Calls Tryz.prog 113 #[.string s] w fun e w' => e = .returned (.bool b) ∧ Below w.heap.size w w' := h ▸ tchars_calls s w hs
theorem twice_lt (w : World) (v : Value) (l : List Sp.EA) (h : AtsR w v l) (hl : l.length ≤ 100000) (hn : ∀ a ∈ l, a.name.length ≤ 140737488351232) :
    Calls Tryz.prog 109 #[v] w fun e w' => (∃ r : Int, e = .returned (.int .i64 r) ∧ decide (r < 0) = (Sp.twice l).isNone) ∧ Below w.heap.size w w' :=
  (twice_calls w v l h hl hn).mono fun e w' ⟨he, hb⟩ => ⟨⟨_, he, match Sp.twice l with
    | none => rfl
    | some i => by
      show decide ((i : Int) < 0) = false
      rw [decide_eq_false_iff_not]; omega⟩, hb⟩
/-- What holds ahead of the attributes. -/
def mayH (x : Sp.EE) : Bool := Sp.isName x.name && Sp.chars x.text && (Sp.twice x.attrs).isNone
theorem may_split (x : Sp.EE) : Sp.may x = (mayH x && x.attrs.all Sp.mayA) := rfl
def EEBd (x : Sp.EE) : Prop := x.name.length ≤ 1000000 ∧ x.text.length ≤ 1000000 ∧ x.attrs.length ≤ 100000 ∧ ∀ a ∈ x.attrs, a.name.length ≤ 1000000 ∧ a.value.length ≤ 1000000
/-- An element as a value. -/
def eeV (x : Sp.EE) (av : Value) : Value := .agg #[.string ⟨x.name.toArray⟩, av, .string ⟨x.text.toArray⟩, .int .i64 x.up, .int .i64 x.at_]
theorem sz_of {l : List UInt8} {s : ByteArray} (h : (⟨l.toArray⟩ : ByteArray) = s) : s.size = l.length ∧ L s = l := by subst h; exact ⟨by simp [ByteArray.size], rfl⟩
end Go.Proofs.YtokdclmikllepaaGreatDoor
namespace Go.Proofs.YtokdclmikllepaaGreatDoor
open Go.RowKit Go.Maps
set_option linter.unusedVariables false
set_option linter.unusedSimpArgs false

set_option maxHeartbeats 8000000 in
set_option maxRecDepth 100000 in
theorem may_calls (w : World) (x : Sp.EE) (av : Value) (hav : AtsR w av x.attrs) (hb : EEBd x) :
    Calls Tryz.prog 78 #[eeV x av] w fun e w' => e = .returned (.bool (Sp.may x)) ∧ Below w.heap.size w w' := by
  obtain ⟨hb1, hb2, hb3, hb4⟩ := hb
  obtain ⟨m0, hm0⟩ : ∃ b, mayH x = b := ⟨_, rfl⟩
  rw [may_split, hm0]
  unfold eeV
  obtain ⟨nm, hnm⟩ : ∃ s : ByteArray, (⟨x.name.toArray⟩ : ByteArray) = s := ⟨_, rfl⟩
  obtain ⟨tx, htx⟩ : ∃ s : ByteArray, (⟨x.text.toArray⟩ : ByteArray) = s := ⟨_, rfl⟩
  obtain ⟨up, hup⟩ : ∃ i : Int, x.up = i := ⟨_, rfl⟩
  obtain ⟨pl, hpl⟩ : ∃ i : Int, x.at_ = i := ⟨_, rfl⟩
  obtain ⟨hn1, hn2⟩ := sz_of hnm
  obtain ⟨ht1, ht2⟩ := sz_of htx
  rw [hnm, htx, hup, hpl]
  have hns : nm.size ≤ 140737488351232 := by omega
  have hts : tx.size ≤ 140737488351232 := by omega
  obtain ⟨b1, hq1⟩ : ∃ b, Sp.isName (L nm) = b := ⟨_, rfl⟩
  obtain ⟨b2, hq2⟩ : ∃ b, Sp.chars (L tx) = b := ⟨_, rfl⟩
  obtain ⟨b3, hq3⟩ : ∃ b, (Sp.twice x.attrs).isNone = b := ⟨_, rfl⟩
  have hmm : m0 = (b1 && b2 && b3) := by rw [← hm0, mayH, ← hq1, ← hq2, ← hq3, hn2, ht2]
  obtain ⟨na, hna⟩ : ∃ n, x.attrs.length = n := ⟨_, rfl⟩
  have hav' := hav
  obtain ⟨aa, ac, rfl, hac⟩ := hav'
  have HAV := Lib.hid hav
  have HQ1 := Lib.hid hq1
  have HQ2 := Lib.hid hq2
  have HQ3 := Lib.hid hq3
  have HMM := Lib.hid hmm
  have HB4 := Lib.hid hb4
  have HB3 := Lib.hid hb3
  have HNA := Lib.hid hna
  rw [hna]
  have hna2 : na ≤ 100000 := by omega
  have HAC : Hid (∀ j, j < na → ∃ (g o : Nat) (a : Sp.EA) (s t : ByteArray), aa = some ⟨g, o, none⟩ ∧ x.attrs[j]? = some a ∧ L s = a.name ∧ L t = a.value ∧ s.size ≤ 1000000 ∧ t.size ≤ 1000000 ∧ ∀ W, Below w.heap.size w W →
      W.cell? ⟨g, o + j * 3, none⟩ = some (.string s) ∧ W.cell? ⟨g, o + j * 3 + 1, none⟩ = some (.string t) ∧ W.cell? ⟨g, o + j * 3 + 2, none⟩ = some (.int .i64 a.at_)) := fun j hj => by
    obtain ⟨g, o, h1, hg, h2⟩ := hac (by omega)
    obtain ⟨a, ha⟩ : ∃ a, x.attrs[j]? = some a := ⟨x.attrs[j]'(by omega), List.getElem?_eq_getElem (by omega)⟩
    have hbd := hb4 a (List.mem_of_getElem? ha)
    refine ⟨g, o, a, ⟨a.name.toArray⟩, ⟨a.value.toArray⟩, h1, ha, rfl, rfl, by simpa [ByteArray.size] using hbd.1, by simpa [ByteArray.size] using hbd.2, fun W hW => ?_⟩
    have e : ∀ i, W.cell? ⟨g, i, none⟩ = w.cell? ⟨g, i, none⟩ := fun i => World.cell?_of_block (hW.block g hg)
    simp only [e]
    exact h2 j a ha
  clear hm0 hnm htx hup hpl hn1 hn2 ht1 ht2 hq1 hq2 hq3 hmm hna hac hav hb1 hb2 hb3 hb4
  have HBOX := Lib.hid (heap_alloc_new w (.cells #[.string nm, .slice aa na ac, .string tx, .int .i64 up, .int .i64 pl] 53))
  have HBB := Lib.hid ((Below.refl w.heap.size w).alloc (Nat.le_refl _) (.cells #[.string nm, .slice aa na ac, .string tx, .int .i64 up, .int .i64 pl] 53))
  have hsz : w.heap.size < (w.alloc (.cells #[.string nm, .slice aa na ac, .string tx, .int .i64 up, .int .i64 pl] 53)).heap.size := by rw [sz_alloc]; omega
  have HKEEP : Hid (∀ W, Below (w.alloc (.cells #[.string nm, .slice aa na ac, .string tx, .int .i64 up, .int .i64 pl] 53)).heap.size (w.alloc (.cells #[.string nm, .slice aa na ac, .string tx, .int .i64 up, .int .i64 pl] 53)) W →
      Below w.heap.size w W ∧ W.cell? ⟨w.heap.size, 1, none⟩ = some (.slice aa na ac) ∧ W.cell? ⟨w.heap.size, 2, none⟩ = some (.string tx)) := fun W hW => by
    have hx := (hW.block _ hsz).trans HBOX.out
    exact ⟨HBB.out.trans (hW.mono (Nat.le_of_lt hsz)), cell_of_row _ _ 1 _ _ _ hx, cell_of_row _ _ 2 _ _ _ hx⟩
  clear hsz
  have HTW : Hid (∀ W, Below w.heap.size w W → Calls Tryz.prog 109 #[.slice aa na ac] W fun e w' => (∃ r : Int, e = .returned (.int .i64 r) ∧ decide (r < 0) = b3) ∧ Below W.heap.size W w') := fun W hW => by
    have h := twice_lt W _ x.attrs (HAV.out.below hW) HB3.out (fun a ha => by have := (HB4.out a ha).1; omega)
    rw [HNA.out, HQ3.out] at h
    exact h
  go_enter Tryz.func78, Tryz.ntmps78
  go_upto_region 1 with fail
  go_cut [3] (fun s3 wx => s3 = .bool m0 ∧ Hid (Below w.heap.size w wx ∧ wx.cell? ⟨w.heap.size, 1, none⟩ = some (.slice aa na ac)))
  case first =>
    cases b1 with
    | false =>
      obtain rfl : m0 = false := HMM.out
      go_wp2_with (go_at_call 112; refine (tname_is nm _ hns false HQ1.out).mono ?_; rintro e w1 ⟨rfl, h1⟩; have H1 := Lib.hid (HKEEP.out _ h1); clear h1)
      go_meet
      exact ⟨rfl, H1.out.1, H1.out.2.1⟩
    | true =>
      cases b2 with
      | false =>
        obtain rfl : m0 = false := HMM.out
        go_wp2_with (first
          | (go_at_call 112; refine (tname_is nm _ hns true HQ1.out).mono ?_; rintro e w1 ⟨rfl, h1⟩; have H1 := Lib.hid h1; have d2 := (HKEEP.out _ h1).2.2; clear h1)
          | (go_at_call 113; refine (tchars_is tx _ hts false HQ2.out).mono ?_; rintro e w2 ⟨rfl, h2⟩; have H2 := Lib.hid (HKEEP.out _ (below_then H1.out h2)); clear h2))
        go_meet
        exact ⟨rfl, H2.out.1, H2.out.2.1⟩
      | true =>
        obtain rfl : m0 = b3 := HMM.out
        go_wp2_with (first
          | (go_at_call 112; refine (tname_is nm _ hns true HQ1.out).mono ?_; rintro e w1 ⟨rfl, h1⟩; have H1 := Lib.hid h1; have d2 := (HKEEP.out _ h1).2.2; clear h1)
          | (go_at_call 113; refine (tchars_is tx _ hts true HQ2.out).mono ?_; rintro e w2 ⟨rfl, h2⟩; have H2 := Lib.hid (below_then H1.out h2); have d1 := (HKEEP.out _ (below_then H1.out h2)).2.1; clear h2)
          | (go_at_call 109; refine (HTW.out _ (HKEEP.out _ H2.out).1).mono ?_; rintro e w3 ⟨⟨r, rfl, hr⟩, h3⟩; have H3 := Lib.hid (HKEEP.out _ (below_then H2.out h3)); clear h3))
        go_meet
        exact ⟨rfl, H3.out.1, H3.out.2.1⟩
  case rest =>
  obtain ⟨rfl, HR⟩ := hcut
  have HBR := Lib.hid HR.out.1
  have d1 := HR.out.2
  go_wp2_with fail
  go_loopg [23, 3] (na + 1) (fun k i ok wr => ∃ j : Nat, i = .int .i64 j ∧ j ≤ na ∧ na - j < k ∧ ok = .bool (m0 && (x.attrs.take j).all Sp.mayA) ∧ Hid (Below w.heap.size w wr))
  case atStart => exact ⟨0, rfl, Nat.zero_le _, by omega, by simp, HBR⟩
  case round =>
    obtain ⟨j, rfl, hj, hk, rfl, HB⟩ := hrel
    by_cases hlt : j < na
    · have hd : decide ((j : Int) < na) = true := by simp; omega
      have hx0 : (0 : Int) ≤ j := by omega
      have hx1 : (j : Int) < na := by omega
      obtain ⟨g, o, a, s, t, hva, ha, hs1, ht1, hss, hts', hcell⟩ := HAC.out j hlt
      subst hva
      obtain ⟨y0, y1, y2⟩ := hcell wr HB.out
      have hnx : (x.attrs.take (j + 1)).all Sp.mayA = ((x.attrs.take j).all Sp.mayA && (Sp.isName (L s) && Sp.chars (L t))) := by
        rw [List.take_add_one, ha, hs1, ht1]
        simp [List.all_append, Sp.mayA]
      obtain ⟨okj, hok⟩ : ∃ b, (m0 && (x.attrs.take j).all Sp.mayA) = b := ⟨_, rfl⟩
      obtain ⟨c1, hc1⟩ : ∃ b, Sp.isName (L s) = b := ⟨_, rfl⟩
      obtain ⟨c2, hc2⟩ : ∃ b, Sp.chars (L t) = b := ⟨_, rfl⟩
      have hnew : (m0 && (x.attrs.take (j + 1)).all Sp.mayA) = (okj && (c1 && c2)) := by
        rw [hnx, hc1, hc2, ← Bool.and_assoc, hok]
      rw [hok]
      have HNEW := Lib.hid hnew
      have HC1 := Lib.hid hc1
      have HC2 := Lib.hid hc2
      have hs2 : s.size ≤ 140737488351232 := by omega
      have ht2 : t.size ≤ 140737488351232 := by omega
      have HSZ := Lib.hid HB.out.size
      clear hcell hnx hok hc1 hc2 hnew ha hs1 ht1 HAC
      have hkeepA := fun (W : World) (o : Obj) (hW : Below (wr.alloc o).heap.size (wr.alloc o) W) => (HB.out.alloc HB.out.size o).trans (hW.mono (by rw [sz_alloc]; have := HB.out.size; omega))
      have HKA := Lib.hid hkeepA
      clear hkeepA
      cases okj with
      | false =>
        go_wp2_with fail
        go_roundg (gk - 1)
        case measure => omega
        case rel => exact ⟨j + 1, by simp, by omega, by omega, by rw [HNEW.out]; rfl, HB.out.alloc HB.out.size _⟩
      | true =>
        cases c1 with
        | false =>
          go_wp2_with (go_at_call 112; refine (tname_is s _ hs2 false HC1.out).mono ?_; rintro e w1 ⟨rfl, h1⟩; have H1 := Lib.hid (HKA.out _ _ h1); clear h1)
          go_roundg (gk - 1)
          case measure => omega
          case rel => exact ⟨j + 1, by simp, by omega, by omega, by rw [HNEW.out]; rfl, H1⟩
        | true =>
          go_wp2_with (first
            | (go_at_call 112; refine (tname_is s _ hs2 true HC1.out).mono ?_; rintro e w1 ⟨rfl, h1⟩; have H1 := Lib.hid h1; have z1 : w1.cell? ⟨wr.heap.size, 1, none⟩ = some (.string t) := (World.cell?_of_block (h1.block wr.heap.size (by rw [sz_alloc]; omega))).trans (cell_of_row _ _ 1 _ _ _ (heap_alloc_new wr _)); clear h1)
            | (go_at_call 113; refine (tchars_is t _ ht2 c2 HC2.out).mono ?_; rintro e w2 ⟨rfl, h2⟩; have H2 := Lib.hid (HKA.out _ _ (below_then H1.out h2)); clear h2))
          go_roundg (gk - 1)
          case measure => omega
          case rel => exact ⟨j + 1, by simp, by omega, by omega, by rw [HNEW.out]; rfl, H2⟩
    · have hj' : j = na := by omega
      subst hj'
      have hd : decide ((j : Int) < j) = false := by simp
      have htk : (m0 && (x.attrs.take j).all Sp.mayA) = (m0 && x.attrs.all Sp.mayA) := by rw [List.take_of_length_le (by rw [HNA.out]; omega)]
      rw [htk]
      go_wp2_with fail
      go_ret
      exact ⟨rfl, HB.out⟩
end Go.Proofs.YtokdclmikllepaaGreatDoor
