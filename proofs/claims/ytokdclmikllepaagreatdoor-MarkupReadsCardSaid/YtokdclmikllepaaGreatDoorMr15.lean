import Derived.Test.YtokdclmikllepaaGreatDoorMr14
namespace Go.Proofs.YtokdclmikllepaaGreatDoor
open Go.RowKit
set_option linter.unusedVariables false
set_option linter.unusedSimpArgs false

set_option maxHeartbeats 2000000 in
set_option maxRecDepth 100000 in
theorem refName_calls (s : ByteArray) (p : Nat) (w : World) (hs : s.size ≤ 140737488351232) (hp : p ≤ s.size) :
    Calls Tryz.prog 97 #[.string s, .int .i64 p] w fun e w' => e = .returned (.int .i64 (nm (s.size - p + 1) true s p)) ∧ Below w.heap.size w w' := by
  obtain ⟨q, hq⟩ : ∃ q, nm (s.size - p + 1) true s p = q := ⟨_, rfl⟩
  rw [hq]
  have HQ := Lib.hid hq
  clear hq
  go_enter Tryz.func97, Tryz.ntmps97
  go_wp2_with fail
  go_loopg [1, 6, 7] (s.size + 1) (fun kk i _ _ wr => ∃ p' k : Nat, i = .int .i64 p' ∧ p ≤ p' ∧ p' ≤ s.size ∧ s.size - p' < kk ∧ s.size - p' < k ∧ Hid (nm k (decide (p' = p)) s p' = q) ∧ Hid (Below w.heap.size w wr))
  case atStart => exact ⟨p, s.size - p + 1, rfl, Nat.le_refl _, hp, by omega, by omega, by rw [decide_eq_true rfl]; exact HQ, Below.refl _ _⟩
  case round =>
    obtain ⟨p', k, rfl, hpp, hpe, hkk, hk, HN, HB⟩ := hrel
    by_cases hlt : p' < s.size
    · obtain ⟨k, rfl⟩ : ∃ m, k = m + 1 := ⟨k - 1, by omega⟩
      have hd : decide ((p' : Int) < s.size) = true := by simp; omega
      have hnx := nameN_step k (decide (p' = p)) _ (drop_ne s p' hlt)
      have hle := next_le ((L s).drop p')
      have hbd := next_bd ((L s).drop p')
      have hps := next_pos ((L s).drop p')
      rw [List.length_drop, L_length] at hle
      generalize hX : Sp.next ((L s).drop p') = X at *
      obtain ⟨r, n⟩ := X
      simp only at hnx hle hbd hps
      have hlast : nm (k + 1) (decide (p' = p)) s p' = q := HN.out
      unfold nm at hlast
      rw [hnx] at hlast
      have HX := Lib.hid hX
      clear hX hnx
      obtain ⟨hle1, hle2⟩ := hle
      obtain ⟨hbd1, hbd2⟩ := hbd
      by_cases hyes : r = 58 ∨ (decide (p' = p) = false ∧ Sp.nameRune r = true) ∨ Sp.letter r = true
      · rw [if_pos hyes, List.drop_drop] at hlast
        have hn0 : 0 < n := hps (hyes.imp id (Or.imp And.right id))
        have HL := Lib.hid hlast
        clear hlast hps
        by_cases h58 : r = 58
        · subst h58
          clear hyes
          go_wp2_with (go_at_call 96; refine (refNext_calls s p' _ hs (by omega)).mono ?_; rw [HX.out]; rintro e w' ⟨rfl, hb2⟩)
          go_roundg (gk - 1)
          case measure => omega
          case rel => exact ⟨p' + n, k, by simp, by omega, by omega, by omega, by omega, by rw [decide_eq_false (by omega)]; exact Lib.hid (by unfold nm; rw [Nat.add_assoc]; exact HL.out), below_then HB.out hb2⟩
        · have hb58 : (r != 58) = true := by rw [bne_iff_ne]; exact h58
          have hb58' : (r == 58) = false := by rw [beq_eq_false_iff_ne]; exact h58
          by_cases hl : Sp.letter r = true
          · have HLe := Lib.hid hl
            clear hyes hl
            go_wp2_with (first
              | (go_at_call 96; refine (refNext_calls s p' _ hs (by omega)).mono ?_; rw [HX.out]; rintro e w' ⟨rfl, hb2⟩)
              | (go_at_call 115; refine (refLetter_calls r _).mono ?_; rw [HLe.out]; rintro e w' ⟨rfl, rfl⟩))
            go_roundg (gk - 1)
            case measure => omega
            case rel => exact ⟨p' + n, k, by simp, by omega, by omega, by omega, by omega, by rw [decide_eq_false (by omega)]; exact Lib.hid (by unfold nm; rw [Nat.add_assoc]; exact HL.out), below_then HB.out hb2⟩
          · have hl' : Sp.letter r = false := by simpa using hl
            have HLe := Lib.hid hl'
            obtain ⟨hne, hnr⟩ : p' ≠ p ∧ Sp.nameRune r = true := by
              rcases hyes with h | ⟨h, h2⟩ | h
              · exact absurd h h58
              · exact ⟨by simpa using h, h2⟩
              · exact absurd h hl
            have HNr := Lib.hid hnr
            have hdne : ((p' : Int) == p) = false := by rw [beq_eq_false_iff_ne]; omega
            clear hyes hl hl' hnr
            go_wp2_with (first
              | (go_at_call 96; refine (refNext_calls s p' _ hs (by omega)).mono ?_; rw [HX.out]; rintro e w' ⟨rfl, hb2⟩)
              | (go_at_call 115; refine (refLetter_calls r _).mono ?_; rw [HLe.out]; rintro e w' ⟨rfl, rfl⟩)
              | (go_at_call 116; refine (refNameRune_calls r _).mono ?_; rw [HNr.out]; rintro e w' ⟨rfl, rfl⟩))
            go_roundg (gk - 1)
            case measure => omega
            case rel => exact ⟨p' + n, k, by simp, by omega, by omega, by omega, by omega, by rw [decide_eq_false (by omega)]; exact Lib.hid (by unfold nm; rw [Nat.add_assoc]; exact HL.out), below_then HB.out hb2⟩
      · rw [if_neg hyes] at hlast
        have hpq : p' = q := by omega
        subst hpq
        have h58 : r ≠ 58 := fun h => hyes (.inl h)
        have hb58 : (r != 58) = true := by rw [bne_iff_ne]; exact h58
        have hl' : Sp.letter r = false := by
          cases hx : Sp.letter r with
          | false => rfl
          | true => exact absurd (.inr (.inr hx)) hyes
        have HLe := Lib.hid hl'
        by_cases hne : p' = p
        · subst hne
          clear hyes hl' hps hlast
          go_wp2_with (first
            | (go_at_call 96; refine (refNext_calls s p' _ hs (by omega)).mono ?_; rw [HX.out]; rintro e w' ⟨rfl, hb2⟩)
            | (go_at_call 115; refine (refLetter_calls r _).mono ?_; rw [HLe.out]; rintro e w' ⟨rfl, rfl⟩))
          go_ret
          exact ⟨rfl, below_then HB.out hb2⟩
        · have hnr : Sp.nameRune r = false := by
            cases hx : Sp.nameRune r with
            | false => rfl
            | true => exact absurd (.inr (.inl ⟨decide_eq_false hne, hx⟩)) hyes
          have HNr := Lib.hid hnr
          have hdne : ((p' : Int) == p) = false := by rw [beq_eq_false_iff_ne]; omega
          clear hyes hl' hnr hps hlast
          go_wp2_with (first
            | (go_at_call 96; refine (refNext_calls s p' _ hs (by omega)).mono ?_; rw [HX.out]; rintro e w' ⟨rfl, hb2⟩)
            | (go_at_call 115; refine (refLetter_calls r _).mono ?_; rw [HLe.out]; rintro e w' ⟨rfl, rfl⟩)
            | (go_at_call 116; refine (refNameRune_calls r _).mono ?_; rw [HNr.out]; rintro e w' ⟨rfl, rfl⟩))
          go_ret
          exact ⟨rfl, below_then HB.out hb2⟩
    · have hd : decide ((p' : Int) < s.size) = false := by simp; omega
      have hpq : p' = q := by
        have := HN.out
        unfold nm at this
        rw [List.drop_eq_nil_of_le (by rw [L_length]; omega)] at this
        cases k <;> simpa [Sp.nameN] using this
      subst hpq
      go_wp2_with fail
      go_ret
      exact ⟨rfl, HB.out⟩

/-- A number's rune, told as Go tells it. -/
def numI (base : Nat) (l : List UInt8) : Int :=
  if l = [] ∨ 8 < l.length then -1
  else match Sp.number base 0 l with
    | some n => if Sp.isChar (n : Int) = true then (n : Int) else -1
    | none => -1

theorem number_bd (base : Nat) (hb : base = 10 ∨ base = 16) (l : List UInt8) (n m : Nat) (h : Sp.number base n l = some m) : m < (n + 1) * 16 ^ l.length := by
  induction l generalizing n with
  | nil => simp [Sp.number] at h; subst h; simp
  | cons c t ih =>
    unfold Sp.number at h
    split at h
    · rename_i d hd
      have hd2 : d < 16 ∧ (base = 10 → d < 10) := by
        unfold Sp.digit at hd
        repeat' (split at hd)
        all_goals first | (injection hd with hd; omega) | cases hd
      have := ih _ h
      have h3 : n * base + d + 1 ≤ (n + 1) * 16 := by
        rcases hb with rfl | rfl
        · omega
        · omega
      calc m < (n * base + d + 1) * 16 ^ t.length := this
        _ ≤ ((n + 1) * 16) * 16 ^ t.length := Nat.mul_le_mul_right _ h3
        _ = (n + 1) * 16 ^ (t.length + 1) := by rw [Nat.pow_succ, Nat.mul_assoc, Nat.mul_comm 16]
    · cases h

theorem number_split (base : Nat) : ∀ (l1 l2 : List UInt8) (n : Nat), Sp.number base n (l1 ++ l2) = (Sp.number base n l1).bind fun m => Sp.number base m l2
  | [], l2, n => rfl
  | c :: t, l2, n => by
    simp only [List.cons_append, Sp.number]
    cases Sp.digit base c with
    | none => rfl
    | some d => exact number_split base t l2 _

theorem numI_some {base : Nat} {l : List UInt8} {n : Nat} (h0 : l ≠ []) (h8 : l.length ≤ 8) (h : Sp.number base 0 l = some n) : numI base l = if Sp.isChar (n : Int) = true then (n : Int) else -1 := by
  unfold numI
  rw [if_neg (by rintro (e | e); exact h0 e; omega), h]
theorem numI_none {base : Nat} {l : List UInt8} (h0 : l ≠ []) (h8 : l.length ≤ 8) (h : Sp.number base 0 l = none) : numI base l = -1 := by
  unfold numI
  rw [if_neg (by rintro (e | e); exact h0 e; omega), h]

theorem refDigit_is (c : UInt8) (b : Nat) (o : Option Nat) (w : World) (hb : b = 10 ∨ b = 16) (h : Sp.digit b c = o) :
    Calls Tryz.prog 152 #[.int .u8 (c.toNat : Int), .int .i64 b] w fun e w' => e = .returned (.int .i64 (digI o)) ∧ w = w' := h ▸ refDigit_calls c b w hb

theorem pow_le8 (k : Nat) (h : k ≤ 8) : 16 ^ k ≤ 4294967296 := by
  have := Nat.pow_le_pow_right (n := 16) (by omega) h
  simpa using this

theorem refChar_is (r : Int) (b : Bool) (w : World) (h : Sp.isChar r = b) :
    Calls Tryz.prog 22 #[.int .i32 r] w fun e w' => e = .returned (.bool b) ∧ w = w' := h ▸ refChar_calls r w

set_option maxHeartbeats 4000000 in
set_option maxRecDepth 100000 in
theorem refNumber_calls (s : ByteArray) (b : Nat) (w : World) (hs : s.size ≤ 140737488351232) (hb : b = 10 ∨ b = 16) :
    Calls Tryz.prog 128 #[.string s, .int .i64 b] w fun e w' => e = .returned (.int .i64 (numI b (L s))) ∧ w = w' := by
  by_cases h0 : s.size < 1 ∨ 8 < s.size
  · have hn : numI b (L s) = -1 := by
      unfold numI
      rw [if_pos]
      rcases h0 with h | h
      · exact .inl (List.eq_nil_of_length_eq_zero (by rw [L_length]; omega))
      · exact .inr (by rw [L_length]; exact h)
    rw [hn]
    rcases h0 with h | h
    all_goals
      go_enter Tryz.func128, Tryz.ntmps128
      go_wp2_with fail
      go_ret
      exact ⟨rfl, rfl⟩
  · obtain ⟨x, hx⟩ : ∃ x, numI b (L s) = x := ⟨_, rfl⟩
    have hne : L s ≠ [] := by
      intro e
      have h3 : s.size = 0 := by rw [← L_length, e]; rfl
      omega
    have hl8 : (L s).length ≤ 8 := by rw [L_length]; omega
    rw [hx]
    have HX := Lib.hid hx
    clear hx
    go_enter Tryz.func128, Tryz.ntmps128
    go_wp2_with fail
    go_loopg [5, 6, 7] (s.size + 1) (fun kk n i _ wr => ∃ j m : Nat, i = .int .i64 j ∧ n = .int .i64 m ∧ j ≤ s.size ∧ s.size - j < kk ∧ Hid (Sp.number b 0 ((L s).take j) = some m) ∧ wr = w)
    case atStart => exact ⟨0, 0, rfl, rfl, by omega, by omega, rfl, rfl⟩
    case round =>
      obtain ⟨j, m, rfl, rfl, hj, hk, HM, rfl⟩ := hrel
      have hmb := number_bd b hb _ _ _ HM.out
      have hpw := pow_le8 ((L s).take j).length (Nat.le_trans (by rw [List.length_take]; exact Nat.min_le_right _ _) hl8)
      have hm : m ≤ 4294967296 := by omega
      clear hmb hpw
      by_cases hlt : j < s.size
      · have hd : decide ((j : Int) < s.size) = true := by simp; omega
        have hx0 : (0 : Int) ≤ j := by omega
        have hx1 : (j : Int) < s.size := by omega
        have htk : (L s).take (j + 1) = (L s).take j ++ [s[j]] := by
          rw [List.take_add_one, L_get s j hlt]; rfl
        have hdg := refDigit_is s[j] b
        cases hc : Sp.digit b s[j] with
        | none =>
          have hno : Sp.number b 0 (L s) = none := by
            have e : L s = (L s).take (j + 1) ++ (L s).drop (j + 1) := (List.take_append_drop _ _).symm
            rw [e, htk, List.append_assoc, number_split, HM.out]
            simp only [Option.bind, List.cons_append, List.nil_append, Sp.number, hc]
          have := numI_none hne hl8 hno
          rw [HX.out] at this
          have HD := Lib.hid hc
          clear hc htk hno
          go_wp2_with (go_at_call 152; refine (hdg none _ hb HD.out).mono ?_; simp only [digI]; rintro e w' ⟨rfl, rfl⟩)
          go_ret
          exact ⟨by rw [this]; rfl, rfl⟩
        | some d =>
          have hno : Sp.number b 0 ((L s).take (j + 1)) = some (m * b + d) := by
            rw [htk, number_split, HM.out]
            simp only [Option.bind, Sp.number, hc]
          have hd15 : d ≤ 15 := by
            unfold Sp.digit at hc
            repeat' (split at hc)
            all_goals first | (injection hc with hc; omega) | cases hc
          have HD := Lib.hid hc
          have HNO := Lib.hid hno
          clear hc htk hno
          rcases hb with rfl | rfl
          all_goals
            go_wp2_with (go_at_call 152; refine (hdg (some d) _ (by first | exact .inl rfl | exact .inr rfl) HD.out).mono ?_; simp only [digI]; rintro e w' ⟨rfl, rfl⟩)
            go_roundg (gk - 1)
            case measure => omega
            case rel => exact ⟨j + 1, _, by simp, by first | rfl | simp, by omega, by omega, HNO, rfl⟩
      · have hjs : j = s.size := by omega
        subst hjs
        have hd : decide ((s.size : Int) < s.size) = false := by simp
        have hall : (L s).take s.size = L s := List.take_of_length_le (by rw [L_length]; exact Nat.le_refl _)
        have hnum := HM.out
        rw [hall] at hnum
        have hval := numI_some hne hl8 hnum
        rw [HX.out] at hval
        have hf : 1114111 < m → Sp.isChar (m : Int) = false := fun h => by simp [Sp.isChar, Sp.isRune]; omega
        cases hch : Sp.isChar (m : Int) with
        | true =>
          have hm2 : m ≤ 1114111 := by
            rcases Nat.lt_or_ge 1114111 m with h | h
            · rw [hf h] at hch; cases hch
            · exact h
          rw [if_pos hch] at hval
          have HC := Lib.hid hch
          clear hch hf hall hnum
          go_wp2_with (go_at_call 22; refine (refChar_is m true _ HC.out).mono ?_; rintro e w' ⟨rfl, rfl⟩)
          go_ret
          exact ⟨by rw [hval]; rfl, rfl⟩
        | false =>
          rw [hch, if_neg (by simp)] at hval
          have HC := Lib.hid hch
          clear hch hf hall hnum
          by_cases hm2 : m ≤ 1114111
          · go_wp2_with (go_at_call 22; refine (refChar_is m false _ HC.out).mono ?_; rintro e w' ⟨rfl, rfl⟩)
            go_ret
            exact ⟨by rw [hval]; rfl, rfl⟩
          · go_wp2_with fail
            go_ret
            exact ⟨by first | rfl | (rw [hval]; rfl), rfl⟩

end Go.Proofs.YtokdclmikllepaaGreatDoor
