import Derived.Test.YtokdclmikllepaaGreatDoorMr4
import Derived.Test.YtokdclmikllepaaGreatDoorMr7
import Derived.Test.YtokdclmikllepaaGreatDoorMr12
namespace Go.Proofs.YtokdclmikllepaaGreatDoor
open Go.RowKit
set_option linter.unusedVariables false
set_option linter.unusedSimpArgs false

set_option maxHeartbeats 2000000 in
set_option maxRecDepth 100000 in
theorem refChar_calls (r : Int) (w : World) :
    Calls Tryz.prog 22 #[.int .i32 r] w fun e w' => e = .returned (.bool (Sp.isChar r)) ∧ w = w' := by
  go_enter Tryz.func22, Tryz.ntmps22
  go_wp2_with (go_at_call 59; refine (refRune_calls _ _).mono ?_; rintro e w' ⟨rfl, rfl⟩)
  all_goals
    go_ret
    refine ⟨ret_bool ?_, rfl⟩
    simp only [Sp.isChar]
    generalize Sp.isRune r = b at *
    cases b <;> rw [Bool.eq_iff_iff] <;> simp at * <;> try (first | omega | (simp_all; done) | (simp_all; omega))

set_option maxHeartbeats 2000000 in
set_option maxRecDepth 100000 in
theorem refLetter_calls (r : Int) (w : World) :
    Calls Tryz.prog 115 #[.int .i32 r] w fun e w' => e = .returned (.bool (Sp.letter r)) ∧ w = w' := by
  go_enter Tryz.func115, Tryz.ntmps115
  go_wp2_with (go_at_call 22; refine (refChar_calls _ _).mono ?_; rintro e w' ⟨rfl, rfl⟩)
  all_goals
    go_ret
    refine ⟨ret_bool ?_, rfl⟩
    simp only [Sp.letter]
    generalize Sp.isChar r = b at *
    cases b <;> rw [Bool.eq_iff_iff] <;> simp at * <;> try (first | omega | (simp_all; done) | (simp_all; omega))

set_option maxHeartbeats 2000000 in
set_option maxRecDepth 100000 in
theorem refNameRune_calls (r : Int) (w : World) :
    Calls Tryz.prog 116 #[.int .i32 r] w fun e w' => e = .returned (.bool (Sp.nameRune r)) ∧ w = w' := by
  go_enter Tryz.func116, Tryz.ntmps116
  go_wp2_with (go_at_call 115; refine (refLetter_calls _ _).mono ?_; rintro e w' ⟨rfl, rfl⟩)
  all_goals
    go_ret
    refine ⟨ret_bool ?_, rfl⟩
    simp only [Sp.nameRune] at *
    generalize Sp.letter r = b at *
    cases b <;> rw [Bool.eq_iff_iff] <;> simp at * <;> try (first | omega | (simp_all; done) | (simp_all; omega))

/-- The first i bytes of n at p, read. -/
theorem rr_read (s : ByteArray) (p n i : Nat) (hi : i < n) (hn : p + n ≤ s.size) :
    rrI n 0 (((L s).drop p).take (i + 1)) 0 = if 0 < i then rrI n 0 (((L s).drop p).take i) 0 * 64 + ((s[p + i]'(by omega)).toNat : Int) % 64 else if n = 1 then ((s[p + i]'(by omega)).toNat : Int) else ((s[p + i]'(by omega)).toNat : Int) % 2 ^ (7 - n) := by
  have h1 : ((L s).drop p).take (i + 1) = ((L s).drop p).take i ++ [s[p + i]'(by omega)] := by
    rw [List.take_add_one]
    congr 1
    rw [List.getElem?_drop, List.getElem?_eq_getElem (by rw [L_length]; omega)]
    rfl
  rw [h1, rrI_snoc]
  have : (((L s).drop p).take i).length = i := by rw [List.length_take, List.length_drop, L_length]; omega
  rw [this, Nat.zero_add]

theorem rrI_bd (n : Nat) (hn : n ≤ 4) : ∀ (l : List UInt8), l.length ≤ 4 → 0 ≤ rrI n 0 l 0 ∧ rrI n 0 l 0 < 100000000 := by
  have hm : ∀ (x : Nat) (k : Nat), x < 256 → 1 ≤ k → 0 ≤ (x : Int) % 2 ^ k ∧ (x : Int) % 2 ^ k ≤ 255 := fun x k hx hk => by
    have h2 : (0 : Int) < 2 ^ k := Int.pow_pos (by omega)
    refine ⟨Int.emod_nonneg _ (by omega), ?_⟩
    by_cases h : (x : Int) < 2 ^ k
    · rw [Int.emod_eq_of_lt (by omega) h]; omega
    · have := Int.emod_lt_of_pos (x : Int) h2; omega
  have hf : ∀ c : UInt8, 0 ≤ (if n = 1 then (c.toNat : Int) else (c.toNat : Int) % 2 ^ (7 - n)) ∧ (if n = 1 then (c.toNat : Int) else (c.toNat : Int) % 2 ^ (7 - n)) ≤ 255 := fun c => by
    have hc := c.toNat_lt
    split
    · omega
    · exact hm _ _ hc (by omega)
  intro l hl
  match l, hl with
  | [], _ => exact ⟨by simp [rrI], by simp [rrI]⟩
  | [a], _ =>
    have := hf a
    simp only [rrI, Nat.lt_irrefl, if_false] at *
    omega
  | [a, b], _ =>
    have := hf a
    simp only [rrI, Nat.lt_irrefl, if_false, Nat.zero_add, Nat.lt_succ_self, if_true, Nat.zero_lt_succ] at *
    generalize (if n = 1 then (a.toNat : Int) else (a.toNat : Int) % 2 ^ (7 - n)) = x at *
    omega
  | [a, b, c], _ =>
    have := hf a
    simp only [rrI, Nat.lt_irrefl, if_false, Nat.zero_add, Nat.lt_succ_self, if_true, Nat.zero_lt_succ] at *
    generalize (if n = 1 then (a.toNat : Int) else (a.toNat : Int) % 2 ^ (7 - n)) = x at *
    omega
  | [a, b, c, d], _ =>
    have := hf a
    simp only [rrI, Nat.lt_irrefl, if_false, Nat.zero_add, Nat.lt_succ_self, if_true, Nat.zero_lt_succ] at *
    generalize (if n = 1 then (a.toNat : Int) else (a.toNat : Int) % 2 ^ (7 - n)) = x at *
    omega
  | _ :: _ :: _ :: _ :: _ :: _, h => exact absurd h (by simp)

set_option maxHeartbeats 2000000 in
set_option maxRecDepth 100000 in
theorem refNext_calls (s : ByteArray) (p : Nat) (w : World) (hs : s.size ≤ 140737488351232) (hp2 : p ≤ 1407374883512320) :
    Calls Tryz.prog 96 #[.string s, .int .i64 p] w fun e w' => e = .returned (.tuple #[.int .i32 (Sp.next ((L s).drop p)).1, .int .i64 (Sp.next ((L s).drop p)).2]) ∧ Below w.heap.size w w' := by
  by_cases hp : p < s.size
  · obtain ⟨NX, hNX⟩ : ∃ x, Sp.next ((L s).drop p) = x := ⟨_, rfl⟩
    rw [hNX]
    have HN := Lib.hid hNX
    clear hNX
    have hd0 : decide ((p : Int) < 0) = false := by simp
    have hd1 : decide (s.size ≤ p) = false := by simp; omega
    go_enter Tryz.func96, Tryz.ntmps96
    go_wp2_with fail
    go_loopg [6, 7, 8, 9] 5 (fun k n _ _ _ wr => ∃ m : Nat, n = .int .i64 m ∧ 1 ≤ m ∧ m ≤ 5 ∧ 5 - m < k ∧ Hid (∀ q, 1 ≤ q → q < m → q ≤ ((L s).drop p).length → Sp.put (rr q ((L s).drop p)) ≠ ((L s).drop p).take q) ∧ Hid (Below w.heap.size w wr))
    case atStart => exact ⟨1, rfl, by omega, by omega, by omega, fun q h1 h2 => absurd h1 (by omega), Below.refl _ _⟩
    case round =>
      obtain ⟨n, rfl, h1, h5, hk, HQ, HB⟩ := hrel
      obtain ⟨gO, hgO⟩ : ∃ x, x = gk := ⟨_, rfl⟩
      by_cases h4 : n ≤ 4
      · by_cases hn : p + n ≤ s.size
        · have hd : decide ((n : Int) ≤ (s.size : Int) - (p : Int)) = true := by simp; omega
          go_wp2_with fail
          go_loopg [7, 8, 9] 5 (fun k r i _ wr2 => ∃ j : Nat, i = .int .i64 j ∧ r = .int .i32 (rrI n 0 (((L s).drop p).take j) 0) ∧ j ≤ n ∧ n - j < k ∧ wr2 = wr)
          case atStart => exact ⟨0, rfl, by simp [rrI], by omega, by omega, rfl⟩
          case round =>
            obtain ⟨j, rfl, rfl, hj, hkj, rfl⟩ := hrel
            by_cases hlt : j < n
            · have hrd := rr_read s p n j hlt hn
              have hb1 := rrI_bd n h4 (((L s).drop p).take j) (by rw [List.length_take]; omega)
              have hb2 := rrI_bd n h4 (((L s).drop p).take (j + 1)) (by rw [List.length_take]; omega)
              have hcu := (s[p + j]'(by omega)).toNat_lt
              generalize rrI n 0 (((L s).drop p).take j) 0 = R at *
              generalize hR2 : rrI n 0 (((L s).drop p).take (j + 1)) 0 = R2 at hrd hb2
              have HR2 := Lib.hid hR2
              clear hR2
              by_cases hj0 : j = 0
              · subst hj0
                have hcu0 := s[p].toNat_lt
                have hw : wrap32 ((s[p].toNat : Int)) = (s[p].toNat : Int) := IntWalk.wrap32_in _ (by omega)
                simp only [Nat.add_zero, Nat.lt_irrefl, if_false] at hrd
                by_cases hn1 : n = 1
                · subst hn1
                  simp only [if_true] at hrd
                  go_wp2_with fail
                  go_roundg (gk - 1)
                  case measure => omega
                  case rel => exact ⟨0 + 1, by simp, by rw [HR2.out, hrd], by omega, by omega, rfl⟩
                · have hn3 : n = 2 ∨ n = 3 ∨ n = 4 := by omega
                  rw [if_neg hn1] at hrd
                  rcases hn3 with rfl | rfl | rfl
                  all_goals
                    go_wp2_with fail
                    go_roundg (gk - 1)
                    case measure => omega
                    case rel => exact ⟨0 + 1, by simp, by rw [HR2.out, hrd]; simp [Int.tmod_eq_emod_of_nonneg], by omega, by omega, rfl⟩
              · go_wp2_with fail
                go_roundg (gk - 1)
                case measure => omega
                case rel => exact ⟨j + 1, by simp, by rw [HR2.out, hrd, if_pos (by omega)], by omega, by omega, rfl⟩
            · obtain rfl : j = n := by omega
              have hex : (s.extract p ((p : Int) + j).toNat).toList = ((L s).drop p).take j := by
                rw [toList_L, L_extract]
                congr 1
                omega
              have HEX := Lib.hid hex
              clear hex
              have hrr : rrI j 0 (((L s).drop p).take j) 0 = rr j ((L s).drop p) := rfl
              rw [hrr]
              generalize hR : rr j ((L s).drop p) = R at *
              go_wp2_with fail
              go_cut [66] (fun b wx => b = .bool (decide (Sp.put R = ((L s).drop p).take j)) ∧ Hid (Below w.heap.size w wx))
              case first =>
                have hx0 : (0 : Int) ≤ p := by omega
                have hx1 : (p : Int) ≤ (p : Int) + j := by omega
                have hx2 : (p : Int) + j ≤ s.size := by omega
                have hx3 : IntKind.i64.wrap ((p : Int) + j) = (p : Int) + j := IntWalk.i64_in _ (by omega)
                go_region_with (first
                  | (go_at_call 23; refine (refPut_calls _ _).mono ?_; rintro e w' ⟨v, rfl, hv, hb⟩
                     have hc0 := hv.conv
                     have hc1 := fun n => (hv.drewN n).conv))
                all_goals
                  go_wp2_with fail
                  go_meet
                  refine ⟨?_, ?_⟩
                  · rw [HEX.out]
                    congr 1
                    rw [Bool.eq_iff_iff]
                    simp
                  · have hb' : Below wr.heap.size wr w' := ⟨hb.os, hb.tape, hb.output, hb.size, hb.block⟩
                    first
                      | exact below_then HB.out hb'
                      | exact below_drewN (below_then HB.out hb') _
              case rest =>
                obtain ⟨rfl, HB2⟩ := hcut
                by_cases he : Sp.put R = ((L s).drop p).take j
                · have hde : decide (Sp.put R = ((L s).drop p).take j) = true := decide_eq_true he
                  rw [hde]
                  go_wp2_with fail
                  go_ret2
                  refine ⟨?_, HB2.out⟩
                  have := rr_next j ((L s).drop p) h1 h4 (by rw [List.length_drop, L_length]; omega) (by rw [hR]; exact he)
                  rw [HN.out, hR] at this
                  rw [this]
                  rfl
                · have hde : decide (Sp.put R = ((L s).drop p).take j) = false := decide_eq_false he
                  rw [hde]
                  go_wp2_with fail
                  go_roundg (gO - 1)
                  case measure => omega
                  case rel =>
                    refine ⟨j + 1, by simp, by omega, by omega, by omega, fun q hq1 hq2 hq3 => ?_, HB2⟩
                    by_cases hqj : q = j
                    · subst hqj; rw [hR]; exact he
                    · exact HQ.out q hq1 (by omega) hq3
        · go_wp2_with fail
          go_ret2
          refine ⟨?_, HB.out⟩
          have := rr_none ((L s).drop p) (fun q h1 h2 h3 => HQ.out q h1 (by rw [List.length_drop, L_length] at h3; omega) h3)
          rw [HN.out] at this
          rw [this]
          rfl
      · go_wp2_with fail
        go_ret2
        refine ⟨?_, HB.out⟩
        have := rr_none ((L s).drop p) (fun q h1 h2 h3 => HQ.out q h1 (by omega) h3)
        rw [HN.out] at this
        rw [this]
        rfl
  · go_enter Tryz.func96, Tryz.ntmps96
    go_wp2_with fail
    go_ret2
    refine ⟨?_, Below.refl _ _⟩
    rw [List.drop_eq_nil_of_le (by rw [L_length]; omega)]
    rfl
end Go.Proofs.YtokdclmikllepaaGreatDoor
