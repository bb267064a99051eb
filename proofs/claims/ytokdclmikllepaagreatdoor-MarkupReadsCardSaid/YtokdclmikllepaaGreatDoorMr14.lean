import Derived.Test.YtokdclmikllepaaGreatDoorMr13
namespace Go.Proofs.YtokdclmikllepaaGreatDoor
open Go.RowKit
set_option linter.unusedVariables false
set_option linter.unusedSimpArgs false

set_option maxHeartbeats 1000000 in
set_option maxRecDepth 100000 in
theorem refBad_calls (s : ByteArray) (w : World) (hs : s.size ≤ 140737488351232) :
    Calls Tryz.prog 95 #[.string s] w fun e w' => e = .returned (.int .i64 (badI (Sp.bad (s.size + 1) 0 (L s)))) ∧ Below w.heap.size w w' := by
  obtain ⟨B, hB⟩ : ∃ B, Sp.bad (s.size + 1) 0 (L s) = B := ⟨_, rfl⟩
  rw [hB]
  have HB := Lib.hid hB
  clear hB
  go_enter Tryz.func95, Tryz.ntmps95
  go_wp2_with fail
  go_loopg [3, 4, 5] (s.size + 1) (fun kk i _ _ wr => ∃ p k : Nat, p ≤ s.size ∧ s.size - p < k ∧ s.size - p < kk ∧ i = .int .i64 p ∧ Hid (Sp.bad k p ((L s).drop p) = B) ∧ Hid (Below w.heap.size w wr))
  case atStart => exact ⟨0, s.size + 1, by omega, by omega, by omega, rfl, HB, Below.refl _ _⟩
  case round =>
    obtain ⟨p, k, hp, hk, hkk, rfl, HK, hb⟩ := hrel
    by_cases hlt : p < s.size
    · obtain ⟨k, rfl⟩ : ∃ m, k = m + 1 := ⟨k - 1, by omega⟩
      have hst := bad_step k p _ (drop_ne s p hlt)
      have hle := next_le ((L s).drop p)
      rw [List.length_drop, L_length] at hle
      have hle1 := hle.1
      have hle2 := hle.2
      clear hle
      generalize hnx : Sp.next ((L s).drop p) = x at *
      obtain ⟨r, n⟩ := x
      simp only at hst hle1 hle2
      have HS := Lib.hid hst
      have HN := Lib.hid hnx
      clear hst hnx
      by_cases hn : n = 0
      · subst hn
        go_wp2_with (go_at_call 96; refine (refNext_calls s p _ hs (by omega)).mono ?_; rw [HN.out]; rintro e w' ⟨rfl, hb2⟩)
        go_ret
        refine ⟨?_, below_then hb.out hb2⟩
        have := HS.out.symm.trans HK.out
        simp only [if_true] at this
        rw [← this]
        rfl
      · have hn0 : (((n : Nat) : Int) == 0) = false := by rw [beq_eq_false_iff_ne]; omega
        go_wp2_with (go_at_call 96; refine (refNext_calls s p _ hs (by omega)).mono ?_; rw [HN.out]; rintro e w' ⟨rfl, hb2⟩)
        go_roundg (gk - 1)
        case rel =>
          refine ⟨p + n, k, by omega, by omega, by omega, by go_num, ?_, below_then hb.out hb2⟩
          have := HK.out
          rw [HS.out, if_neg hn, List.drop_drop] at this
          exact this
        case measure => omega
    · have : p = s.size := by omega
      subst this
      go_wp2_with fail
      go_ret
      refine ⟨?_, hb.out⟩
      have := HK.out
      rw [List.drop_eq_nil_of_le (by rw [L_length]; exact Nat.le_refl _)] at this
      rw [← this]
      cases k <;> rfl

set_option maxHeartbeats 1000000 in
theorem refWhite_calls (c : UInt8) (w : World) :
    Calls Tryz.prog 53 #[.int .u8 (c.toNat : Int)] w fun e w' => e = .returned (.bool (Sp.white c)) ∧ w = w' := by
  have hc := c.toNat_lt
  go_enter Tryz.func53, Tryz.ntmps53
  go_wp2_with fail
  all_goals
    go_ret
    refine ⟨ret_bool ?_, rfl⟩
    simp only [Sp.white]
    rw [Bool.eq_iff_iff]; simp; try omega

theorem refWhite_is (c : UInt8) (b : Bool) (w : World) (h : Sp.white c = b) :
    Calls Tryz.prog 53 #[.int .u8 (c.toNat : Int)] w fun e w' => e = .returned (.bool b) ∧ w = w' := h ▸ refWhite_calls c w

theorem prefix_take (k l : List UInt8) : k.isPrefixOf l = (decide (k.length ≤ l.length) && (l.take k.length == k)) := by
  rw [Bool.eq_iff_iff]
  simp only [List.isPrefixOf_iff_prefix, Bool.and_eq_true, decide_eq_true_eq, beq_iff_eq]
  constructor
  · intro h
    exact ⟨h.length_le, (List.prefix_iff_eq_take.1 h).symm⟩
  · rintro ⟨h1, h2⟩
    rw [← h2]
    exact List.take_prefix _ _

set_option maxHeartbeats 1000000 in
set_option maxRecDepth 100000 in
theorem refAt_calls (s t : ByteArray) (p : Nat) (w : World) (hs : s.size ≤ 140737488351232) (hp : p ≤ s.size) (ht : t.size ≤ 140737488351232) :
    Calls Tryz.prog 52 #[.string s, .int .i64 p, .string t] w fun e w' => e = .returned (.bool ((L t).isPrefixOf ((L s).drop p))) ∧ w = w' := by
  have hd0 : decide ((0 : Int) ≤ p) = true := by simp
  have hx0 : (0 : Int) ≤ p := by omega
  have hx1 : (p : Int) ≤ (p : Int) + t.size := by omega
  have hx3 : IntKind.i64.wrap ((p : Int) + t.size) = (p : Int) + t.size := IntWalk.i64_in _ (by omega)
  have hpre := prefix_take (L t) ((L s).drop p)
  rw [List.length_drop, L_length, L_length] at hpre
  rw [hpre]
  clear hpre
  by_cases h : p + t.size ≤ s.size
  · have hx2 : (p : Int) + t.size ≤ s.size := by omega
    have hd1 : decide (t.size ≤ s.size - p) = true := by simp; omega
    have hd2 : decide ((t.size : Int) ≤ (s.size : Int) - p) = true := by simp; omega
    rw [hd1, Bool.true_and]
    go_enter Tryz.func52, Tryz.ntmps52
    go_wp2_with fail
    go_ret
    refine ⟨ret_bool ?_, rfl⟩
    rw [toList_L, toList_L, L_extract]
    congr 2
    omega
  · have hd1 : decide (t.size ≤ s.size - p) = false := by simp; omega
    have hd2 : decide ((t.size : Int) ≤ (s.size : Int) - p) = false := by simp; omega
    rw [hd1, Bool.false_and]
    go_enter Tryz.func52, Tryz.ntmps52
    go_wp2_with fail
    go_ret
    exact ⟨rfl, rfl⟩

set_option maxHeartbeats 2000000 in
set_option maxRecDepth 100000 in
theorem refBlanks_calls (s : ByteArray) (p : Nat) (w : World) (hs : s.size ≤ 140737488351232) (hp : p ≤ s.size) :
    Calls Tryz.prog 99 #[.string s, .int .i64 p] w fun e w' => e = .returned (.int .i64 (bl s p)) ∧ w = w' := by
  obtain ⟨q, hq⟩ : ∃ q, bl s p = q := ⟨_, rfl⟩
  have hqb := bl_le s p hp
  rw [hq] at hqb ⊢
  have HQ := Lib.hid hq
  clear hq
  go_enter Tryz.func99, Tryz.ntmps99
  go_wp2_with fail
  go_loopg [1] (s.size + 1) (fun k i wr => ∃ p' : Nat, i = .int .i64 p' ∧ p ≤ p' ∧ p' ≤ q ∧ s.size - p' < k ∧ Hid (bl s p' = q) ∧ wr = w)
  case atStart => exact ⟨p, rfl, Nat.le_refl _, hqb.1, by omega, HQ, rfl⟩
  case round =>
    obtain ⟨p', rfl, hpp, hpq, hk, HB, rfl⟩ := hrel
    by_cases hlt : p' < s.size
    · have hd : decide ((p' : Int) < s.size) = true := by simp; omega
      have hx0 : (0 : Int) ≤ p' := by omega
      have hx1 : (p' : Int) < s.size := by omega
      cases hw : Sp.white s[p'] with
      | true =>
        have HW := Lib.hid hw
        clear hw
        have hqs := hqb.2
        have hq' := bl_le s (p' + 1) (by omega)
        have hstep := bl_white s p' hlt HW.out
        rw [HB.out] at hstep
        go_wp2_with (go_at_call 53; refine (refWhite_is s[p'] true _ HW.out).mono ?_; rintro e w' ⟨rfl, rfl⟩)
        go_roundg (gk - 1)
        case measure => omega
        case rel => exact ⟨p' + 1, by simp, by omega, by omega, by omega, hstep.symm, rfl⟩
      | false =>
        have HW := Lib.hid hw
        clear hw
        have hpq' : p' = q := (bl_not s p' hlt HW.out).symm.trans HB.out
        subst hpq'
        go_wp2_with (go_at_call 53; refine (refWhite_is s[p'] false _ HW.out).mono ?_; rintro e w' ⟨rfl, rfl⟩)
        go_ret
        exact ⟨rfl, rfl⟩
    · have hpq' : p' = q := (bl_end s p' (by omega)).symm.trans HB.out
      subst hpq'
      have hd : decide ((p' : Int) < s.size) = false := by simp; omega
      go_wp2_with fail
      go_ret
      exact ⟨rfl, rfl⟩

theorem find_step (what l : List UInt8) (c : UInt8) : Sp.find what (c :: l) = if what.isPrefixOf (c :: l) = true then some 0 else (Sp.find what l).map (· + 1) := rfl

/-- What is found from a place on, told as a place. -/
def findAt (s t : ByteArray) (p : Nat) : Int := match Sp.find (L t) ((L s).drop p) with | some i => ((p + i : Nat) : Int) | none => -1

theorem findAt_step (s t : ByteArray) (p : Nat) (hp : p < s.size) : findAt s t p = if (L t).isPrefixOf ((L s).drop p) = true then (p : Int) else findAt s t (p + 1) := by
  have h : Sp.find (L t) ((L s).drop p) = if (L t).isPrefixOf ((L s).drop p) = true then some 0 else (Sp.find (L t) ((L s).drop (p + 1))).map (· + 1) := by
    rw [L_drop s p hp, find_step]
  unfold findAt
  rw [h]
  by_cases hq : (L t).isPrefixOf ((L s).drop p) = true
  · rw [if_pos hq, if_pos hq]; rfl
  · rw [if_neg hq, if_neg hq]
    cases Sp.find (L t) ((L s).drop (p + 1)) with
    | none => rfl
    | some i => simp only [Option.map]; omega

theorem findAt_end (s t : ByteArray) (p : Nat) (ht : 0 < t.size) (hp : s.size < p + t.size) : findAt s t p = -1 := by
  unfold findAt
  cases h : Sp.find (L t) ((L s).drop p) with
  | none => rfl
  | some i =>
    have := find_le _ _ _ h
    rw [L_length, List.length_drop, L_length] at this
    omega

set_option maxHeartbeats 2000000 in
set_option maxRecDepth 100000 in
theorem refFind_calls (s t : ByteArray) (p : Nat) (w : World) (hs : s.size ≤ 140737488351232) (hp : p ≤ s.size) (ht : t.size ≤ 1000) (ht0 : 0 < t.size) :
    Calls Tryz.prog 54 #[.string s, .int .i64 p, .string t] w fun e w' => e = .returned (.int .i64 (findAt s t p)) ∧ w = w' := by
  obtain ⟨q, hq⟩ : ∃ q, findAt s t p = q := ⟨_, rfl⟩
  rw [hq]
  have HQ := Lib.hid hq
  clear hq
  go_enter Tryz.func54, Tryz.ntmps54
  go_wp2_with fail
  go_loopg [7] (s.size + 2) (fun k i wr => ∃ p' : Nat, i = .int .i64 p' ∧ p' ≤ s.size + 1 ∧ s.size + 1 - p' < k ∧ Hid (findAt s t p' = q) ∧ wr = w)
  case atStart => exact ⟨p, rfl, by omega, by omega, HQ, rfl⟩
  case round =>
    obtain ⟨p', rfl, hpp, hk, HB, rfl⟩ := hrel
    by_cases hlt : p' + t.size ≤ s.size
    · have hd : decide ((p' : Int) ≤ (s.size : Int) - t.size) = true := by simp; omega
      have hstep := findAt_step s t p' (by omega)
      cases hw : (L t).isPrefixOf ((L s).drop p') with
      | true =>
        have HW := Lib.hid hw
        rw [hw, if_pos rfl, HB.out] at hstep
        clear hw
        go_wp2_with (go_at_call 52; refine (refAt_calls s t p' _ hs (by omega) (by omega)).mono ?_; rw [HW.out]; rintro e w' ⟨rfl, rfl⟩)
        go_ret
        exact ⟨by rw [hstep]; rfl, rfl⟩
      | false =>
        have HW := Lib.hid hw
        rw [hw, if_neg (by simp), HB.out] at hstep
        clear hw
        go_wp2_with (go_at_call 52; refine (refAt_calls s t p' _ hs (by omega) (by omega)).mono ?_; rw [HW.out]; rintro e w' ⟨rfl, rfl⟩)
        go_roundg (gk - 1)
        case measure => omega
        case rel => exact ⟨p' + 1, by simp, by omega, by omega, hstep.symm, rfl⟩
    · have hd : decide ((p' : Int) ≤ (s.size : Int) - t.size) = false := by simp; omega
      have := findAt_end s t p' ht0 (by omega)
      rw [HB.out] at this
      go_wp2_with fail
      go_ret
      exact ⟨by rw [this]; rfl, rfl⟩

set_option maxHeartbeats 2000000 in
set_option maxRecDepth 100000 in
theorem refMissing_calls (s : ByteArray) (fr p : Nat) (w : World) (hs : s.size ≤ 140737488351232) :
    Calls Tryz.prog 98 #[.string s, .int .i64 fr, .int .i64 p] w fun e w' => e = .returned (.agg #[.int .i64 (Sp.stop fr p ((L s).drop p)).1, .int .i64 (Sp.stop fr p ((L s).drop p)).2]) ∧ Below w.heap.size w w' := by
  by_cases hp : s.size ≤ p
  · have hle : decide ((s.size : Int) ≤ p) = true := by simp; omega
    have hst : Sp.stop fr p ((L s).drop p) = (fr, 84) := by
      rw [Sp.stop, if_pos (List.drop_eq_nil_of_le (by rw [L_length]; exact hp))]
    rw [hst]
    go_enter Tryz.func98, Tryz.ntmps98
    go_wp2_with fail
    refine bodyPost_ret (v := .agg #[.int .i64 fr, .int .i64 84]) ?_ rfl ⟨rfl, (Below.refl _ _).alloc (Nat.le_refl _) _⟩
    simp [results, Tryz.f98, go_sem]
  · have hle : decide ((s.size : Int) ≤ p) = false := by simp; omega
    have hst : Sp.stop fr p ((L s).drop p) = (p, 82) := by
      rw [Sp.stop, if_neg (drop_ne s p (by omega))]
    rw [hst]
    go_enter Tryz.func98, Tryz.ntmps98
    go_wp2_with fail
    refine bodyPost_ret (v := .agg #[.int .i64 p, .int .i64 82]) ?_ rfl ⟨rfl, (Below.refl _ _).alloc (Nat.le_refl _) _⟩
    simp [results, Tryz.f98, go_sem]

def digI (o : Option Nat) : Int := match o with | some i => (i : Int) | none => -1

set_option maxHeartbeats 2000000 in
set_option maxRecDepth 100000 in
theorem refDigit_calls (c : UInt8) (b : Nat) (w : World) (hb : b = 10 ∨ b = 16) :
    Calls Tryz.prog 152 #[.int .u8 (c.toNat : Int), .int .i64 b] w fun e w' => e = .returned (.int .i64 (digI (Sp.digit b c))) ∧ w = w' := by
  have hc := c.toNat_lt
  generalize hcn : c.toNat = n at *
  have hD : digI (Sp.digit b c) = if 48 ≤ n ∧ n ≤ 57 then (n : Int) - 48 else if b = 16 ∧ 97 ≤ n ∧ n ≤ 102 then (n : Int) - 87 else if b = 16 ∧ 65 ≤ n ∧ n ≤ 70 then (n : Int) - 55 else -1 := by
    unfold Sp.digit
    rw [hcn]
    repeat' split
    all_goals simp only [digI]
    all_goals omega
  rw [hD]
  have HD := hD
  clear hD HD
  rcases hb with rfl | rfl
  all_goals
    go_enter Tryz.func152, Tryz.ntmps152
    go_wp2_with fail
    all_goals
      go_ret
      refine ⟨?_, rfl⟩
      simp
      try omega

end Go.Proofs.YtokdclmikllepaaGreatDoor
