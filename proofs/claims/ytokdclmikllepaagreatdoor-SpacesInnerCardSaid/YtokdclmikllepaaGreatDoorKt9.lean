import Derived.Test.YtokdclmikllepaaGreatDoorKt7
namespace Go.Proofs.YtokdclmikllepaaGreatDoor
open Go.RowKit
set_option linter.unusedVariables false
set_option linter.unusedSimpArgs false

/-- What strconv.ParseUint makes of digits, to 32 bits. -/
inductive PR where
  | ok (n : Nat)
  | syn
  | rng

def pu (b : Nat) : Nat → List UInt8 → PR
  | n, [] => .ok n
  | n, c :: t => match Sp.digit b c with
    | none => .syn
    | some d => if 4294967295 < n * b + d then .rng else pu b (n * b + d) t

def prVal : PR → Value
  | .ok n => .tuple #[.int .u64 n, .nilIface]
  | .syn => .tuple #[.int .u64 0, .iface 247 (.int .i64 2)]
  | .rng => .tuple #[.int .u64 4294967295, .iface 247 (.int .i64 1)]

/-- A byte's digit: a decimal one, a letter, or none. -/
theorem lower_is (c : Int) (lo : Nat) (w : World) (h : bits BinOp.or IntKind.u8 c 32 = (lo : Int)) :
    Calls Tryz.prog 207 #[.int .u8 c] w fun e w' => e = .returned (.int .u8 lo) ∧ w' = w := h ▸ Tryz.internal_strconv_lower c w

theorem pu_step (b m : Nat) (s : ByteArray) (k : Nat) (h : k < s.size) (R : PR) (hp : pu b m ((L s).drop k) = R) (d : Nat) (hd : Sp.digit b s[k] = some d) :
    (4294967295 < m * b + d → R = .rng) ∧ (m * b + d ≤ 4294967295 → pu b (m * b + d) ((L s).drop (k + 1)) = R) := by
  rw [L_drop s k h, pu, hd] at hp
  refine ⟨fun h1 => ?_, fun h1 => ?_⟩
  · rw [← hp]; simp only [if_pos h1]
  · rw [← hp]; simp only [if_neg (show ¬ 4294967295 < m * b + d by omega)]
theorem pu_none (b m : Nat) (s : ByteArray) (k : Nat) (h : k < s.size) (R : PR) (hp : pu b m ((L s).drop k) = R) (hd : Sp.digit b s[k] = none) : R = .syn := by
  rw [L_drop s k h, pu, hd] at hp
  exact hp.symm
theorem ret_pr {R R' : PR} (h : R = R') : Ending.returned (prVal R') = .returned (prVal R) := by rw [h]

theorem digit_cases (b : Nat) (hb : b = 10 ∨ b = 16) (c : UInt8) :
    (48 ≤ c.toNat ∧ c.toNat ≤ 57 ∧ Sp.digit b c = some (c.toNat - 48) ∧ c.toNat - 48 < b) ∨
    (∃ lo : Nat, (c.toNat < 48 ∨ 57 < c.toNat) ∧ bits BinOp.or IntKind.u8 (c.toNat : Int) 32 = (lo : Int) ∧ 97 ≤ lo ∧ lo ≤ 122 ∧ c.toNat ≠ 95 ∧ ((Sp.digit b c = some (lo - 87) ∧ lo - 87 < b) ∨ (Sp.digit b c = none ∧ b ≤ lo - 87))) ∨
    (∃ lo : Nat, (c.toNat < 48 ∨ 57 < c.toNat) ∧ bits BinOp.or IntKind.u8 (c.toNat : Int) 32 = (lo : Int) ∧ (lo < 97 ∨ 122 < lo) ∧ Sp.digit b c = none) := by
  by_cases h : 48 ≤ c.toNat ∧ c.toNat ≤ 57
  · exact .inl ⟨h.1, h.2, by rw [Sp.digit, if_pos h], by omega⟩
  have htab : ∀ n : Fin 256, ∃ lo : Fin 256, bits BinOp.or IntKind.u8 ((n : Nat) : Int) 32 = ((lo : Nat) : Int) ∧
      ((97 ≤ (n : Nat) ∧ (n : Nat) ≤ 122 ∧ (lo : Nat) = n) ∨ (65 ≤ (n : Nat) ∧ (n : Nat) ≤ 90 ∧ (lo : Nat) = n + 32) ∨ (¬ (97 ≤ (n : Nat) ∧ (n : Nat) ≤ 122) ∧ ¬ (65 ≤ (n : Nat) ∧ (n : Nat) ≤ 90) ∧ ((lo : Nat) < 97 ∨ 122 < (lo : Nat)))) := by decide +kernel
  obtain ⟨lo, hlo, hc⟩ := htab ⟨c.toNat, c.toNat_lt⟩
  simp only at hlo hc
  have hno : c.toNat < 48 ∨ 57 < c.toNat := by omega
  rcases hc with ⟨h1, h2, h3⟩ | ⟨h1, h2, h3⟩ | ⟨h1, h2, h3⟩
  · refine .inr (.inl ⟨lo, hno, hlo, by omega, by omega, by omega, ?_⟩)
    rw [Sp.digit, if_neg h]
    rcases hb with rfl | rfl
    · right; rw [if_neg (by omega), if_neg (by omega)]; exact ⟨rfl, by omega⟩
    · by_cases h4 : c.toNat ≤ 102
      · left; rw [if_pos ⟨rfl, h1, h4⟩]; exact ⟨by rw [h3], by omega⟩
      · right; rw [if_neg (by omega), if_neg (by omega)]; exact ⟨rfl, by omega⟩
  · refine .inr (.inl ⟨lo, hno, hlo, by omega, by omega, by omega, ?_⟩)
    rw [Sp.digit, if_neg h]
    rcases hb with rfl | rfl
    · right; rw [if_neg (by omega), if_neg (by omega)]; exact ⟨rfl, by omega⟩
    · by_cases h4 : c.toNat ≤ 70
      · left; rw [if_neg (by omega), if_pos ⟨rfl, h1, h4⟩]; exact ⟨by rw [h3]; exact congrArg some (by omega), by omega⟩
      · right; rw [if_neg (by omega), if_neg (by omega)]; exact ⟨rfl, by omega⟩
  · refine .inr (.inr ⟨lo, hno, hlo, h3, ?_⟩)
    rw [Sp.digit, if_neg h, if_neg (by omega), if_neg (by omega)]

set_option maxHeartbeats 4000000 in
set_option maxRecDepth 100000 in
theorem puI_16 (s : ByteArray) (w : World) (hs : s.size ≤ 65536) (hne : 0 < s.size) :
    Calls Tryz.prog 191 #[.string s, .int .i64 16, .int .i64 32] w fun e w' => e = .returned (prVal (pu 16 0 (L s))) ∧ Below w.heap.size w w' := by
  have hcv := fun (W : World) (x : ByteArray) => Lib.run_convert_string_bytes (P := Tryz.prog) W 9 36 5 x Tryz.underlying9 Tryz.underlying36 Tryz.underlying5
  have hse : s.toList.isEmpty = false := by
    rw [toList_L]
    cases h : L s with
    | nil => have h2 := L_length s; rw [h] at h2; simp at h2; omega
    | cons => rfl
  have hcell : ∀ k (h : k < s.size), (Lib.bytesWorld w 5 s).cell? ⟨w.heap.size, k, none⟩ = some (.int .u8 (s[k].toNat : Int)) := fun k hk => by
    rw [Lib.bytesWorld_cell _ _ _ _ hk, List.getD_eq_getElem?_getD, show s.data.toList[k]? = some s[k] from L_get s k hk]
    rfl
  have hbw : Below w.heap.size w (Lib.bytesWorld w 5 s) :=
    ⟨rfl, rfl, rfl, by rw [Lib.bytesWorld_size]; omega, fun i hi => Lib.bytesWorld_at_old w _ _ i hi⟩
  obtain ⟨R, hR⟩ : ∃ R, pu 16 0 (L s) = R := ⟨_, rfl⟩
  rw [hR]
  have HR := Lib.hid hR
  have HC := Lib.hid hcell
  clear hR hcell
  go_enter Tryz.func191, Tryz.ntmps191
  go_wp2_with fail
  go_loop [12, 13, 101] (fun z n i => ∃ k m : Nat, k ≤ s.size ∧ m ≤ 4294967295 ∧ z = .bool false ∧ i = .int .i64 k ∧ n = .int .u64 m ∧ Hid (pu 16 m ((L s).drop k) = R)) (fun _ _ i => s.size - (intOf i).toNat)
  case atStart => exact ⟨0, 0, Nat.zero_le _, by omega, rfl, rfl, rfl, HR⟩
  case round =>
    obtain ⟨k, m, hk, hm, rfl, rfl, rfl, HP⟩ := hrel
    by_cases hlt : k < s.size
    · have hce := HC.out k hlt
      have hcu : s[k].toNat < 256 := s[k].toNat_lt
      obtain ⟨M, hM, hM0, hM1⟩ : ∃ M : Int, (m : Int) = M ∧ 0 ≤ M ∧ M ≤ 4294967295 := ⟨m, rfl, by omega, by omega⟩
      have hcut : decide ((1152921504606846976 : Int) ≤ M) = false := by rw [decide_eq_false_iff_not]; omega
      rcases digit_cases 16 (.inr rfl) s[k] with ⟨h1, h2, hd, hdb⟩ | ⟨lo, hno, hb, hl1, hl2, h95, hd⟩ | ⟨lo, hno, hb, hl, hd⟩
      · obtain ⟨hr1, hr2⟩ := pu_step 16 m s k hlt R HP.out _ hd
        by_cases hov : 4294967295 < m * 16 + (s[k].toNat - 48)
        · have HRR := Lib.hid (hr1 hov)
          have ho1 : decide (M * 16 + ((s[k].toNat : Int) - 48) < M * 16) = false := by rw [decide_eq_false_iff_not]; omega
          have ho2 : decide ((4294967295 : Int) < M * 16 + ((s[k].toNat : Int) - 48)) = true := by rw [decide_eq_true_eq]; omega
          rw [hM]
          clear hr1 hr2 hov hd hm hM
          go_wp2_with fail
          go_ret2
          exact ⟨ret_pr HRR.out, hbw⟩
        · have hr3 := hr2 (by omega)
          have HRR := Lib.hid hr3
          have ho1 : decide (M * 16 + ((s[k].toNat : Int) - 48) < M * 16) = false := by rw [decide_eq_false_iff_not]; omega
          have ho2 : decide ((4294967295 : Int) < M * 16 + ((s[k].toNat : Int) - 48)) = false := by rw [decide_eq_false_iff_not]; omega
          have hN : M * 16 + ((s[k].toNat : Int) - 48) = ((m * 16 + (s[k].toNat - 48) : Nat) : Int) := by omega
          have HN := Lib.hid hN
          have hmx : m * 16 + (s[k].toNat - 48) ≤ 4294967295 := by omega
          have HMX := Lib.hid hmx
          rw [hM]
          clear hr1 hr2 hr3 hov hd hm hM hN hmx
          go_wp2_with fail
          go_round
          case rel => exact ⟨k + 1, _, by omega, HMX.out, rfl, by go_num, by rw [HN.out], HRR⟩
          case measure => simp [intOf]; omega
      · have HB := Lib.hid hb
        have hb95 : ((s[k].toNat : Int) == 95) = false := by rw [beq_eq_false_iff_ne]; omega
        clear hb h95
        rcases hd with ⟨hd, hdb⟩ | ⟨hd, hdb⟩
        · obtain ⟨hr1, hr2⟩ := pu_step 16 m s k hlt R HP.out _ hd
          have hlo : (lo : Int) < 103 := by omega
          by_cases hov : 4294967295 < m * 16 + (lo - 87)
          · have HRR := Lib.hid (hr1 hov)
            have ho1 : decide (M * 16 + ((lo : Int) - 97 + 10) < M * 16) = false := by rw [decide_eq_false_iff_not]; omega
            have ho2 : decide ((4294967295 : Int) < M * 16 + ((lo : Int) - 97 + 10)) = true := by rw [decide_eq_true_eq]; omega
            rw [hM]
            clear hr1 hr2 hov hd hm hM hdb
            rcases hno with hno | hno
            all_goals
              go_wp2_with (go_at_call 207; refine (lower_is _ lo _ HB.out).mono ?_; rintro e w' ⟨rfl, rfl⟩)
              go_ret2
              exact ⟨ret_pr HRR.out, hbw⟩
          · have hr3 := hr2 (by omega)
            have HRR := Lib.hid hr3
            have ho1 : decide (M * 16 + ((lo : Int) - 97 + 10) < M * 16) = false := by rw [decide_eq_false_iff_not]; omega
            have ho2 : decide ((4294967295 : Int) < M * 16 + ((lo : Int) - 97 + 10)) = false := by rw [decide_eq_false_iff_not]; omega
            have hN : M * 16 + ((lo : Int) - 97 + 10) = ((m * 16 + (lo - 87) : Nat) : Int) := by omega
            have HN := Lib.hid hN
            have hmx : m * 16 + (lo - 87) ≤ 4294967295 := by omega
            have HMX := Lib.hid hmx
            rw [hM]
            clear hr1 hr2 hr3 hov hd hm hM hN hmx hdb
            rcases hno with hno | hno
            all_goals
              go_wp2_with (go_at_call 207; refine (lower_is _ lo _ HB.out).mono ?_; rintro e w' ⟨rfl, rfl⟩)
              go_round
              case rel => exact ⟨k + 1, _, by omega, HMX.out, rfl, by go_num, by rw [HN.out], HRR⟩
              case measure => simp [intOf]; omega
        · have HRR := Lib.hid (pu_none 16 m s k hlt R HP.out hd)
          have hlo : 103 ≤ (lo : Int) := by omega
          rw [hM]
          clear hd hm hM hdb
          rcases hno with hno | hno
          all_goals
            go_wp2_with (go_at_call 207; refine (lower_is _ lo _ HB.out).mono ?_; rintro e w' ⟨rfl, rfl⟩)
            go_ret2
            exact ⟨ret_pr HRR.out, hbw⟩
      · have HB := Lib.hid hb
        obtain ⟨y, hy⟩ : ∃ y : Bool, ((s[k].toNat : Int) == 95) = y := ⟨_, rfl⟩
        clear hb
        have HRR := Lib.hid (pu_none 16 m s k hlt R HP.out hd)
        rw [hM]
        clear hd hm hM
        rcases hno with hno | hno
        all_goals
          rcases hl with hl | hl
          all_goals
            cases y
            all_goals
              go_wp2_with (go_at_call 207; refine (lower_is _ lo _ HB.out).mono ?_; rintro e w' ⟨rfl, rfl⟩)
              go_ret2
              exact ⟨ret_pr HRR.out, hbw⟩
    · have hk' : k = s.size := by omega
      subst hk'
      have hRR : R = .ok m := by
        have := HP.out
        rw [List.drop_eq_nil_of_le (by rw [L_length]; exact Nat.le_refl _)] at this
        exact this.symm
      have HRR := Lib.hid hRR
      clear hRR
      go_wp2_with fail
      go_ret2
      exact ⟨ret_pr HRR.out, hbw⟩
end Go.Proofs.YtokdclmikllepaaGreatDoor
namespace Go.Proofs.YtokdclmikllepaaGreatDoor
open Go.RowKit
set_option linter.unusedVariables false
set_option linter.unusedSimpArgs false

set_option maxHeartbeats 4000000 in
set_option maxRecDepth 100000 in
theorem puI_10 (s : ByteArray) (w : World) (hs : s.size ≤ 65536) (hne : 0 < s.size) :
    Calls Tryz.prog 191 #[.string s, .int .i64 10, .int .i64 32] w fun e w' => e = .returned (prVal (pu 10 0 (L s))) ∧ Below w.heap.size w w' := by
  have hcv := fun (W : World) (x : ByteArray) => Lib.run_convert_string_bytes (P := Tryz.prog) W 9 36 5 x Tryz.underlying9 Tryz.underlying36 Tryz.underlying5
  have hse : s.toList.isEmpty = false := by
    rw [toList_L]
    cases h : L s with
    | nil => have h2 := L_length s; rw [h] at h2; simp at h2; omega
    | cons => rfl
  have hcell : ∀ k (h : k < s.size), (Lib.bytesWorld w 5 s).cell? ⟨w.heap.size, k, none⟩ = some (.int .u8 (s[k].toNat : Int)) := fun k hk => by
    rw [Lib.bytesWorld_cell _ _ _ _ hk, List.getD_eq_getElem?_getD, show s.data.toList[k]? = some s[k] from L_get s k hk]
    rfl
  have hbw : Below w.heap.size w (Lib.bytesWorld w 5 s) :=
    ⟨rfl, rfl, rfl, by rw [Lib.bytesWorld_size]; omega, fun i hi => Lib.bytesWorld_at_old w _ _ i hi⟩
  obtain ⟨R, hR⟩ : ∃ R, pu 10 0 (L s) = R := ⟨_, rfl⟩
  rw [hR]
  have HR := Lib.hid hR
  have HC := Lib.hid hcell
  clear hR hcell
  go_enter Tryz.func191, Tryz.ntmps191
  go_wp2_with fail
  go_loop [12, 13, 101] (fun z n i => ∃ k m : Nat, k ≤ s.size ∧ m ≤ 4294967295 ∧ z = .bool false ∧ i = .int .i64 k ∧ n = .int .u64 m ∧ Hid (pu 10 m ((L s).drop k) = R)) (fun _ _ i => s.size - (intOf i).toNat)
  case atStart => exact ⟨0, 0, Nat.zero_le _, by omega, rfl, rfl, rfl, HR⟩
  case round =>
    obtain ⟨k, m, hk, hm, rfl, rfl, rfl, HP⟩ := hrel
    by_cases hlt : k < s.size
    · have hce := HC.out k hlt
      have hcu : s[k].toNat < 256 := s[k].toNat_lt
      obtain ⟨M, hM, hM0, hM1⟩ : ∃ M : Int, (m : Int) = M ∧ 0 ≤ M ∧ M ≤ 4294967295 := ⟨m, rfl, by omega, by omega⟩
      have hcut : decide ((1844674407370955162 : Int) ≤ M) = false := by rw [decide_eq_false_iff_not]; omega
      rcases digit_cases 10 (.inl rfl) s[k] with ⟨h1, h2, hd, hdb⟩ | ⟨lo, hno, hb, hl1, hl2, h95, hd⟩ | ⟨lo, hno, hb, hl, hd⟩
      · obtain ⟨hr1, hr2⟩ := pu_step 10 m s k hlt R HP.out _ hd
        by_cases hov : 4294967295 < m * 10 + (s[k].toNat - 48)
        · have HRR := Lib.hid (hr1 hov)
          have ho1 : decide (M * 10 + ((s[k].toNat : Int) - 48) < M * 10) = false := by rw [decide_eq_false_iff_not]; omega
          have ho2 : decide ((4294967295 : Int) < M * 10 + ((s[k].toNat : Int) - 48)) = true := by rw [decide_eq_true_eq]; omega
          rw [hM]
          clear hr1 hr2 hov hd hm hM
          go_wp2_with fail
          go_ret2
          exact ⟨ret_pr HRR.out, hbw⟩
        · have hr3 := hr2 (by omega)
          have HRR := Lib.hid hr3
          have ho1 : decide (M * 10 + ((s[k].toNat : Int) - 48) < M * 10) = false := by rw [decide_eq_false_iff_not]; omega
          have ho2 : decide ((4294967295 : Int) < M * 10 + ((s[k].toNat : Int) - 48)) = false := by rw [decide_eq_false_iff_not]; omega
          have hN : M * 10 + ((s[k].toNat : Int) - 48) = ((m * 10 + (s[k].toNat - 48) : Nat) : Int) := by omega
          have HN := Lib.hid hN
          have hmx : m * 10 + (s[k].toNat - 48) ≤ 4294967295 := by omega
          have HMX := Lib.hid hmx
          rw [hM]
          clear hr1 hr2 hr3 hov hd hm hM hN hmx
          go_wp2_with fail
          go_round
          case rel => exact ⟨k + 1, _, by omega, HMX.out, rfl, by go_num, by rw [HN.out], HRR⟩
          case measure => simp [intOf]; omega
      · have HB := Lib.hid hb
        have hb95 : ((s[k].toNat : Int) == 95) = false := by rw [beq_eq_false_iff_ne]; omega
        clear hb h95
        rcases hd with ⟨hd, hdb⟩ | ⟨hd, hdb⟩
        · exfalso; omega
        · have HRR := Lib.hid (pu_none 10 m s k hlt R HP.out hd)
          have hlo : 97 ≤ (lo : Int) := by omega
          rw [hM]
          clear hd hm hM hdb
          rcases hno with hno | hno
          all_goals
            go_wp2_with (go_at_call 207; refine (lower_is _ lo _ HB.out).mono ?_; rintro e w' ⟨rfl, rfl⟩)
            go_ret2
            exact ⟨ret_pr HRR.out, hbw⟩
      · have HB := Lib.hid hb
        obtain ⟨y, hy⟩ : ∃ y : Bool, ((s[k].toNat : Int) == 95) = y := ⟨_, rfl⟩
        clear hb
        have HRR := Lib.hid (pu_none 10 m s k hlt R HP.out hd)
        rw [hM]
        clear hd hm hM
        rcases hno with hno | hno
        all_goals
          rcases hl with hl | hl
          all_goals
            cases y
            all_goals
              go_wp2_with (go_at_call 207; refine (lower_is _ lo _ HB.out).mono ?_; rintro e w' ⟨rfl, rfl⟩)
              go_ret2
              exact ⟨ret_pr HRR.out, hbw⟩
    · have hk' : k = s.size := by omega
      subst hk'
      have hRR : R = .ok m := by
        have := HP.out
        rw [List.drop_eq_nil_of_le (by rw [L_length]; exact Nat.le_refl _)] at this
        exact this.symm
      have HRR := Lib.hid hRR
      clear hRR
      go_wp2_with fail
      go_ret2
      exact ⟨ret_pr HRR.out, hbw⟩

theorem bs_L0 (s : ByteArray) (h : s.size = 0) : s = ⟨#[]⟩ := by
  cases s with
  | mk d => have : d = #[] := Array.eq_empty_of_size_eq_zero h
            rw [this]

theorem puI_any (b : Nat) (hb : b = 10 ∨ b = 16) (s : ByteArray) (w : World) (hs : s.size ≤ 65536) :
    Calls Tryz.prog 191 #[.string s, .int .i64 b, .int .i64 32] w fun e w' => e = .returned (prVal (if s.size = 0 then .syn else pu b 0 (L s))) ∧ Below w.heap.size w w' := by
  by_cases h : s.size = 0
  · have hs0 : s = ⟨#[]⟩ := by
      have := bs_L0 s h
      exact this
    rw [if_pos h, hs0]
    exact (Tryz.internal_strconv_ParseUint_empty _ _ w).mono fun e w' ⟨he, hw⟩ => ⟨he, by rw [hw]; exact Below.refl _ _⟩
  · rw [if_neg h]
    rcases hb with rfl | rfl
    · exact puI_10 s w hs (by omega)
    · exact puI_16 s w hs (by omega)

/-- What is laid in the package-level variables that the calls come to. -/
structure Gl (w : World) : Prop where
  big : 8 ≤ w.heap.size
  mx : ∃ m, w.cell? ⟨0, 0, none⟩ = some (.int .i64 m)
  tabs : Lib.Utf8Tabs 1 2 w
  esyn : ∃ t p, w.cell? ⟨3, 0, none⟩ = some (.iface t p)
  erng : ∃ t p, w.cell? ⟨4, 0, none⟩ = some (.iface t p)

/-- How strconv.ParseUint ends. -/
def PuEnd (R : PR) (w : World) (e : Ending) (w' : World) : Prop :=
  Below w.heap.size w w' ∧ match R with
  | .ok n => e = .returned (.tuple #[.int .u64 n, .nilIface])
  | _ => ∃ u t v, e = .returned (.tuple #[.int .u64 u, .iface t v])

set_option maxHeartbeats 2000000 in
set_option maxRecDepth 100000 in
theorem pu_calls (b : Nat) (hb : b = 10 ∨ b = 16) (s : ByteArray) (w : World) (hG : Gl w) (hs : s.size ≤ 65536) :
    Calls Tryz.prog 176 #[.string s, .int .i64 b, .int .i64 32] w (PuEnd (if s.size = 0 then .syn else pu b 0 (L s)) w) := by
  obtain ⟨R, hR⟩ : ∃ R, (if s.size = 0 then .syn else pu b 0 (L s)) = R := ⟨_, rfl⟩
  have hI := puI_any b hb s w hs
  rw [hR] at hI ⊢
  have HI := Lib.hid hI
  clear hI hR hb
  obtain ⟨t3, p3, he3⟩ := hG.esyn
  obtain ⟨t4, p4, he4⟩ := hG.erng
  cases R with
  | ok n =>
    go_enter Tryz.func176, Tryz.ntmps176
    go_wp2_with (go_at_call 191; refine (HI.out).mono ?_; rintro e w1 ⟨he, hb1⟩; unfold prVal at he; subst he)
    go_ret2
    exact ⟨hb1, rfl⟩
  | syn =>
    go_enter Tryz.func176, Tryz.ntmps176
    go_wp2_with (first | (go_at_call 191; refine (HI.out).mono ?_; rintro e w1 ⟨he, hb1⟩; unfold prVal at he; subst he) | (go_at_call 192; refine (Tryz.strconv_toError_syntax _ _ _ _ (.iface t3 p3) _ (by omega) ((hb1.cell (p := ⟨3, 0, none⟩) (World.block_lt_of_cell? w _ he3)).trans he3) (.inr ⟨_, _, rfl⟩)).mono ?_; rintro e w2 ⟨N, rfl, -, -, hb2⟩))
    go_ret2
    exact ⟨below_then hb1 hb2, _, _, _, rfl⟩
  | rng =>
    go_enter Tryz.func176, Tryz.ntmps176
    go_wp2_with (first | (go_at_call 191; refine (HI.out).mono ?_; rintro e w1 ⟨he, hb1⟩; unfold prVal at he; subst he) | (go_at_call 192; refine (Tryz.strconv_toError_range _ _ _ _ (.iface t4 p4) _ (by omega) ((hb1.cell (p := ⟨4, 0, none⟩) (World.block_lt_of_cell? w _ he4)).trans he4) (.inr ⟨_, _, rfl⟩)).mono ?_; rintro e w2 ⟨N, rfl, -, -, hb2⟩))
    go_ret2
    exact ⟨below_then hb1 hb2, _, _, _, rfl⟩
end Go.Proofs.YtokdclmikllepaaGreatDoor
