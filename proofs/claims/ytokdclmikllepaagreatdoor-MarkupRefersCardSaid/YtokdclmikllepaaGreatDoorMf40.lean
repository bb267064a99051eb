import Derived.Test.YtokdclmikllepaaGreatDoorMf39
namespace Go.Proofs.YtokdclmikllepaaGreatDoorP
open Go.RowKit Go.Proofs.YtokdclmikllepaaGreatDoorW.PrintWords Go.Proofs.YtokdclmikllepaaGreatDoorW.PrintLast Go.Proofs.YtokdclmikllepaaGreatDoorW.PrintMore
attribute [local go_sem] max2_int min2_int max_two min_two max_three min_three max_four min_four   -- for this text's walks alone
set_option linter.unusedVariables false
set_option linter.unusedSimpArgs false
def pavanelaw08_hex.f : Nat → Int → Option (ByteArray)
  | 0, _ => none
  | k + 1, a0 => if a0 < 16 then (if 0 ≤ a0 then (if a0 ≤ ((a0 + 1) % 4294967296) then (if ((a0 + 1) % 4294967296) ≤ 16 then (some ((⟨#[48, 49, 50, 51, 52, 53, 54, 55, 56, 57, 97, 66, 99, 68, 101, 70]⟩ : ByteArray).extract (a0 : Int).toNat (((a0 + 1) % 4294967296) : Int).toNat)) else (none)) else (none)) else (none)) else ((pavanelaw08_hex.f k ((Int.tdiv a0 16) % 4294967296)).bind fun t117 => ((pavanelaw08_hex.f k (Int.tmod a0 16)).bind fun t118 => (if t117.size + t118.size ≤ 9223372036854775807 then (some (t117 ++ t118)) else (none))))
theorem pavanelaw08_hex.mono_l : ∀ k, (∀ y0, LeO (pavanelaw08_hex.f k y0) (pavanelaw08_hex.f (k + 1) y0))
  | 0 => fun _ r h => by simp [pavanelaw08_hex.f] at h
  | k + 1 => by
    have ih0 := pavanelaw08_hex.mono_l k
    · intro y0
      unfold pavanelaw08_hex.f
      repeat' first
      | (with_reducible exact ih0 _)
      | (with_reducible exact LeO.refl _)
      | (with_reducible exact LeO.none _)
      | (with_reducible refine LeO.ite ?_ ?_)
      | (with_reducible refine LeO.bind ?_ (fun _ => ?_))
      | exact ih0 _
      | exact LeO.none _
      | refine LeO.ite ?_ ?_
      | refine LeO.bind ?_ (fun _ => ?_)
theorem pavanelaw08_hex.mono : ∀ a0 k, LeO (pavanelaw08_hex.f k a0) (pavanelaw08_hex.f (k + 1) a0) := by
  intro a0 k
  have ih0 := pavanelaw08_hex.mono_l k
  exact ih0 a0
set_option maxHeartbeats 8000000 in
set_option maxRecDepth 100000 in
theorem pavanelaw08_hex.calls (k : Nat) : ∀ (a0 : Int) (r : ByteArray) (w : World) (h : pavanelaw08_hex.f k a0 = some r),
    Calls Tryz.prog 21 #[.int .u32 a0] w fun e w' => e = .returned (.string r) ∧ Drawn0 w w' := by
  induction k using Nat.strongRecOn with
  | _ k ih =>
  intro a0 r w h
  cases k with
  | zero => exact absurd h (by simp [pavanelaw08_hex.f])
  | succ k =>
  simp only [pavanelaw08_hex.f] at h
  have H : (if a0 < 16 then (if 0 ≤ a0 then (if a0 ≤ ((a0 + 1) % 4294967296) then (if ((a0 + 1) % 4294967296) ≤ 16 then (some ((⟨#[48, 49, 50, 51, 52, 53, 54, 55, 56, 57, 97, 66, 99, 68, 101, 70]⟩ : ByteArray).extract (a0 : Int).toNat (((a0 + 1) % 4294967296) : Int).toNat)) else (none)) else (none)) else (none)) else ((pavanelaw08_hex.f k ((Int.tdiv a0 16) % 4294967296)).bind fun t117 => ((pavanelaw08_hex.f k (Int.tmod a0 16)).bind fun t118 => (if t117.size + t118.size ≤ 9223372036854775807 then (some (t117 ++ t118)) else (none))))) = some r := h
  clear h
  by_cases c2 : a0 < 16
  · rw [if_pos c2] at H
    have c2b0 : decide (a0 < 16) = true := decide_eq_true c2
    clear c2
    by_cases c3 : 0 ≤ a0
    · rw [if_pos c3] at H
      have c3b0 := eq_true c3
      have c3b1 : decide (0 ≤ a0) = true := decide_eq_true c3
      clear c3
      by_cases c4 : a0 ≤ ((a0 + 1) % 4294967296)
      · rw [if_pos c4] at H
        have c4b0 := eq_true c4
        have c4b1 : decide (a0 ≤ ((a0 + 1) % 4294967296)) = true := decide_eq_true c4
        by_cases c5 : ((a0 + 1) % 4294967296) ≤ 16
        · rw [if_pos c5] at H
          have c5b0 := eq_true c5
          have c5b1 : decide (((a0 + 1) % 4294967296) ≤ 16) = true := decide_eq_true c5
          obtain rfl := Option.some.inj H
          go_enter Tryz.func21, Tryz.ntmps21
          go_wp2
          go_ret
          exact ⟨by first | rfl | (simp; done) | (simp [*]; done), by repeat (first | exact Drawn0.refl _ | apply Drawn0.step)⟩
        · rw [if_neg c5] at H
          exact absurd H (by simp)
      · rw [if_neg c4] at H
        exact absurd H (by simp)
    · rw [if_neg c3] at H
      exact absurd H (by simp)
  · rw [if_neg c2] at H
    have c2b0 : decide (a0 < 16) = false := decide_eq_false c2
    clear c2
    replace H := Option.bind_eq_some_iff.mp H
    obtain ⟨t117, A60, H⟩ := H
    replace H : ((pavanelaw08_hex.f k (Int.tmod a0 16)).bind fun t118 => (if t117.size + t118.size ≤ 9223372036854775807 then (some (t117 ++ t118)) else (none))) = some r := H
    have A6 := Aside0.mk A60
    clear A60
    replace H := Option.bind_eq_some_iff.mp H
    obtain ⟨t118, A70, H⟩ := H
    replace H : (if t117.size + t118.size ≤ 9223372036854775807 then (some (t117 ++ t118)) else (none)) = some r := H
    have A7 := Aside0.mk A70
    clear A70
    by_cases c8 : t117.size + t118.size ≤ 9223372036854775807
    · rw [if_pos c8] at H
      have c8b0 := eq_true c8
      have c8b1 : decide (t117.size + t118.size ≤ 9223372036854775807) = true := decide_eq_true c8
      try have c8b2 : (9223372036854775807 < t117.size + t118.size) = False := eq_false (Nat.not_lt.2 c8)
      obtain rfl := Option.some.inj H
      go_enter Tryz.func21, Tryz.ntmps21
      go_wp2_with (first | ((with_reducible refine gate_callee (f := 21) rfl ?_); refine goesL_ (some 11) rfl rfl Tryz.func21 (by kernel_rfl) rfl #[.int .u32 ((Int.tdiv a0 16) % 4294967296)] rfl (by (try simp only [List.map_toArray, List.map_cons, List.map_nil]); first | done | rfl | (simp only [List.length_drop, List.length_take]; rfl)) ?_; (with_reducible refine (ih k (by omega) ((Int.tdiv a0 16) % 4294967296) t117 _ A6.out).mono ?_); rintro e w' ⟨rfl, ⟨nd, rfl⟩⟩; refine ⟨_, rfl, ?_⟩) | ((with_reducible refine gate_callee (f := 21) rfl ?_); refine goesL_ (some 14) rfl rfl Tryz.func21 (by kernel_rfl) rfl #[.int .u32 (Int.tmod a0 16)] rfl (by (try simp only [List.map_toArray, List.map_cons, List.map_nil]); first | done | rfl | (simp only [List.length_drop, List.length_take]; rfl)) ?_; (with_reducible refine (ih k (by omega) (Int.tmod a0 16) t118 _ A7.out).mono ?_); rintro e w' ⟨rfl, ⟨nd, rfl⟩⟩; refine ⟨_, rfl, ?_⟩))
      go_ret
      exact ⟨by first | rfl | (simp; done) | (simp [*]; done), by repeat (first | exact Drawn0.refl _ | apply Drawn0.step)⟩
    · rw [if_neg c8] at H
      exact absurd H (by simp)

end Go.Proofs.YtokdclmikllepaaGreatDoorP
