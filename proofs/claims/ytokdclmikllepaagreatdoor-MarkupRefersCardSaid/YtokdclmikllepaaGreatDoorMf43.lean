import Derived.Test.YtokdclmikllepaaGreatDoorMf42
namespace Go.Proofs.YtokdclmikllepaaGreatDoor
open Go.RowKit
set_option linter.unusedVariables false
set_option linter.unusedSimpArgs false

theorem put_le4 (r : Int) : (Sp.put r).length ≤ 4 := by
  unfold Sp.put Sp.putI
  rw [List.length_map]
  repeat' split
  all_goals simp
theorem L_append (a b : ByteArray) : L (a ++ b) = L a ++ L b := by simp [L]
set_option maxHeartbeats 8000000 in
set_option maxRecDepth 100000 in
/-- No rune has this number. -/
theorem refers_no1 (n m : Nat) (w : World) (hG : Gl w) (hn : n < 4294967296) (hm : m < 256) (hc : Sp.isChar (n : Int) = false) (h17 : ¬ n ≤ 1114111) (h8 : True) :
    Calls Tryz.prog 4 #[.int .u32 n, .int .u8 m] w fun e w' => e = .returned (.bool true) ∧ Below w.heap.size w w' := by
  have HG := Lib.hid hG
  clear hG
  have hlen := decL_len 9 n (by omega)
  have hxl := hexL_len 7 n (by omega)
  have hM1 := refers_bad n (m % 6) (by omega) hn (.inl hc)
  have hM2 := refers_hex_is n hn
  rw [if_neg (by rw [hc]; simp)] at hM2
  obtain ⟨B0, hB0⟩ : ∃ B : ByteArray, (⟨(decL n).toArray⟩ : ByteArray) = B := ⟨_, rfl⟩
  obtain ⟨D, hDD⟩ : ∃ D : ByteArray, (⟨(List.replicate (m % 6) 48 ++ decL n).toArray⟩ : ByteArray) = D := ⟨_, rfl⟩
  obtain ⟨X, hX⟩ : ∃ X : ByteArray, (⟨(hexL n).toArray⟩ : ByteArray) = X := ⟨_, rfl⟩
  have hsB : B0.size = (decL n).length := by rw [← hB0, mk_size]
  have hsD : D.size = (List.replicate (m % 6) 48 ++ decL n).length := by rw [← hDD, mk_size]
  have hsX : X.size = (hexL n).length := by rw [← hX, mk_size]
  have hsD2 : (List.replicate (m % 6) 48 ++ decL n).length = m % 6 + (decL n).length := by rw [List.length_append, List.length_replicate]
  have hsD3 : D.size ≤ 16 := by omega
  have hsX3 : X.size ≤ 16 := by omega
  have e1 : L (⟨#[97, 38, 35]⟩ ++ D ++ ⟨#[59]⟩) = 97 :: 38 :: 35 :: ((List.replicate (m % 6) 48 ++ decL n) ++ [59]) := by rw [L_append, L_append, ← hDD]; rfl
  have e2 : L (⟨#[60, 97, 32, 98, 61, 39, 38, 35, 120]⟩ ++ X ++ ⟨#[59, 39, 47, 62]⟩) = 60 :: 97 :: 32 :: 98 :: 61 :: 39 :: 38 :: 35 :: 120 :: (hexL n ++ [59, 39, 47, 62]) := by rw [L_append, L_append, ← hX]; rfl
  rw [← e1] at hM1
  rw [← e2] at hM2
  have hz1 : (⟨#[97, 38, 35]⟩ ++ D ++ ⟨#[59]⟩ : ByteArray).size ≤ 140737488351232 := by rw [ByteArray.size_append, ByteArray.size_append, show (⟨#[97, 38, 35]⟩ : ByteArray).size = 3 from rfl, show (⟨#[59]⟩ : ByteArray).size = 1 from rfl]; omega
  have hz2 : (⟨#[60, 97, 32, 98, 61, 39, 38, 35, 120]⟩ ++ X ++ ⟨#[59, 39, 47, 62]⟩ : ByteArray).size ≤ 140737488351232 := by rw [ByteArray.size_append, ByteArray.size_append, show (⟨#[60, 97, 32, 98, 61, 39, 38, 35, 120]⟩ : ByteArray).size = 9 from rfl, show (⟨#[59, 39, 47, 62]⟩ : ByteArray).size = 4 from rfl]; omega
  have h8' := h8
  have HDD := Lib.hid hDD
  have HB0 := Lib.hid hB0
  have HX := Lib.hid hX
  have HM1 := Lib.hid hM1
  have HM2 := Lib.hid hM2
  have HSD := Lib.hid (hsD.trans hsD2)
  have HN := Lib.hid hn
  have HZ1 := Lib.hid hz1
  have HZ2 := Lib.hid hz2
  have HSB := Lib.hid hsB
  have HLEN := Lib.hid hlen
  have H8 : Hid (D.size = (List.replicate (m % 6) 48 ++ decL n).length) := hsD
  have hm0 : (0 : Int) ≤ m := by omega
  have hm1 : (m : Int) ≤ 255 := by omega
  have HDEC : Hid (∀ w : World, Calls Tryz.prog 20 #[.int .u32 n] w fun e w' => e = .returned (.string B0) ∧ Below w.heap.size w w') := fun w => hB0 ▸ decimal_any (n + 1) n w (Nat.lt_succ_self n) hn
  have HHEX : Hid (∀ w : World, Calls Tryz.prog 21 #[.int .u32 n] w fun e w' => e = .returned (.string X) ∧ Below w.heap.size w w') := fun w => hX ▸ hex_calls n w hn
  clear hDD hB0 hX hM1 hM2 e1 e2 hz1 hz2 hxl hn hlen hsB hsD hsX hsD2 h8'
  go_enter Tryz.func4, Tryz.ntmps4
  go_wp2_with fail
  refine (HDEC.out _).mono ?_
  rintro e w1 ⟨rfl, hb1⟩
  have HB1 := Lib.hid hb1
  clear hb1
  go_wp2_with fail
  go_loopg [5, 6] 7 (fun kk d i wr => ∃ (j : Nat) (b : ByteArray), i = .int .i64 j ∧ d = .string b ∧ Hid (b = ⟨(List.replicate j 48 ++ decL n).toArray⟩) ∧ b.size ≤ 10 + j ∧ j ≤ m % 6 ∧ m % 6 - j < kk ∧ Hid (wr = w1))
  case atStart => exact ⟨0, B0, rfl, rfl, Lib.hid HB0.out.symm, by have := HSB.out; have := HLEN.out; omega, Nat.zero_le _, by omega, Lib.hid rfl⟩
  case round =>
    obtain ⟨j, b, rfl, rfl, Hb, hbz, hj, hk, hw⟩ := hrel
    have hw := hw.out
    subst hw
    by_cases hlt : j < m % 6
    · have hd : decide ((j : Int) < (m : Int) % 6) = true := by simp; omega
      have hj6 : j < 6 := by omega
      go_wp2_with fail
      go_roundg (gk - 1)
      case measure => omega
      case rel => exact ⟨j + 1, _, by simp, rfl, Lib.hid (by rw [Hb.out, List.replicate_succ, List.cons_append]; exact bs_append [48] _), by rw [ByteArray.size_append, show (⟨#[48]⟩ : ByteArray).size = 1 from rfl]; omega, by omega, by omega, Lib.hid rfl⟩
    · have hd : decide ((j : Int) < (m : Int) % 6) = false := by simp; omega
      obtain rfl : j = m % 6 := by omega
      obtain rfl : D = b := (Hb.out.trans HDD.out).symm
      clear Hb hbz
      go_wp2_with fail
      refine (marks_err _ _ (HG.out.below HB1.out) HZ1.out 1 83 HM1.out).mono ?_
      rintro e w2 ⟨rfl, hb2⟩
      have HB2 := Lib.hid (below_then HB1.out hb2)
      clear hb2
      go_wp2_with fail
      refine (HHEX.out _).mono ?_
      rintro e w3 ⟨rfl, hb3⟩
      have HB3 := Lib.hid (below_then HB2.out hb3)
      clear hb3
      go_wp2_with fail
      refine (marks_err _ _ (HG.out.below HB3.out) HZ2.out 6 83 HM2.out).mono ?_
      rintro e w4 ⟨rfl, hb4⟩
      have HB4 := Lib.hid (below_then HB3.out hb4)
      clear hb4
      go_wp2_with fail
      refine (awake_calls _ (HG.out.below HB4.out)).mono ?_
      rintro e w5 ⟨rfl, hb5⟩
      have HB5 := Lib.hid (below_then HB4.out hb5)
      clear hb5
      have hq : decide ((n : Int) ≤ 1114111) = false := by simp; omega
      go_wp2_with fail
      go_ret
      exact ⟨rfl, HB5.out⟩

set_option maxHeartbeats 8000000 in
set_option maxRecDepth 100000 in
/-- The rune is no character. -/
theorem refers_no2 (n m : Nat) (w : World) (hG : Gl w) (hn : n < 4294967296) (hm : m < 256) (hc : Sp.isChar (n : Int) = false) (h17 : n ≤ 1114111) (h8 : True) :
    Calls Tryz.prog 4 #[.int .u32 n, .int .u8 m] w fun e w' => e = .returned (.bool true) ∧ Below w.heap.size w w' := by
  have HG := Lib.hid hG
  clear hG
  have hlen := decL_len 9 n (by omega)
  have hxl := hexL_len 7 n (by omega)
  have hM1 := refers_bad n (m % 6) (by omega) hn (.inl hc)
  have hM2 := refers_hex_is n hn
  rw [if_neg (by rw [hc]; simp)] at hM2
  obtain ⟨B0, hB0⟩ : ∃ B : ByteArray, (⟨(decL n).toArray⟩ : ByteArray) = B := ⟨_, rfl⟩
  obtain ⟨D, hDD⟩ : ∃ D : ByteArray, (⟨(List.replicate (m % 6) 48 ++ decL n).toArray⟩ : ByteArray) = D := ⟨_, rfl⟩
  obtain ⟨X, hX⟩ : ∃ X : ByteArray, (⟨(hexL n).toArray⟩ : ByteArray) = X := ⟨_, rfl⟩
  have hsB : B0.size = (decL n).length := by rw [← hB0, mk_size]
  have hsD : D.size = (List.replicate (m % 6) 48 ++ decL n).length := by rw [← hDD, mk_size]
  have hsX : X.size = (hexL n).length := by rw [← hX, mk_size]
  have hsD2 : (List.replicate (m % 6) 48 ++ decL n).length = m % 6 + (decL n).length := by rw [List.length_append, List.length_replicate]
  have hsD3 : D.size ≤ 16 := by omega
  have hsX3 : X.size ≤ 16 := by omega
  have e1 : L (⟨#[97, 38, 35]⟩ ++ D ++ ⟨#[59]⟩) = 97 :: 38 :: 35 :: ((List.replicate (m % 6) 48 ++ decL n) ++ [59]) := by rw [L_append, L_append, ← hDD]; rfl
  have e2 : L (⟨#[60, 97, 32, 98, 61, 39, 38, 35, 120]⟩ ++ X ++ ⟨#[59, 39, 47, 62]⟩) = 60 :: 97 :: 32 :: 98 :: 61 :: 39 :: 38 :: 35 :: 120 :: (hexL n ++ [59, 39, 47, 62]) := by rw [L_append, L_append, ← hX]; rfl
  rw [← e1] at hM1
  rw [← e2] at hM2
  have hz1 : (⟨#[97, 38, 35]⟩ ++ D ++ ⟨#[59]⟩ : ByteArray).size ≤ 140737488351232 := by rw [ByteArray.size_append, ByteArray.size_append, show (⟨#[97, 38, 35]⟩ : ByteArray).size = 3 from rfl, show (⟨#[59]⟩ : ByteArray).size = 1 from rfl]; omega
  have hz2 : (⟨#[60, 97, 32, 98, 61, 39, 38, 35, 120]⟩ ++ X ++ ⟨#[59, 39, 47, 62]⟩ : ByteArray).size ≤ 140737488351232 := by rw [ByteArray.size_append, ByteArray.size_append, show (⟨#[60, 97, 32, 98, 61, 39, 38, 35, 120]⟩ : ByteArray).size = 9 from rfl, show (⟨#[59, 39, 47, 62]⟩ : ByteArray).size = 4 from rfl]; omega
  have h8' := h8
  have HDD := Lib.hid hDD
  have HB0 := Lib.hid hB0
  have HX := Lib.hid hX
  have HM1 := Lib.hid hM1
  have HM2 := Lib.hid hM2
  have HSD := Lib.hid (hsD.trans hsD2)
  have HN := Lib.hid hn
  have HZ1 := Lib.hid hz1
  have HZ2 := Lib.hid hz2
  have HSB := Lib.hid hsB
  have HLEN := Lib.hid hlen
  have H8 : Hid (D.size = (List.replicate (m % 6) 48 ++ decL n).length) := hsD
  have hm0 : (0 : Int) ≤ m := by omega
  have hm1 : (m : Int) ≤ 255 := by omega
  have HDEC : Hid (∀ w : World, Calls Tryz.prog 20 #[.int .u32 n] w fun e w' => e = .returned (.string B0) ∧ Below w.heap.size w w') := fun w => hB0 ▸ decimal_any (n + 1) n w (Nat.lt_succ_self n) hn
  have HHEX : Hid (∀ w : World, Calls Tryz.prog 21 #[.int .u32 n] w fun e w' => e = .returned (.string X) ∧ Below w.heap.size w w') := fun w => hX ▸ hex_calls n w hn
  clear hDD hB0 hX hM1 hM2 e1 e2 hz1 hz2 hxl hn hlen hsB hsD hsX hsD2 h8'
  go_enter Tryz.func4, Tryz.ntmps4
  go_wp2_with fail
  refine (HDEC.out _).mono ?_
  rintro e w1 ⟨rfl, hb1⟩
  have HB1 := Lib.hid hb1
  clear hb1
  go_wp2_with fail
  go_loopg [5, 6] 7 (fun kk d i wr => ∃ (j : Nat) (b : ByteArray), i = .int .i64 j ∧ d = .string b ∧ Hid (b = ⟨(List.replicate j 48 ++ decL n).toArray⟩) ∧ b.size ≤ 10 + j ∧ j ≤ m % 6 ∧ m % 6 - j < kk ∧ Hid (wr = w1))
  case atStart => exact ⟨0, B0, rfl, rfl, Lib.hid HB0.out.symm, by have := HSB.out; have := HLEN.out; omega, Nat.zero_le _, by omega, Lib.hid rfl⟩
  case round =>
    obtain ⟨j, b, rfl, rfl, Hb, hbz, hj, hk, hw⟩ := hrel
    have hw := hw.out
    subst hw
    by_cases hlt : j < m % 6
    · have hd : decide ((j : Int) < (m : Int) % 6) = true := by simp; omega
      have hj6 : j < 6 := by omega
      go_wp2_with fail
      go_roundg (gk - 1)
      case measure => omega
      case rel => exact ⟨j + 1, _, by simp, rfl, Lib.hid (by rw [Hb.out, List.replicate_succ, List.cons_append]; exact bs_append [48] _), by rw [ByteArray.size_append, show (⟨#[48]⟩ : ByteArray).size = 1 from rfl]; omega, by omega, by omega, Lib.hid rfl⟩
    · have hd : decide ((j : Int) < (m : Int) % 6) = false := by simp; omega
      obtain rfl : j = m % 6 := by omega
      obtain rfl : D = b := (Hb.out.trans HDD.out).symm
      clear Hb hbz
      go_wp2_with fail
      refine (marks_err _ _ (HG.out.below HB1.out) HZ1.out 1 83 HM1.out).mono ?_
      rintro e w2 ⟨rfl, hb2⟩
      have HB2 := Lib.hid (below_then HB1.out hb2)
      clear hb2
      go_wp2_with fail
      refine (HHEX.out _).mono ?_
      rintro e w3 ⟨rfl, hb3⟩
      have HB3 := Lib.hid (below_then HB2.out hb3)
      clear hb3
      go_wp2_with fail
      refine (marks_err _ _ (HG.out.below HB3.out) HZ2.out 6 83 HM2.out).mono ?_
      rintro e w4 ⟨rfl, hb4⟩
      have HB4 := Lib.hid (below_then HB3.out hb4)
      clear hb4
      go_wp2_with fail
      refine (awake_calls _ (HG.out.below HB4.out)).mono ?_
      rintro e w5 ⟨rfl, hb5⟩
      have HB5 := Lib.hid (below_then HB4.out hb5)
      clear hb5
      have hq : decide ((n : Int) ≤ 1114111) = true := by simp; omega
      have HC := Lib.hid hc
      clear hc
      go_wp2_with (go_at_call 22; refine (refChar_is (n : Int) false _ HC.out).mono ?_; rintro e w6 ⟨rfl, rfl⟩)
      go_ret
      exact ⟨rfl, HB5.out⟩

set_option maxHeartbeats 8000000 in
set_option maxRecDepth 100000 in
/-- More digits than eight. -/
theorem refers_long (n m : Nat) (w : World) (hG : Gl w) (hn : n < 4294967296) (hm : m < 256) (hc : Sp.isChar (n : Int) = true) (h17 : n ≤ 1114111) (h8 : 8 < (List.replicate (m % 6) 48 ++ decL n).length) :
    Calls Tryz.prog 4 #[.int .u32 n, .int .u8 m] w fun e w' => e = .returned (.bool true) ∧ Below w.heap.size w w' := by
  have HG := Lib.hid hG
  clear hG
  have hlen := decL_len 9 n (by omega)
  have hxl := hexL_len 7 n (by omega)
  have hM1 := refers_bad n (m % 6) (by omega) hn (.inr h8)
  have hM2 := refers_hex_is n hn
  rw [if_pos hc] at hM2
  obtain ⟨B0, hB0⟩ : ∃ B : ByteArray, (⟨(decL n).toArray⟩ : ByteArray) = B := ⟨_, rfl⟩
  obtain ⟨D, hDD⟩ : ∃ D : ByteArray, (⟨(List.replicate (m % 6) 48 ++ decL n).toArray⟩ : ByteArray) = D := ⟨_, rfl⟩
  obtain ⟨X, hX⟩ : ∃ X : ByteArray, (⟨(hexL n).toArray⟩ : ByteArray) = X := ⟨_, rfl⟩
  have hsB : B0.size = (decL n).length := by rw [← hB0, mk_size]
  have hsD : D.size = (List.replicate (m % 6) 48 ++ decL n).length := by rw [← hDD, mk_size]
  have hsX : X.size = (hexL n).length := by rw [← hX, mk_size]
  have hsD2 : (List.replicate (m % 6) 48 ++ decL n).length = m % 6 + (decL n).length := by rw [List.length_append, List.length_replicate]
  have hsD3 : D.size ≤ 16 := by omega
  have hsX3 : X.size ≤ 16 := by omega
  have e1 : L (⟨#[97, 38, 35]⟩ ++ D ++ ⟨#[59]⟩) = 97 :: 38 :: 35 :: ((List.replicate (m % 6) 48 ++ decL n) ++ [59]) := by rw [L_append, L_append, ← hDD]; rfl
  have e2 : L (⟨#[60, 97, 32, 98, 61, 39, 38, 35, 120]⟩ ++ X ++ ⟨#[59, 39, 47, 62]⟩) = 60 :: 97 :: 32 :: 98 :: 61 :: 39 :: 38 :: 35 :: 120 :: (hexL n ++ [59, 39, 47, 62]) := by rw [L_append, L_append, ← hX]; rfl
  rw [← e1] at hM1
  rw [← e2] at hM2
  have hz1 : (⟨#[97, 38, 35]⟩ ++ D ++ ⟨#[59]⟩ : ByteArray).size ≤ 140737488351232 := by rw [ByteArray.size_append, ByteArray.size_append, show (⟨#[97, 38, 35]⟩ : ByteArray).size = 3 from rfl, show (⟨#[59]⟩ : ByteArray).size = 1 from rfl]; omega
  have hz2 : (⟨#[60, 97, 32, 98, 61, 39, 38, 35, 120]⟩ ++ X ++ ⟨#[59, 39, 47, 62]⟩ : ByteArray).size ≤ 140737488351232 := by rw [ByteArray.size_append, ByteArray.size_append, show (⟨#[60, 97, 32, 98, 61, 39, 38, 35, 120]⟩ : ByteArray).size = 9 from rfl, show (⟨#[59, 39, 47, 62]⟩ : ByteArray).size = 4 from rfl]; omega
  have h8' := h8
  have HDD := Lib.hid hDD
  have HB0 := Lib.hid hB0
  have HX := Lib.hid hX
  have HM1 := Lib.hid hM1
  have HM2 := Lib.hid hM2
  have HSD := Lib.hid (hsD.trans hsD2)
  have HN := Lib.hid hn
  have HZ1 := Lib.hid hz1
  have HZ2 := Lib.hid hz2
  have HSB := Lib.hid hsB
  have HLEN := Lib.hid hlen
  have H8 : Hid (D.size = (List.replicate (m % 6) 48 ++ decL n).length) := hsD
  have hm0 : (0 : Int) ≤ m := by omega
  have hm1 : (m : Int) ≤ 255 := by omega
  have HDEC : Hid (∀ w : World, Calls Tryz.prog 20 #[.int .u32 n] w fun e w' => e = .returned (.string B0) ∧ Below w.heap.size w w') := fun w => hB0 ▸ decimal_any (n + 1) n w (Nat.lt_succ_self n) hn
  have HHEX : Hid (∀ w : World, Calls Tryz.prog 21 #[.int .u32 n] w fun e w' => e = .returned (.string X) ∧ Below w.heap.size w w') := fun w => hX ▸ hex_calls n w hn
  clear hDD hB0 hX hM1 hM2 e1 e2 hz1 hz2 hxl hn hlen hsB hsD hsX hsD2 h8'
  go_enter Tryz.func4, Tryz.ntmps4
  go_wp2_with fail
  refine (HDEC.out _).mono ?_
  rintro e w1 ⟨rfl, hb1⟩
  have HB1 := Lib.hid hb1
  clear hb1
  go_wp2_with fail
  go_loopg [5, 6] 7 (fun kk d i wr => ∃ (j : Nat) (b : ByteArray), i = .int .i64 j ∧ d = .string b ∧ Hid (b = ⟨(List.replicate j 48 ++ decL n).toArray⟩) ∧ b.size ≤ 10 + j ∧ j ≤ m % 6 ∧ m % 6 - j < kk ∧ Hid (wr = w1))
  case atStart => exact ⟨0, B0, rfl, rfl, Lib.hid HB0.out.symm, by have := HSB.out; have := HLEN.out; omega, Nat.zero_le _, by omega, Lib.hid rfl⟩
  case round =>
    obtain ⟨j, b, rfl, rfl, Hb, hbz, hj, hk, hw⟩ := hrel
    have hw := hw.out
    subst hw
    by_cases hlt : j < m % 6
    · have hd : decide ((j : Int) < (m : Int) % 6) = true := by simp; omega
      have hj6 : j < 6 := by omega
      go_wp2_with fail
      go_roundg (gk - 1)
      case measure => omega
      case rel => exact ⟨j + 1, _, by simp, rfl, Lib.hid (by rw [Hb.out, List.replicate_succ, List.cons_append]; exact bs_append [48] _), by rw [ByteArray.size_append, show (⟨#[48]⟩ : ByteArray).size = 1 from rfl]; omega, by omega, by omega, Lib.hid rfl⟩
    · have hd : decide ((j : Int) < (m : Int) % 6) = false := by simp; omega
      obtain rfl : j = m % 6 := by omega
      obtain rfl : D = b := (Hb.out.trans HDD.out).symm
      clear Hb hbz
      go_wp2_with fail
      refine (marks_err _ _ (HG.out.below HB1.out) HZ1.out 1 83 HM1.out).mono ?_
      rintro e w2 ⟨rfl, hb2⟩
      have HB2 := Lib.hid (below_then HB1.out hb2)
      clear hb2
      go_wp2_with fail
      refine (HHEX.out _).mono ?_
      rintro e w3 ⟨rfl, hb3⟩
      have HB3 := Lib.hid (below_then HB2.out hb3)
      clear hb3
      go_wp2_with fail
      refine (marks_is _ _ (HG.out.below HB3.out) HZ2.out _ HM2.out).mono ?_
      rintro e w4 ⟨hb4, x, rfl, hmx⟩
      have HB4 := Lib.hid (below_then HB3.out hb4)
      clear hb4 hmx
      go_wp2_with fail
      refine (awake_calls _ (HG.out.below HB4.out)).mono ?_
      rintro e w5 ⟨rfl, hb5⟩
      have HB5 := Lib.hid (below_then HB4.out hb5)
      clear hb5
      have hq : decide ((n : Int) ≤ 1114111) = true := by simp; omega
      have h9 : decide ((8 : Int) < D.size) = true := by have := H8.out; simp; omega
      have HC := Lib.hid hc
      clear hc
      go_wp2_with (go_at_call 22; refine (refChar_is (n : Int) true _ HC.out).mono ?_; rintro e w6 ⟨rfl, rfl⟩)
      go_ret
      exact ⟨rfl, HB5.out⟩

set_option maxHeartbeats 8000000 in
set_option maxRecDepth 100000 in
/-- A character, in eight digits at most. -/
theorem refers_yes (n m : Nat) (w : World) (hG : Gl w) (hn : n < 4294967296) (hm : m < 256) (hc : Sp.isChar (n : Int) = true) (h17 : n ≤ 1114111) (h8 : (List.replicate (m % 6) 48 ++ decL n).length ≤ 8) :
    Calls Tryz.prog 4 #[.int .u32 n, .int .u8 m] w fun e w' => e = .returned (.bool true) ∧ Below w.heap.size w w' := by
  have HG := Lib.hid hG
  clear hG
  have hlen := decL_len 9 n (by omega)
  have hxl := hexL_len 7 n (by omega)
  have hM1 := refers_good n (m % 6) hn hc h8
  have hM2 := refers_hex_is n hn
  rw [if_pos hc] at hM2
  obtain ⟨B0, hB0⟩ : ∃ B : ByteArray, (⟨(decL n).toArray⟩ : ByteArray) = B := ⟨_, rfl⟩
  obtain ⟨D, hDD⟩ : ∃ D : ByteArray, (⟨(List.replicate (m % 6) 48 ++ decL n).toArray⟩ : ByteArray) = D := ⟨_, rfl⟩
  obtain ⟨X, hX⟩ : ∃ X : ByteArray, (⟨(hexL n).toArray⟩ : ByteArray) = X := ⟨_, rfl⟩
  have hsB : B0.size = (decL n).length := by rw [← hB0, mk_size]
  have hsD : D.size = (List.replicate (m % 6) 48 ++ decL n).length := by rw [← hDD, mk_size]
  have hsX : X.size = (hexL n).length := by rw [← hX, mk_size]
  have hsD2 : (List.replicate (m % 6) 48 ++ decL n).length = m % 6 + (decL n).length := by rw [List.length_append, List.length_replicate]
  have hsD3 : D.size ≤ 16 := by omega
  have hsX3 : X.size ≤ 16 := by omega
  have e1 : L (⟨#[97, 38, 35]⟩ ++ D ++ ⟨#[59]⟩) = 97 :: 38 :: 35 :: ((List.replicate (m % 6) 48 ++ decL n) ++ [59]) := by rw [L_append, L_append, ← hDD]; rfl
  have e2 : L (⟨#[60, 97, 32, 98, 61, 39, 38, 35, 120]⟩ ++ X ++ ⟨#[59, 39, 47, 62]⟩) = 60 :: 97 :: 32 :: 98 :: 61 :: 39 :: 38 :: 35 :: 120 :: (hexL n ++ [59, 39, 47, 62]) := by rw [L_append, L_append, ← hX]; rfl
  rw [← e1] at hM1
  rw [← e2] at hM2
  have hz1 : (⟨#[97, 38, 35]⟩ ++ D ++ ⟨#[59]⟩ : ByteArray).size ≤ 140737488351232 := by rw [ByteArray.size_append, ByteArray.size_append, show (⟨#[97, 38, 35]⟩ : ByteArray).size = 3 from rfl, show (⟨#[59]⟩ : ByteArray).size = 1 from rfl]; omega
  have hz2 : (⟨#[60, 97, 32, 98, 61, 39, 38, 35, 120]⟩ ++ X ++ ⟨#[59, 39, 47, 62]⟩ : ByteArray).size ≤ 140737488351232 := by rw [ByteArray.size_append, ByteArray.size_append, show (⟨#[60, 97, 32, 98, 61, 39, 38, 35, 120]⟩ : ByteArray).size = 9 from rfl, show (⟨#[59, 39, 47, 62]⟩ : ByteArray).size = 4 from rfl]; omega
  have h8' := h8
  have HDD := Lib.hid hDD
  have HB0 := Lib.hid hB0
  have HX := Lib.hid hX
  have HM1 := Lib.hid hM1
  have HM2 := Lib.hid hM2
  have HSD := Lib.hid (hsD.trans hsD2)
  have HN := Lib.hid hn
  have HZ1 := Lib.hid hz1
  have HZ2 := Lib.hid hz2
  have HSB := Lib.hid hsB
  have HLEN := Lib.hid hlen
  have H8 : Hid (D.size = (List.replicate (m % 6) 48 ++ decL n).length) := hsD
  have hm0 : (0 : Int) ≤ m := by omega
  have hm1 : (m : Int) ≤ 255 := by omega
  have HDEC : Hid (∀ w : World, Calls Tryz.prog 20 #[.int .u32 n] w fun e w' => e = .returned (.string B0) ∧ Below w.heap.size w w') := fun w => hB0 ▸ decimal_any (n + 1) n w (Nat.lt_succ_self n) hn
  have HHEX : Hid (∀ w : World, Calls Tryz.prog 21 #[.int .u32 n] w fun e w' => e = .returned (.string X) ∧ Below w.heap.size w w') := fun w => hX ▸ hex_calls n w hn
  clear hDD hB0 hX hM1 hM2 e1 e2 hz1 hz2 hxl hn hlen hsB hsD hsX hsD2 h8'
  go_enter Tryz.func4, Tryz.ntmps4
  go_wp2_with fail
  refine (HDEC.out _).mono ?_
  rintro e w1 ⟨rfl, hb1⟩
  have HB1 := Lib.hid hb1
  clear hb1
  go_wp2_with fail
  go_loopg [5, 6] 7 (fun kk d i wr => ∃ (j : Nat) (b : ByteArray), i = .int .i64 j ∧ d = .string b ∧ Hid (b = ⟨(List.replicate j 48 ++ decL n).toArray⟩) ∧ b.size ≤ 10 + j ∧ j ≤ m % 6 ∧ m % 6 - j < kk ∧ Hid (wr = w1))
  case atStart => exact ⟨0, B0, rfl, rfl, Lib.hid HB0.out.symm, by have := HSB.out; have := HLEN.out; omega, Nat.zero_le _, by omega, Lib.hid rfl⟩
  case round =>
    obtain ⟨j, b, rfl, rfl, Hb, hbz, hj, hk, hw⟩ := hrel
    have hw := hw.out
    subst hw
    by_cases hlt : j < m % 6
    · have hd : decide ((j : Int) < (m : Int) % 6) = true := by simp; omega
      have hj6 : j < 6 := by omega
      go_wp2_with fail
      go_roundg (gk - 1)
      case measure => omega
      case rel => exact ⟨j + 1, _, by simp, rfl, Lib.hid (by rw [Hb.out, List.replicate_succ, List.cons_append]; exact bs_append [48] _), by rw [ByteArray.size_append, show (⟨#[48]⟩ : ByteArray).size = 1 from rfl]; omega, by omega, by omega, Lib.hid rfl⟩
    · have hd : decide ((j : Int) < (m : Int) % 6) = false := by simp; omega
      obtain rfl : j = m % 6 := by omega
      obtain rfl : D = b := (Hb.out.trans HDD.out).symm
      clear Hb hbz
      go_wp2_with fail
      refine (marks_is _ _ (HG.out.below HB1.out) HZ1.out _ HM1.out).mono ?_
      rintro e w2 ⟨hb2, v, rfl, hml⟩
      have HB2 := Lib.hid (below_then HB1.out hb2)
      have HML := Lib.hid hml
      clear hb2 hml
      go_wp2_with fail
      refine (HHEX.out _).mono ?_
      rintro e w3 ⟨rfl, hb3⟩
      have HB3 := Lib.hid (below_then HB2.out hb3)
      have HML3 := Lib.hid (HML.out.below hb3)
      clear hb3
      go_wp2_with fail
      refine (marks_is _ _ (HG.out.below HB3.out) HZ2.out _ HM2.out).mono ?_
      rintro e w4 ⟨hb4, x, rfl, hmx⟩
      have HB4 := Lib.hid (below_then HB3.out hb4)
      have HML4 := Lib.hid (HML3.out.below hb4)
      have HMX := Lib.hid hmx
      clear hb4 hmx
      go_wp2_with fail
      refine (awake_calls _ (HG.out.below HB4.out)).mono ?_
      rintro e w5 ⟨rfl, hb5⟩
      have HB5 := Lib.hid (below_then HB4.out hb5)
      have HML5 := Lib.hid (HML4.out.below hb5)
      have HMX5 := Lib.hid (HMX.out.below hb5)
      clear hb5
      obtain ⟨g1, c1, rfl, -, hg1, hc1⟩ := HML5.out.cell (by simp)
      obtain ⟨g2, c2, rfl, -, hg2, hc2⟩ := HMX5.out.cell (by simp)
      obtain ⟨av, -, y0, y1, y2, y3, y4, y5⟩ := hc1 0 _ rfl
      obtain ⟨ax, hax, z0, z1, z2, z3, z4, z5⟩ := hc2 0 _ rfl
      obtain ⟨g3, c3, rfl, -, hg3, hc3⟩ := hax.cell (by simp)
      obtain ⟨u0, u1, u2⟩ := hc3 0 _ rfl
      simp only [Nat.zero_mul, Nat.zero_add] at y4 z2 u1
      clear hc1 hc2 hc3 hax y0 y1 y2 y3 y5 z0 z1 z3 z4 z5 u0 u2
      have hq : decide ((n : Int) ≤ 1114111) = true := by simp; omega
      have h9 : decide ((8 : Int) < D.size) = false := by have := H8.out; simp; omega
      have HC := Lib.hid hc
      obtain ⟨P, hP⟩ : ∃ P : ByteArray, (⟨(Sp.put (n : Int)).toArray⟩ : ByteArray) = P := ⟨_, rfl⟩
      have hpl := put_le4 (n : Int)
      have hsP : P.size ≤ 4 := by rw [← hP, mk_size]; exact hpl
      have e5 : (⟨(97 :: Sp.put (n : Int)).toArray⟩ : ByteArray) = ⟨#[97]⟩ ++ P := by rw [← hP]; exact (bs_append [97] _).symm
      rw [e5] at y4
      rw [hP] at u1
      have HP := Lib.hid hP
      clear hc hP hpl e5
      go_wp2_with (first | (go_at_call 22; refine (refChar_is (n : Int) true _ HC.out).mono ?_; rintro e w6 ⟨rfl, rfl⟩) | (go_at_call 23; refine (refPut_calls (n : Int) _).mono ?_; rintro e w6 ⟨vp, rfl, hop, hb6⟩; have hconv := hop.conv; rw [HP.out] at hconv; have k4 := (World.cell?_of_block (hb6.block g1 hg1)).trans y4; have k2 := (World.cell?_of_block (hb6.block g2 hg2)).trans z2; have k1 := (World.cell?_of_block (hb6.block g3 hg3)).trans u1; have HB6 := Lib.hid (below_then HB5.out hb6)))
      go_ret
      exact ⟨rfl, HB6.out⟩

theorem refers_calls (n m : Nat) (w : World) (hG : Gl w) (hn : n < 4294967296) (hm : m < 256) :
    Calls Tryz.prog 4 #[.int .u32 n, .int .u8 m] w fun e w' => e = .returned (.bool true) ∧ Below w.heap.size w w' := by
  by_cases h17 : n ≤ 1114111
  · cases hc : Sp.isChar (n : Int) with
    | false => exact refers_no2 n m w hG hn hm hc h17 trivial
    | true =>
      by_cases h8 : 8 < (List.replicate (m % 6) 48 ++ decL n).length
      · exact refers_long n m w hG hn hm hc h17 h8
      · exact refers_yes n m w hG hn hm hc h17 (by omega)
  · have hc : Sp.isChar (n : Int) = false := by
      cases hx : Sp.isChar (n : Int) with
      | false => rfl
      | true => exact absurd (char_le n hx) h17
    exact refers_no1 n m w hG hn hm hc h17 trivial
end Go.Proofs.YtokdclmikllepaaGreatDoor
