import Derived.Test.YtokdclmikllepaaGreatDoorMr17
namespace Go.Proofs.YtokdclmikllepaaGreatDoor
open Go.RowKit
set_option linter.unusedVariables false
set_option linter.unusedSimpArgs false

set_option maxHeartbeats 8000000 in
set_option maxRecDepth 100000 in
theorem refFlat_calls (s : ByteArray) (b : Bool) (w : World) (hs : s.size ≤ 65536) :
  Calls Tryz.prog 55 #[.string s, .bool b] w fun e w' => ∃ v, e = .returned v ∧ OwnB w.heap.size w' v (Sp.flat b (L s)) ∧ Below w.heap.size w w' := by
  obtain ⟨R, hR⟩ : ∃ R, Sp.flat b (L s) = R := ⟨_, rfl⟩
  rw [hR]
  have HR := Lib.hid hR
  clear hR
  rcases b with _ | _
  · go_enter Tryz.func55, Tryz.ntmps55
    go_wp2_with fail
    go_loopg [5, 6, 7] (s.size + 1) (fun kk v i _ wr => ∃ (j : Nat) (acc : List UInt8) (vo : Value), vo = v ∧ i = .int .i64 j ∧ j ≤ s.size ∧ s.size - j < kk ∧ acc.length ≤ j ∧ Hid (R = acc ++ Sp.flat false ((L s).drop j)) ∧ Hid (OwnB w.heap.size wr v acc) ∧ Hid (Below w.heap.size w wr))
    case atStart => exact ⟨0, [], _, rfl, rfl, by omega, by omega, by simp, HR.out.symm, OwnB.nil _ _, Below.refl _ _⟩
    case round =>
      obtain ⟨j, acc, v, rfl, rfl, hj, hk, hacc, HF, HO, HB⟩ := hrel
      have hbs := HB.out.size
      by_cases hlt : j < s.size
      · have hd : decide ((j : Int) < s.size) = true := by simp; omega
        have hx0 : (0 : Int) ≤ j := by omega
        have hx1 : (j : Int) < s.size := by omega
        have hjc : s[j].toNat < 256 := s[j].toNat_lt
        have hx2 : IntKind.i64.wrap ((j : Int) + 1) = (j : Int) + 1 := IntWalk.i64_in _ (by omega)
        have hdr := L_drop s j hlt
        by_cases h13 : s[j] = 13
        · have c13 : ((s[j].toNat : Int) == 13) = true := by rw [h13]; rfl
          by_cases hl1 : j + 1 < s.size
          · have hd1 : decide ((j : Int) + 1 < s.size) = true := by simp; omega
            have hdr1 := L_drop s (j + 1) hl1
            have hy0 : (0 : Int) ≤ (j : Int) + 1 := by omega
            have hy1 : (j : Int) + 1 < s.size := by omega
            by_cases h10 : s[j + 1] = 10
            · have c10 : ((s[j + 1].toNat : Int) == 10) = true := by rw [h10]; rfl
              have hstep : Sp.flat false ((L s).drop j) = Sp.flat false ((L s).drop (j + 1)) := by rw [hdr, hdr1, h13, h10, flat_13_10]
              clear hdr hdr1 h13 h10 hjc
              go_wp2_with fail
              go_roundg (gk - 1)
              case measure => omega
              case rel => exact ⟨j + 1, acc, _, rfl, by simp, by omega, by omega, by omega, Lib.hid (HF.out.trans (by rw [hstep])), HO.out, HB.out⟩
            · have c10 : ((s[j + 1].toNat : Int) == 10) = false := u8_ne (k := 10) 10 rfl h10
              have hstep : Sp.flat false ((L s).drop j) = 10 :: Sp.flat false ((L s).drop (j + 1)) := by
                rw [hdr, h13, flat_13 _ _ (fun t e => h10 (by rw [hdr1] at e; injection e))]
                rfl
              clear hdr hdr1 h13 h10 hjc
              go_wp2_with (at_builtin; refine wpList_appB rfl (.tmp 36) (.tmp 38) rfl w.heap.size w.heap.size v _ acc [10] (by rfl) (HO.out.alloc _) (by rfl) (OwnB.one _ _ 10 _ rfl hbs) (by simp; omega) (by simp; omega) ?_; intro v' w1 ho1 hb1)
              go_roundg (gk - 1)
              case measure => omega
              case rel => exact ⟨j + 1, acc ++ [10], _, rfl, by simp, by omega, by omega, by rw [List.length_append]; simp; omega, Lib.hid (by rw [HF.out, hstep, List.append_assoc]; rfl), ho1, HB.out.trans (((Below.refl _ _).alloc hbs _).trans hb1)⟩
          · have hd1 : decide ((j : Int) + 1 < s.size) = false := by simp; omega
            have hstep : Sp.flat false ((L s).drop j) = 10 :: Sp.flat false ((L s).drop (j + 1)) := by
              have hnil : (L s).drop (j + 1) = [] := List.drop_eq_nil_of_le (by rw [L_length]; omega)
              rw [hdr, h13, hnil]
              rfl
            clear hdr h13 hjc
            go_wp2_with (at_builtin; refine wpList_appB rfl (.tmp 36) (.tmp 38) rfl w.heap.size w.heap.size v _ acc [10] (by rfl) (HO.out.alloc _) (by rfl) (OwnB.one _ _ 10 _ rfl hbs) (by simp; omega) (by simp; omega) ?_; intro v' w1 ho1 hb1)
            go_roundg (gk - 1)
            case measure => omega
            case rel => exact ⟨j + 1, acc ++ [10], _, rfl, by simp, by omega, by omega, by rw [List.length_append]; simp; omega, Lib.hid (by rw [HF.out, hstep, List.append_assoc]; rfl), ho1, HB.out.trans (((Below.refl _ _).alloc hbs _).trans hb1)⟩
        · have c13 : ((s[j].toNat : Int) == 13) = false := u8_ne (k := 13) 13 rfl h13
          have hstep : Sp.flat false ((L s).drop j) = s[j] :: Sp.flat false ((L s).drop (j + 1)) := by rw [hdr, flat_other _ _ _ h13]; rfl
          clear hdr h13
          go_wp2_with (at_builtin; refine wpList_appB rfl (.tmp 36) (.tmp 38) rfl w.heap.size w.heap.size v _ acc [s[j]] (by rfl) (HO.out.alloc _) (by rfl) (OwnB.one _ _ s[j] _ rfl hbs) (by simp; omega) (by simp; omega) ?_; intro v' w1 ho1 hb1)
          go_roundg (gk - 1)
          case measure => omega
          case rel => exact ⟨j + 1, acc ++ [s[j]], _, rfl, by simp, by omega, by omega, by rw [List.length_append]; simp; omega, Lib.hid (by rw [HF.out, hstep, List.append_assoc]; rfl), ho1, HB.out.trans (((Below.refl _ _).alloc hbs _).trans hb1)⟩
      · have hd : decide ((j : Int) < s.size) = false := by simp; omega
        have hfin : R = acc := by
          have hnil : (L s).drop j = [] := List.drop_eq_nil_of_le (by rw [L_length]; omega)
          rw [HF.out, hnil]
          exact List.append_nil _
        go_wp2_with fail
        go_ret
        exact ⟨_, rfl, HO.out.eq hfin.symm, HB.out⟩
  · go_enter Tryz.func55, Tryz.ntmps55
    go_wp2_with fail
    go_loopg [5, 6, 7] (s.size + 1) (fun kk v i _ wr => ∃ (j : Nat) (acc : List UInt8) (vo : Value), vo = v ∧ i = .int .i64 j ∧ j ≤ s.size ∧ s.size - j < kk ∧ acc.length ≤ j ∧ Hid (R = acc ++ Sp.flat true ((L s).drop j)) ∧ Hid (OwnB w.heap.size wr v acc) ∧ Hid (Below w.heap.size w wr))
    case atStart => exact ⟨0, [], _, rfl, rfl, by omega, by omega, by simp, HR.out.symm, OwnB.nil _ _, Below.refl _ _⟩
    case round =>
      obtain ⟨j, acc, v, rfl, rfl, hj, hk, hacc, HF, HO, HB⟩ := hrel
      have hbs := HB.out.size
      by_cases hlt : j < s.size
      · have hd : decide ((j : Int) < s.size) = true := by simp; omega
        have hx0 : (0 : Int) ≤ j := by omega
        have hx1 : (j : Int) < s.size := by omega
        have hjc : s[j].toNat < 256 := s[j].toNat_lt
        have hx2 : IntKind.i64.wrap ((j : Int) + 1) = (j : Int) + 1 := IntWalk.i64_in _ (by omega)
        have hdr := L_drop s j hlt
        by_cases h13 : s[j] = 13
        · have c13 : ((s[j].toNat : Int) == 13) = true := by rw [h13]; rfl
          by_cases hl1 : j + 1 < s.size
          · have hd1 : decide ((j : Int) + 1 < s.size) = true := by simp; omega
            have hdr1 := L_drop s (j + 1) hl1
            have hy0 : (0 : Int) ≤ (j : Int) + 1 := by omega
            have hy1 : (j : Int) + 1 < s.size := by omega
            by_cases h10 : s[j + 1] = 10
            · have c10 : ((s[j + 1].toNat : Int) == 10) = true := by rw [h10]; rfl
              have hstep : Sp.flat true ((L s).drop j) = Sp.flat true ((L s).drop (j + 1)) := by rw [hdr, hdr1, h13, h10, flat_13_10]
              clear hdr hdr1 h13 h10 hjc
              go_wp2_with fail
              go_roundg (gk - 1)
              case measure => omega
              case rel => exact ⟨j + 1, acc, _, rfl, by simp, by omega, by omega, by omega, Lib.hid (HF.out.trans (by rw [hstep])), HO.out, HB.out⟩
            · have c10 : ((s[j + 1].toNat : Int) == 10) = false := u8_ne (k := 10) 10 rfl h10
              have hstep : Sp.flat true ((L s).drop j) = 32 :: Sp.flat true ((L s).drop (j + 1)) := by
                rw [hdr, h13, flat_13 _ _ (fun t e => h10 (by rw [hdr1] at e; injection e))]
                rfl
              clear hdr hdr1 h13 h10 hjc
              go_wp2_with (first | (go_at_call 53; go_must (refine (refWhite_is 10 true _ rfl).mono ?_); rintro e w' ⟨rfl, rfl⟩) | (at_builtin; refine wpList_appB rfl (.tmp 36) (.tmp 38) rfl w.heap.size w.heap.size v _ acc [32] (by rfl) (HO.out.alloc _) (by rfl) (OwnB.one _ _ 32 _ rfl hbs) (by simp; omega) (by simp; omega) ?_; intro v' w1 ho1 hb1))
              go_roundg (gk - 1)
              case measure => omega
              case rel => exact ⟨j + 1, acc ++ [32], _, rfl, by simp, by omega, by omega, by rw [List.length_append]; simp; omega, Lib.hid (by rw [HF.out, hstep, List.append_assoc]; rfl), ho1, HB.out.trans (((Below.refl _ _).alloc hbs _).trans hb1)⟩
          · have hd1 : decide ((j : Int) + 1 < s.size) = false := by simp; omega
            have hstep : Sp.flat true ((L s).drop j) = 32 :: Sp.flat true ((L s).drop (j + 1)) := by
              have hnil : (L s).drop (j + 1) = [] := List.drop_eq_nil_of_le (by rw [L_length]; omega)
              rw [hdr, h13, hnil]
              rfl
            clear hdr h13 hjc
            go_wp2_with (first | (go_at_call 53; go_must (refine (refWhite_is 10 true _ rfl).mono ?_); rintro e w' ⟨rfl, rfl⟩) | (at_builtin; refine wpList_appB rfl (.tmp 36) (.tmp 38) rfl w.heap.size w.heap.size v _ acc [32] (by rfl) (HO.out.alloc _) (by rfl) (OwnB.one _ _ 32 _ rfl hbs) (by simp; omega) (by simp; omega) ?_; intro v' w1 ho1 hb1))
            go_roundg (gk - 1)
            case measure => omega
            case rel => exact ⟨j + 1, acc ++ [32], _, rfl, by simp, by omega, by omega, by rw [List.length_append]; simp; omega, Lib.hid (by rw [HF.out, hstep, List.append_assoc]; rfl), ho1, HB.out.trans (((Below.refl _ _).alloc hbs _).trans hb1)⟩
        · have c13 : ((s[j].toNat : Int) == 13) = false := u8_ne (k := 13) 13 rfl h13
          cases hw : Sp.white s[j] with
          | true =>
            have hstep : Sp.flat true ((L s).drop j) = 32 :: Sp.flat true ((L s).drop (j + 1)) := by rw [hdr, flat_other _ _ _ h13]; simp [Sp.blank, hw]
            have HW := Lib.hid hw
            clear hdr h13 hw
            go_wp2_with (first | (go_at_call 53; go_must (refine (refWhite_is s[j] true _ HW.out).mono ?_); rintro e w' ⟨rfl, rfl⟩) | (at_builtin; refine wpList_appB rfl (.tmp 36) (.tmp 38) rfl w.heap.size w.heap.size v _ acc [32] (by rfl) (HO.out.alloc _) (by rfl) (OwnB.one _ _ 32 _ rfl hbs) (by simp; omega) (by simp; omega) ?_; intro v' w1 ho1 hb1))
            go_roundg (gk - 1)
            case measure => omega
            case rel => exact ⟨j + 1, acc ++ [32], _, rfl, by simp, by omega, by omega, by rw [List.length_append]; simp; omega, Lib.hid (by rw [HF.out, hstep, List.append_assoc]; rfl), ho1, HB.out.trans (((Below.refl _ _).alloc hbs _).trans hb1)⟩
          | false =>
            have hstep : Sp.flat true ((L s).drop j) = s[j] :: Sp.flat true ((L s).drop (j + 1)) := by rw [hdr, flat_other _ _ _ h13]; simp [Sp.blank, hw]
            have HW := Lib.hid hw
            clear hdr h13 hw
            go_wp2_with (first | (go_at_call 53; go_must (refine (refWhite_is s[j] false _ HW.out).mono ?_); rintro e w' ⟨rfl, rfl⟩) | (at_builtin; refine wpList_appB rfl (.tmp 36) (.tmp 38) rfl w.heap.size w.heap.size v _ acc [s[j]] (by rfl) (HO.out.alloc _) (by rfl) (OwnB.one _ _ s[j] _ rfl hbs) (by simp; omega) (by simp; omega) ?_; intro v' w1 ho1 hb1))
            go_roundg (gk - 1)
            case measure => omega
            case rel => exact ⟨j + 1, acc ++ [s[j]], _, rfl, by simp, by omega, by omega, by rw [List.length_append]; simp; omega, Lib.hid (by rw [HF.out, hstep, List.append_assoc]; rfl), ho1, HB.out.trans (((Below.refl _ _).alloc hbs _).trans hb1)⟩
      · have hd : decide ((j : Int) < s.size) = false := by simp; omega
        have hfin : R = acc := by
          have hnil : (L s).drop j = [] := List.drop_eq_nil_of_le (by rw [L_length]; omega)
          rw [HF.out, hnil]
          exact List.append_nil _
        go_wp2_with fail
        go_ret
        exact ⟨_, rfl, HO.out.eq hfin.symm, HB.out⟩
end Go.Proofs.YtokdclmikllepaaGreatDoor
