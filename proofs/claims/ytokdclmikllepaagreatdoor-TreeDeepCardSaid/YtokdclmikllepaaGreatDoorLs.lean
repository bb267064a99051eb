import Derived.Test.YtokdclmikllepaaGreatDoorLo
import Derived.Test.YtokdclmikllepaaGreatDoorKt43
import Derived.Lib.AppendStr
namespace Go.Proofs.YtokdclmikllepaaGreatDoor
open Go.RowKit
set_option linter.unusedVariables false
set_option linter.unusedSimpArgs false

/-! ### TreeDeep -/
theorem infoU8t : (Tryz.prog.info? 5).map (fun i => (i.zero, i.size, i.bytes)) = some (some (.int .u8 0), 1, 1) := by kernel_rfl
theorem wpList_appT {w : World} {ops : Array Oper} {rest : List Oper} {o : Oper} {a : Act} {Q : Exit → Act → World → Prop} (hgd : o.guard = none) (s x : Operand)
    (ho : o.op = .call { callee := .builtin .append, args := #[s, x], argTypes := #[36, 9] })
    (base : Nat) (v : Value) (l : List UInt8) (t : ByteArray) (hs : a.eval s = v) (hv : OwnB base w v l) (hx : a.eval x = .string t)
    (hb : l.length + t.size ≤ 140737488355328) (hbase : base ≤ w.heap.size)
    (h : ∀ v' w', OwnB base w' v' (l ++ L t) → Below base w w' → wpList Tryz.prog ops Q rest (a.put o.dst v') w') : wpList Tryz.prog ops Q (o :: rest) a w := by
  obtain ⟨i0, hi, hz0, hz1, hz2⟩ := info_parts infoU8t
  refine Lib.wpList_append_own_string _ hgd s x 36 9 ho base 5 i0 Tryz.underlying36 Tryz.underlying9 hi hz0 hz1 hz2 v l.length (byteVals l) hs hv t hx (by unfold maxLen; omega) hb hbase ?_
  intro v' w' h1 hg _
  refine h v' w' ?_ ⟨hg.os, hg.tape, hg.output, hg.size, fun k hk => hg.block k (by omega) (fun e => by
    have := (World.ownsRow.lt hv k e.symm).1
    omega)⟩
  unfold OwnB
  rw [List.length_append, byteVals_append, L_length]
  exact h1
theorem rept_size (w : List UInt8) (n : Nat) : (rept w n).length = n * w.length := by
  induction n with
  | zero => simp [rept]
  | succ n ih => rw [rept, List.length_append, ih, Nat.succ_mul]
theorem manyD_snoc (k : Nat) : [60, 114, 62] ++ rept [60, 101, 47, 62] (k - 1) ++ L (⟨#[60, 47, 114, 62]⟩ : ByteArray) = manyD k := rfl

set_option maxHeartbeats 8000000 in
set_option maxRecDepth 100000 in
theorem deep_calls (a b : Nat) (ha : a < 256) (hb : b < 65536) (w : World) (hG : Gl w) :
    Calls Tryz.prog 13 #[.int .u8 a, .int .u16 b] w fun e w' => e = .returned (.bool true) ∧ Below w.heap.size w w' := by
  have HG := Lib.hid hG
  clear hG
  obtain ⟨d, hd⟩ : ∃ d, a % 20 = d := ⟨_, rfl⟩
  have hd20 : d < 20 := by omega
  obtain ⟨k, hk⟩ : ∃ k, b % 8 + 4090 = k := ⟨_, rfl⟩
  have hk1 : 4090 ≤ k := by omega
  have hk2 : k ≤ 4097 := by omega
  have hrd : Int.tmod (a : Int) 20 = (d : Int) := by rw [Int.tmod_eq_emod_of_nonneg (by omega)]; omega
  have hrb : Int.tmod (b : Int) 8 = ((k - 4090 : Nat) : Int) := by rw [Int.tmod_eq_emod_of_nonneg (by omega)]; omega
  have hkk : ((k - 4090 : Nat) : Int) + 4090 = (k : Int) := by omega
  have HDL := Lib.hid (deep_levels d hd20)
  have HDM := Lib.hid (deep_many k hk1 hk2)
  clear hd hk
  go_enter Tryz.func13, Tryz.ntmps13
  go_wp2_with fail
  go_loopg [6, 7] (d + 1) (fun kk s i wr => ∃ (j : Nat) (sb : ByteArray), i = .int .i64 j ∧ s = .string sb ∧ Hid (L sb = rept [60, 97, 62] j) ∧ sb.size ≤ 1000 ∧ j ≤ d ∧ d - j < kk ∧ Hid (Below w.heap.size w wr))
  case atStart => exact ⟨0, ⟨#[]⟩, rfl, rfl, rfl, by decide, by omega, by omega, Below.refl _ _⟩
  case round =>
    obtain ⟨j, sb, rfl, rfl, hsb, hsz0, hj, hkk', HB0⟩ := hrel
    by_cases hlt : j < d
    · have hdd : decide ((j : Int) < d) = true := by simp; omega
      go_wp2_with fail
      go_roundg (gk - 1)
      case measure => omega
      case rel =>
        have h2 : L (sb ++ (⟨#[60, 97, 62]⟩ : ByteArray)) = rept [60, 97, 62] (j + 1) := by rw [L_app, hsb.out]; rfl
        refine ⟨j + 1, sb ++ ⟨#[60, 97, 62]⟩, by simp, rfl, Lib.hid h2, ?_, by omega, by omega, HB0⟩
        rw [← L_length, h2, rept_size]
        show (j + 1) * 3 ≤ 1000
        omega
    · have hj' : j = d := by omega
      subst hj'
      have hdd : decide ((j : Int) < j) = false := by simp
      go_wp2_with fail
      go_loopg [6, 8] (j + 1) (fun kk s i wr => ∃ (q : Nat) (sc : ByteArray), i = .int .i64 q ∧ s = .string sc ∧ Hid (L sc = rept [60, 97, 62] j ++ rept [60, 47, 97, 62] q) ∧ sc.size ≤ 1000 ∧ q ≤ j ∧ j - q < kk ∧ Hid (Below w.heap.size w wr))
      case atStart => exact ⟨0, sb, rfl, rfl, (by show _ = _; rw [hsb.out, rept, List.append_nil]), hsz0, by omega, by omega, HB0⟩
      case round =>
        clear hsb HB0 hsz0
        obtain ⟨q, sc, rfl, rfl, hsc, hsz, hq, hkk2, HB0⟩ := hrel
        by_cases hlt2 : q < j
        · have hdd2 : decide ((q : Int) < j) = true := by simp; omega
          go_wp2_with fail
          go_roundg (gk - 1)
          case measure => omega
          case rel =>
            have h2 : L (sc ++ (⟨#[60, 47, 97, 62]⟩ : ByteArray)) = rept [60, 97, 62] j ++ rept [60, 47, 97, 62] (q + 1) := by rw [L_app, hsc.out, List.append_assoc]; rfl
            refine ⟨q + 1, sc ++ ⟨#[60, 47, 97, 62]⟩, by simp, rfl, Lib.hid h2, ?_, by omega, by omega, HB0⟩
            rw [← L_length, h2, List.length_append, rept_size, rept_size]
            show j * 3 + (q + 1) * 4 ≤ 1000
            omega
        · have hq' : q = j := by omega
          subst hq'
          have hdd2 : decide ((q : Int) < q) = false := by simp
          have hlv : L sc = lvl q := hsc.out
          rw [← hlv] at HDL
          have HDL := HDL.out
          clear hsc hlv
          by_cases h0 : q = 0
          · subst h0
            rw [if_pos rfl] at HDL
            have hp := lenOf_error HDL
            have HP := Lib.hid hp
            clear hp HDL
            go_wp2_with fail
            refine (parse_err_is sc _ (HG.out.below HB0.out) (by omega) 0 95 HP.out).mono ?_
            rintro e w1 ⟨rfl, hb1⟩
            go_wp2_with fail
            have hb1 := below_then HB0.out hb1
            refine (tawake_calls _ (HG.out.below hb1)).mono ?_
            rintro e w2 ⟨rfl, hb2⟩
            have HB2 := Lib.hid (below_then hb1 hb2)
            clear hb1 hb2
            go_wp2_with fail
            go_ret
            exact ⟨rfl, HB2.out⟩
          · rw [if_neg h0] at HDL
            have hq0 : ((q : Int) == 0) = false := by rw [beq_eq_false_iff_ne]; omega
            by_cases h16 : 16 < q
            · rw [if_pos h16] at HDL
              have hp := lenOf_error HDL
              have HP := Lib.hid hp
              have hd16 : decide ((16 : Int) < q) = true := by simp; omega
              clear hp HDL
              go_wp2_with fail
              refine (parse_err_is sc _ (HG.out.below HB0.out) (by omega) 48 93 HP.out).mono ?_
              rintro e w1 ⟨rfl, hb1⟩
              go_wp2_with fail
              have hb1 := below_then HB0.out hb1
              refine (tawake_calls _ (HG.out.below hb1)).mono ?_
              rintro e w2 ⟨rfl, hb2⟩
              have HB2 := Lib.hid (below_then hb1 hb2)
              clear hb1 hb2
              go_wp2_with fail
              go_ret
              exact ⟨rfl, HB2.out⟩
            · rw [if_neg h16] at HDL
              obtain ⟨l, hp, hll⟩ := lenOf_ok HDL
              have HP := Lib.hid hp
              have hd16 : decide ((16 : Int) < q) = false := by simp; omega
              clear hp HDL
              go_wp2_with fail
              refine (parse_is sc _ (HG.out.below HB0.out) (by omega) _ HP.out).mono ?_
              rintro e w1 ⟨hb1, v, rfl, hm⟩
              obtain ⟨a1, c1, rfl, -⟩ := hm.toR
              rw [hll]
              clear hm
              go_wp2_with fail
              have hb1 := below_then HB0.out hb1
              refine (tawake_calls _ (HG.out.below hb1)).mono ?_
              rintro e w2 ⟨rfl, hb2⟩
              have HB2 := Lib.hid (below_then hb1 hb2)
              clear hb1 hb2 HP hll
              have hon : OwnB w2.heap.size w2 (.slice none 0 0) [] := ⟨rfl, .inl ⟨rfl, rfl⟩⟩
              go_wp2_with (at_builtin; refine wpList_appT rfl (.tmp 68) (.const (.string ⟨#[60, 114, 62]⟩)) rfl w2.heap.size _ [] ⟨#[60, 114, 62]⟩ (by rfl) hon (by rfl) (by decide) (Nat.le_refl _) ?_; intro v' w3 ho3 hb3)
              have HO3 : Hid (OwnB w2.heap.size w3 v' ([60, 114, 62] ++ rept [60, 101, 47, 62] 0)) := ho3
              have HB3 : Hid (Below w2.heap.size w2 w3) := hb3
              clear ho3 hb3 hon
              go_loopg [13, 14] (k + 1) (fun kk v i wr => ∃ j : Nat, i = .int .i64 j ∧ 1 ≤ j ∧ j ≤ k ∧ k - j < kk ∧ Hid (OwnB w2.heap.size wr v ([60, 114, 62] ++ rept [60, 101, 47, 62] (j - 1))) ∧ Hid (Below w2.heap.size w2 wr))
              case atStart => exact ⟨1, rfl, by omega, by omega, by omega, HO3, HB3⟩
              case round =>
                clear HO3 HB3
                obtain ⟨j, rfl, hj1, hjk, hkk3, HO, HB⟩ := hrel
                by_cases hlt3 : j < k
                · have hdd3 : decide ((j : Int) < k) = true := by simp; omega
                  go_wp2_with (at_builtin; refine wpList_appT rfl (.tmp 75) (.const (.string ⟨#[60, 101, 47, 62]⟩)) rfl w2.heap.size _ _ ⟨#[60, 101, 47, 62]⟩ (by rfl) HO.out (by rfl) (by rw [List.length_append, rept_size]; show 3 + (j - 1) * 4 + 4 ≤ _; omega) HB.out.size ?_; intro v' w4 ho4 hb4)
                  go_roundg (gk - 1)
                  case measure => omega
                  case rel =>
                    refine ⟨j + 1, by simp, by omega, by omega, by omega, ?_, HB.out.trans hb4⟩
                    show OwnB _ _ _ _
                    rw [show j + 1 - 1 = (j - 1) + 1 by omega, rept, ← List.append_assoc]
                    exact ho4
                · have hjk' : j = k := by omega
                  subst hjk'
                  have hdd3 : decide ((j : Int) < j) = false := by simp
                  obtain ⟨z, hz⟩ : ∃ z : ByteArray, (⟨(manyD j).toArray⟩ : ByteArray) = z := ⟨_, rfl⟩
                  go_wp2_with (at_builtin; refine wpList_appT rfl (.tmp 77) (.const (.string ⟨#[60, 47, 114, 62]⟩)) rfl w2.heap.size _ _ ⟨#[60, 47, 114, 62]⟩ (by rfl) HO.out (by rfl) (by rw [List.length_append, rept_size]; show 3 + (j - 1) * 4 + 4 ≤ _; omega) HB.out.size ?_; intro v' w4 ho4 hb4; rw [manyD_snoc] at ho4; have hcv := OwnB.conv ho4; rw [hz] at hcv)
                  obtain ⟨hzs, hzL⟩ := sz_of hz
                  have hzl : z.size ≤ 100000 := by
                    rw [hzs]
                    unfold manyD
                    rw [List.length_append, List.length_append, rept_size]
                    show 3 + (j - 1) * 4 + 4 ≤ _
                    omega
                  have HB4 := Lib.hid (below_then HB2.out (HB.out.trans hb4))
                  have HDM2 := HDM.out
                  rw [← hzL] at HDM2
                  clear ho4 hb4 HO HB hz hzs hzL
                  by_cases hbig : 4096 < j
                  · rw [if_pos hbig] at HDM2
                    have hp := lenOf_error HDM2
                    have HP := Lib.hid hp
                    have hdb : decide ((4096 : Int) < j) = true := by simp; omega
                    clear hp HDM2
                    go_wp2_with fail
                    refine (parse_err_is z _ (HG.out.below HB4.out) (by omega) _ _ HP.out).mono ?_
                    rintro e w5 ⟨rfl, hb5⟩
                    have HB5 := Lib.hid (below_then HB4.out hb5)
                    clear hb5
                    go_wp2_with fail
                    go_ret
                    exact ⟨rfl, HB5.out⟩
                  · rw [if_neg hbig] at HDM2
                    obtain ⟨m, hp, hmm⟩ := lenOf_ok HDM2
                    have HP := Lib.hid hp
                    have hdb : decide ((4096 : Int) < j) = false := by simp; omega
                    clear hp HDM2
                    go_wp2_with fail
                    refine (parse_is z _ (HG.out.below HB4.out) (by omega) _ HP.out).mono ?_
                    rintro e w5 ⟨hb5, v5, rfl, hm5⟩
                    obtain ⟨a5, c5, rfl, -⟩ := hm5.toR
                    rw [hmm]
                    have HB5 := Lib.hid (below_then HB4.out hb5)
                    clear hb5 hm5
                    go_wp2_with fail
                    go_ret
                    exact ⟨rfl, HB5.out⟩
end Go.Proofs.YtokdclmikllepaaGreatDoor
