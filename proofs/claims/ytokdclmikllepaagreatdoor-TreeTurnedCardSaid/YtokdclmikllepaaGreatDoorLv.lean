import Derived.Test.YtokdclmikllepaaGreatDoorLu
import Derived.Deep.RegionHeld3
import Derived.BigQuiet
namespace Go.Proofs.YtokdclmikllepaaGreatDoor
open Go.RowKit
set_option linter.unusedVariables false
set_option linter.unusedSimpArgs false

/-- However a document is read. -/
theorem parse_any (s : ByteArray) (w : World) (hG : Gl w) (hs : s.size ≤ 140737488351232) :
    Calls Tryz.prog 37 #[.string s] w fun e w' => (∃ (a : Option Addr) (n c : Nat) (p k : Nat), e = .returned (.tuple #[.slice a n c, .int .i64 p, .int .i64 k])) ∧ Below w.heap.size w w' := by
  refine (parse_calls s w hG hs).mono ?_
  rintro e w' ⟨hb, he⟩
  refine ⟨?_, hb⟩
  cases hR : Sp.parse (L s) with
  | error f => rw [hR] at he; exact ⟨_, _, _, _, _, he⟩
  | ok l =>
    rw [hR] at he
    obtain ⟨v, he, hm⟩ := he
    obtain ⟨a, c, rfl, -⟩ := hm.toR
    exact ⟨a, _, c, 0, 0, he⟩
theorem shEl_back (x : Sp.EE) : (x.attrs.map shAE).map (byEA (-9)) = x.attrs := by
  rw [List.map_map]
  conv => rhs; rw [← List.map_id x.attrs]
  refine List.map_congr_left fun a _ => ?_
  show (⟨a.name, a.value, a.at_ + 9 + -9⟩ : Sp.EA) = a
  rw [show a.at_ + 9 + -9 = a.at_ by omega]
theorem EasAt.below {B : Nat} {w w' : World} {v : Value} {l : List Sp.EA} (h : EasAt B w v l) (hb : Below w.heap.size w w') : EasAt B w' v l := own_below h hb

set_option maxHeartbeats 16000000 in
set_option maxRecDepth 100000 in
theorem turned_calls (s : ByteArray) (w : World) (hG : Gl w) (hs : s.size ≤ 140737488351232) :
    Calls Tryz.prog 14 #[.string s] w fun e w' => e = .returned (.bool true) ∧ Below w.heap.size w w' := by
  have HG := Lib.hid hG
  clear hG
  by_cases hbig : 60000 < s.size
  · have hd : decide ((60000 : Int) < s.size) = true := by simp; omega
    go_enter Tryz.func14, Tryz.ntmps14
    go_wp2_with fail
    refine (parse_any s _ HG.out hs).mono ?_
    rintro e w1 ⟨⟨a, n, c, p, k, rfl⟩, hb1⟩
    go_wp2_with fail
    refine (tawake_calls _ (HG.out.below hb1)).mono ?_
    rintro e w2 ⟨rfl, hb2⟩
    have HB2 := Lib.hid (below_then hb1 hb2)
    clear hb1 hb2
    go_wp2_with fail
    refine (tawake_calls _ (HG.out.below HB2.out)).mono ?_
    rintro e w3 ⟨rfl, hb3⟩
    have HB3 := Lib.hid (below_then HB2.out hb3)
    clear hb3
    go_wp2_with fail
    go_ret
    exact ⟨rfl, HB3.out⟩
  · have hd : decide ((60000 : Int) < s.size) = false := by simp; omega
    by_cases hx : 4 < s.size ∧ L (s.extract 0 5) = Sp.xml5
    · obtain ⟨h4, hxl⟩ := hx
      have hd4 : decide ((4 : Int) < s.size) = true := by simp; omega
      have hp0 : (0 : Int) ≤ 5 := by omega
      have hp5 : (5 : Int) ≤ s.size := by omega
      have heq : ((s.extract 0 5).toList == [60, 63, 120, 109, 108]) = true := by rw [toList_L, hxl]; rfl
      clear hxl
      go_enter Tryz.func14, Tryz.ntmps14
      go_wp2_with fail
      refine (parse_any s _ HG.out hs).mono ?_
      rintro e w1 ⟨⟨a, n, c, p, k, rfl⟩, hb1⟩
      go_wp2_with fail
      refine (tawake_calls _ (HG.out.below hb1)).mono ?_
      rintro e w2 ⟨rfl, hb2⟩
      have HB2 := Lib.hid (below_then hb1 hb2)
      clear hb1 hb2
      go_wp2_with fail
      refine (tawake_calls _ (HG.out.below HB2.out)).mono ?_
      rintro e w3 ⟨rfl, hb3⟩
      have HB3 := Lib.hid (below_then HB2.out hb3)
      clear hb3
      go_wp2_with fail
      go_ret
      exact ⟨rfl, HB3.out⟩
    · obtain ⟨T, hT⟩ : ∃ T : ByteArray, (⟨#[60, 122, 32, 107, 61, 39, 49, 39, 62]⟩ : ByteArray) ++ s ++ (⟨#[60, 47, 122, 62]⟩ : ByteArray) = T := ⟨_, rfl⟩
      have hTL : L T = zhead ++ L s ++ ztail := by rw [← hT, L_app, L_app]; rfl
      have hTs : T.size ≤ 70000 := by
        rw [← L_length, hTL, List.length_append, List.length_append, L_length]
        show 9 + s.size + 4 ≤ _
        omega
      have hlaw := fun l h => turned_law (L s) l h (by rw [L_length]; omega) (fun hh => hx ⟨by have := hh.1; rw [L_length] at this; omega, by rw [L_extract]; simpa using hh.2⟩)
      rw [← hTL] at hlaw
      have HLAW := Lib.hid hlaw
      have HTT := Lib.hid hT
      have hcond : (decide ((4 : Int) < s.size) = false) ∨ (decide ((4 : Int) < s.size) = true ∧ (0 : Int) ≤ 5 ∧ (5 : Int) ≤ s.size ∧ ((s.extract 0 5).toList == [60, 63, 120, 109, 108]) = false) := by
        by_cases h4 : 4 < s.size
        · right
          refine ⟨by simp; omega, by omega, by omega, ?_⟩
          rw [beq_eq_false_iff_ne]
          intro he
          rw [toList_L] at he
          exact hx ⟨h4, he⟩
        · left
          simp; omega
      clear hlaw hT hTL hx
      cases hR : Sp.parse (L s) with
      | error f =>
        obtain ⟨p, c⟩ := f
        have hc0 : ((c : Int) != 0) = true := by
          have := parse_code0 hR
          rw [bne_iff_ne]; simp only at this; omega
        have HR := Lib.hid hR
        clear hR HLAW
        rcases hcond with hd4 | ⟨hd4, hp0, hp5, hne5⟩
        all_goals
          go_enter Tryz.func14, Tryz.ntmps14
          go_wp2_with fail
          refine (parse_err_is s _ HG.out hs p c HR.out).mono ?_
          rintro e w1 ⟨rfl, hb1⟩
          go_wp2_with fail
          refine (tawake_calls _ (HG.out.below hb1)).mono ?_
          rintro e w2 ⟨rfl, hb2⟩
          have HB2 := Lib.hid (below_then hb1 hb2)
          clear hb1 hb2
          go_wp2_with fail
          rw [HTT.out]
          refine (parse_any T _ (HG.out.below HB2.out) (by omega)).mono ?_
          rintro e w3 ⟨⟨a3, n3, c3, p3, k3, rfl⟩, hb3⟩
          have HB3 := Lib.hid (below_then HB2.out hb3)
          clear hb3
          go_wp2_with fail
          go_ret
          exact ⟨rfl, HB3.out⟩
      | ok l =>
        have hlw := HLAW.out l hR
        have HPB := Lib.hid (parse_bd hR)
        obtain ⟨hs6, hl4, hwt, hne⟩ := parse_wt hR
        have HW1 := Lib.hid (parse_wt1 hR)
        have HR := Lib.hid hR
        clear hR HLAW
        rcases hlw with ⟨z, hz1, hz2, hz3⟩ | ⟨pp, ee, hz1, hz2⟩
        · have HZ1 := Lib.hid hz1
          obtain ⟨n, hn⟩ : ∃ n, l.length = n := ⟨_, rfl⟩
          have hn1 : (z :: l.map shEl).length = n + 1 := by simp [hn]
          have HN := Lib.hid hn
          have hn0 : 0 < n := by rw [← hn]; exact List.length_pos_iff.2 hne
          rw [hn] at hl4
          clear hz1 hn
          go_enter Tryz.func14, Tryz.ntmps14
          go_wp2_with fail
          refine (parse_is s _ HG.out hs _ HR.out).mono ?_
          rintro e w1 ⟨hb1, v, rfl, hm⟩
          have HM := Lib.hid hm.toR
          obtain ⟨a1, c1, rfl, -⟩ := hm.toR
          rw [HN.out] at HM
          rw [HN.out]
          clear hm
          have HB1 := Lib.hid hb1
          clear hb1
          go_upto_region 2 with fail
          go_cut [32] (fun s32 wx => s32 = .bool false ∧ Hid (Below w1.heap.size w1 wx))
          case first =>
            rcases hcond with hd4 | ⟨hd4, hp0, hp5, hne5⟩
            all_goals
              go_wp2_with fail
              refine (tawake_calls _ (HG.out.below HB1.out)).mono ?_
              rintro e w2 ⟨rfl, hb2⟩
              go_wp2_with fail
              go_meet
              exact ⟨rfl, hb2⟩
          case rest =>
            obtain ⟨rfl, HB2'⟩ := hcut
            obtain ⟨w2, rfl⟩ : ∃ z, z = wc := ⟨_, rfl⟩
            have HB2 := Lib.hid (below_then HB1.out HB2'.out)
            have HM2 := Lib.hid (HM.out.below HB2'.out)
            clear HM HB2' hcond
            apply_assumption
            go_wp2_with fail
            rw [HTT.out]
            refine (parse_is T _ (HG.out.below HB2.out) (by omega) _ HZ1.out).mono ?_
            rintro e w3 ⟨hb3, v3, rfl, hm3⟩
            have HB3 := Lib.hid (below_then HB2.out hb3)
            have HM3 := Lib.hid (HM2.out.below hb3)
            have HN3 := Lib.hid hm3.toR
            obtain ⟨a3, c3, rfl, -⟩ := hm3.toR
            rw [hn1] at HN3
            rw [hn1]
            clear hb3 HM2 hm3
            have hwn : IntKind.i64.wrap ((n : Int) + 1) = (n : Int) + 1 := IntWalk.i64_in _ (by omega)
            have hz2' : z.name = [122] := hz2
            obtain ⟨a4, c4, he4, hcz⟩ := HN3.out.cells
            injection he4 with e1 e2 e3
            subst e1 e3
            rw [hn1] at hcz
            obtain ⟨g2, o2, rfl, hg2, hcz⟩ := hcz (by omega)
            obtain ⟨zv, hzv, hzc⟩ := hcz 0 z rfl
            obtain ⟨zc1, zc2, zc3, zc4, zc5⟩ := hzc w3 (Below.refl _ _)
            obtain ⟨za, zcc, rfl, -⟩ := hzv
            rw [hz2] at zc1
            rw [hz3] at zc2
            have HCZ := Lib.hid hcz
            obtain ⟨a5, c5, he5, hcl⟩ := HM3.out.cells
            injection he5 with e1 e2 e3
            subst e1 e3
            rw [HN.out] at hcl
            obtain ⟨g1, o1, rfl, hg1, hcl⟩ := hcl hn0
            have HCL := Lib.hid hcl
            simp only [Nat.zero_mul, Nat.add_zero] at zc1 zc2
            clear hcz hcl hzc zc3 zc4 zc5
            go_wp2_with fail
            go_loopg [9] (n + 1) (fun kk i9 wr => ∃ j : Nat, i9 = .int .i64 j ∧ j ≤ n ∧ n - j < kk ∧ Hid (Below w.heap.size w wr) ∧ Hid (Below w3.heap.size w3 wr))
            case atStart => exact ⟨0, rfl, Nat.zero_le _, by omega, HB3, Below.refl _ _⟩
            case round =>
              clear zc1 zc2
              obtain ⟨j, rfl, hj, hkk, HBW, HB3W⟩ := hrel
              by_cases hlt : j < n
              · have hdj : decide ((j : Int) < n) = true := by simp; omega
                have hj0 : (0 : Int) ≤ j := by omega
                have hj1 : (j : Int) < n := by omega
                have hwj : IntKind.i64.wrap ((j : Int) + 1) = (j : Int) + 1 := IntWalk.i64_in _ (by omega)
                have htj : ((j : Int) + 1).toNat = j + 1 := by omega
                have hj2 : (0 : Int) ≤ (j : Int) + 1 := by omega
                have hj3 : (j : Int) + 1 < (n : Int) + 1 := by omega
                obtain ⟨x, hx⟩ : ∃ x, l[j]? = some x := ⟨_, List.getElem?_eq_getElem (by rw [HN.out]; exact hlt)⟩
                have hxz : (z :: l.map shEl)[j + 1]? = some (shEl x) := by rw [List.getElem?_cons_succ, List.getElem?_map, hx]; rfl
                obtain ⟨hu0, hu1, ht0, ht1, hat⟩ := HPB.out x (List.mem_of_getElem? hx)
                have hwx := HW1.out x (List.mem_of_getElem? hx)
                have hal : x.attrs.length ≤ 100000 := by
                  have := sum_len wtEA (fun a => by unfold wtEA; omega) x.attrs
                  unfold wtEE at hwx; omega
                have hwu : IntKind.i64.wrap (x.up + 1) = x.up + 1 := IntWalk.i64_in _ (by omega)
                have hwa : IntKind.i64.wrap (x.at_ + 9) = x.at_ + 9 := IntWalk.i64_in _ (by omega)
                obtain ⟨av, hav, hc1⟩ := HCL.out j x hx
                obtain ⟨bv, hbv, hc2⟩ := HCZ.out (j + 1) _ hxz
                obtain ⟨x0, x1, x2, x3, x4⟩ := hc1 wr HB3W.out
                obtain ⟨y0, y1, y2, y3, y4⟩ := hc2 wr HB3W.out
                have HAV := Lib.hid hav
                have HBV := Lib.hid hbv
                obtain ⟨aa, ac, rfl, -⟩ := hav
                obtain ⟨ba, bc, rfl, -⟩ := hbv
                have HC1 := Lib.hid hc1
                have HAT : Hid (∀ a ∈ x.attrs.map shAE, 0 ≤ a.at_ ∧ a.at_ ≤ 200000) := by
                  intro a ha
                  obtain ⟨c, hc, rfl⟩ := List.mem_map.1 ha
                  have := hat c hc
                  unfold shAE
                  simp only
                  omega
                have HAL := Lib.hid hal
                have hbl : (shEl x).attrs.length = x.attrs.length := by unfold shEl; simp
                rw [hbl] at y1 HBV
                have HC2 : Hid (∀ W, Below w3.heap.size w3 W → W.cell? ⟨g2, o2 + (j + 1) * 5, none⟩ = some (.string ⟨x.name.toArray⟩) ∧ W.cell? ⟨g2, o2 + (j + 1) * 5 + 1, none⟩ = some (.slice ba x.attrs.length bc) ∧ W.cell? ⟨g2, o2 + (j + 1) * 5 + 2, none⟩ = some (.string ⟨x.text.toArray⟩) ∧ W.cell? ⟨g2, o2 + (j + 1) * 5 + 3, none⟩ = some (.int .i64 (x.up + 1)) ∧ W.cell? ⟨g2, o2 + (j + 1) * 5 + 4, none⟩ = some (.int .i64 (x.at_ + 9))) := by
                  intro W hW
                  have h := hc2 W hW
                  rw [hbl] at h
                  exact h
                clear hc1 hc2 hx hxz hat hwx hal hbl
                go_wp2_with fail
                have HD3 : ∀ z, Hid (Below w3.heap.size w3 (wr.drewN z)) := fun z => below_drewN HB3W.out z
                have HDW : ∀ z, Hid (Below w.heap.size w (wr.drewN z)) := fun z => below_drewN HBW.out z
                dsimp only [List.append]
                go_region_held3 (fun w' => (w'.cell? ⟨g1, o1 + j * 5, none⟩ = some (.string ⟨x.name.toArray⟩) ∧ w'.cell? ⟨g1, o1 + j * 5 + 1, none⟩ = some (.slice aa x.attrs.length ac) ∧ w'.cell? ⟨g1, o1 + j * 5 + 2, none⟩ = some (.string ⟨x.text.toArray⟩) ∧ w'.cell? ⟨g1, o1 + j * 5 + 3, none⟩ = some (.int .i64 x.up) ∧ w'.cell? ⟨g1, o1 + j * 5 + 4, none⟩ = some (.int .i64 x.at_)) ∧
                    (w'.cell? ⟨g2, o2 + (j + 1) * 5, none⟩ = some (.string ⟨x.name.toArray⟩) ∧ w'.cell? ⟨g2, o2 + (j + 1) * 5 + 1, none⟩ = some (.slice ba x.attrs.length bc) ∧ w'.cell? ⟨g2, o2 + (j + 1) * 5 + 2, none⟩ = some (.string ⟨x.text.toArray⟩) ∧ w'.cell? ⟨g2, o2 + (j + 1) * 5 + 3, none⟩ = some (.int .i64 (x.up + 1)) ∧ w'.cell? ⟨g2, o2 + (j + 1) * 5 + 4, none⟩ = some (.int .i64 (x.at_ + 9))))
                  (first | exact ⟨⟨x0, x1, x2, x3, x4⟩, ⟨y0, y1, y2, y3, y4⟩⟩)
                  (first
                  | (go_at_call 46; go_must (refine (moved_calls _ _ (x.attrs.map shAE) (HBV.out.below (HD3 _).out) (by rw [List.length_map]; exact HAL.out) HAT.out).mono ?_); rintro e w4 ⟨v4, rfl, hea, hb4⟩; rw [shEl_back] at hea; have HEA := Lib.hid hea.toR; have HBW4 := Lib.hid (below_then (HDW _).out hb4); have HB34 := Lib.hid (below_then (HD3 _).out hb4); clear x0 x1 x2 x3 x4 y0 y1 y2 y3 y4 hb4 hea; obtain ⟨x0, x1, x2, x3, x4⟩ := HC1.out w4 HB34.out; obtain ⟨y0, y1, y2, y3, y4⟩ := HC2.out w4 HB34.out)
                  | (go_at_call 45; go_must (refine (sameAttrsR_calls _ _ _ x.attrs HEA.out (HAV.out.below HB34.out) HAL.out).mono ?_); rintro e w5 ⟨rfl, hb5⟩; have HBW5 := Lib.hid (below_then HBW4.out hb5); have HB35 := Lib.hid (below_then HB34.out hb5); clear x0 x1 x2 x3 x4 y0 y1 y2 y3 y4 hb5; obtain ⟨x0, x1, x2, x3, x4⟩ := HC1.out w5 HB35.out; obtain ⟨y0, y1, y2, y3, y4⟩ := HC2.out w5 HB35.out))
                go_wp2_with fail
                go_roundg (gk - 1)
                case measure => omega
                case rel => exact ⟨j + 1, by simp, by omega, by omega, HBW5, HB35⟩
              · have hj' : j = n := by omega
                subst hj'
                have hdj : decide ((j : Int) < j) = false := by simp
                go_wp2_with fail
                go_ret
                exact ⟨rfl, HBW.out⟩
        · have HZ1 := Lib.hid hz1
          have hee : ((ee : Int) != 0) = true ∧ (((ee : Int) == 93) = true ∨ (((ee : Int) == 93) = false ∧ ((ee : Int) == 94) = true)) := by
            rcases hz2 with rfl | rfl
            · exact ⟨rfl, .inl rfl⟩
            · exact ⟨rfl, .inr ⟨rfl, rfl⟩⟩
          obtain ⟨hee0, hee1⟩ := hee
          clear hz1 hz2
          rcases hcond with hd4 | ⟨hd4, hp0, hp5, hne5⟩
          all_goals
            go_enter Tryz.func14, Tryz.ntmps14
            go_wp2_with fail
            refine (parse_is s _ HG.out hs _ HR.out).mono ?_
            rintro e w1 ⟨hb1, v, rfl, hm⟩
            obtain ⟨a1, c1, rfl, -⟩ := hm.toR
            clear hm
            go_wp2_with fail
            refine (tawake_calls _ (HG.out.below hb1)).mono ?_
            rintro e w2 ⟨rfl, hb2⟩
            have HB2 := Lib.hid (below_then hb1 hb2)
            clear hb1 hb2
            go_wp2_with fail
            rw [HTT.out]
            refine (parse_err_is T _ (HG.out.below HB2.out) (by omega) pp ee HZ1.out).mono ?_
            rintro e w3 ⟨rfl, hb3⟩
            have HB3 := Lib.hid (below_then HB2.out hb3)
            clear hb3
            rcases hee1 with h93 | ⟨h93, h94⟩
            all_goals
              go_wp2_with fail
              go_ret
              exact ⟨rfl, HB3.out⟩
end Go.Proofs.YtokdclmikllepaaGreatDoor
