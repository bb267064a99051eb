import Derived.Test.YtokdclmikllepaaGreatDoorLx
import Derived.Test.YtokdclmikllepaaGreatDoorLo
namespace Go.Proofs.YtokdclmikllepaaGreatDoor
open Go.RowKit
set_option linter.unusedVariables false
set_option linter.unusedSimpArgs false

theorem BigBd.of {x : Sp.EE} (h : wtEE x ≤ 100000) : BigBd x := by
  obtain ⟨h1, h2, h3, h4⟩ := EEBd.of h
  exact ⟨by omega, by omega, by omega, fun a ha => by have := h4 a ha; omega⟩
def spoilt : ByteArray := ⟨#[115, 112, 111, 105, 108, 116]⟩

set_option maxHeartbeats 8000000 in
set_option maxRecDepth 100000 in
theorem keeps_calls (s : ByteArray) (w : World) (hG : Gl w) (hs : s.size ≤ 140737488351232) :
    Calls Tryz.prog 15 #[.string s] w fun e w' => e = .returned (.bool true) ∧ Below w.heap.size w w' := by
  have HG := Lib.hid hG
  clear hG
  cases hR : Sp.parse (L s) with
  | error f =>
    obtain ⟨p, c⟩ := f
    have hc0 : ((c : Int) != 0) = true := by
      have := parse_code0 hR
      rw [bne_iff_ne]; simp only at this; omega
    have HR := Lib.hid hR
    clear hR
    go_enter Tryz.func15, Tryz.ntmps15
    go_wp2_with fail
    refine (parse_err_is s _ HG.out hs p c HR.out).mono ?_
    rintro e w1 ⟨rfl, hb1⟩
    go_wp2_with fail
    refine (tawake_calls _ (HG.out.below hb1)).mono ?_
    rintro e w2 ⟨rfl, hb2⟩
    have HB2 := Lib.hid (below_then hb1 hb2)
    clear hb1 hb2
    go_wp2_with fail
    refine (tawake_calls _ (HG.out.below HB2.out)).mono ?_
    rintro e w3 ⟨rfl, hb3⟩
    go_wp2_with fail
    go_ret
    exact ⟨rfl, below_then HB2.out hb3⟩
  | ok l =>
    obtain ⟨hs6, hl4, hwt, hne⟩ := parse_wt hR
    have hw1 := parse_wt1 hR
    obtain ⟨T, hT, -, -⟩ := again_law _ _ hR
    obtain ⟨n, hn⟩ : ∃ n, l.length = n := ⟨_, rfl⟩
    have hn0 : 0 < n := by rw [← hn]; exact List.length_pos_iff.2 hne
    rw [hn] at hl4
    have HR := Lib.hid hR
    have HT : Hid (Sp.write l = some T) := hT
    have HW := Lib.hid hw1
    have HN := Lib.hid hn
    clear hR hT hw1 hn hne
    go_enter Tryz.func15, Tryz.ntmps15
    go_wp2_with fail
    refine (parse_is s _ HG.out hs _ HR.out).mono ?_
    rintro e w1 ⟨hb1, v, rfl, hm⟩
    have HM := Lib.hid hm
    obtain ⟨g, cap, rfl, hg1, hg2, -⟩ := hm.cell (by rw [HN.out]; exact hn0)
    rw [HN.out] at HM
    rw [HN.out]
    clear hm
    have HB1 := Lib.hid hb1
    clear hb1
    go_wp2_with fail
    refine (tawake_calls _ (HG.out.below HB1.out)).mono ?_
    rintro e w2 ⟨rfl, hb2⟩
    have HB2 := Lib.hid (below_then HB1.out hb2)
    have HM2 := Lib.hid (HM.out.below hb2)
    have hB12 := hb2.size
    clear hb2 HM
    go_wp2_with fail
    refine (few_calls _ _ l HM2.out.toR (by rw [HN.out]; omega) (fun x hx => BigBd.of (HW.out x hx))).mono ?_
    rintro e w3 ⟨b, rfl, hb3, -⟩
    have HB3 := Lib.hid (below_then HB2.out hb3)
    have HM3 := Lib.hid (HM2.out.below hb3)
    have hB13 := hb3.size
    clear hb3 HM2
    cases b with
    | false =>
      go_wp2_with fail
      refine (tawake_calls _ (HG.out.below HB3.out)).mono ?_
      rintro e w4 ⟨rfl, hb4⟩
      have HB4 := Lib.hid (below_then HB3.out hb4)
      clear hb4
      go_wp2_with fail
      go_ret
      exact ⟨rfl, HB4.out⟩
    | true =>
      go_wp2_with fail
      refine (parse_is s _ (HG.out.below HB3.out) hs _ HR.out).mono ?_
      rintro e w4 ⟨hb4, vm, rfl, hmm⟩
      have HMM4 := Lib.hid hmm
      obtain ⟨a4, c4, rfl, -⟩ := hmm.toR
      rw [HN.out] at HMM4
      rw [HN.out]
      have HB4 := Lib.hid (below_then HB3.out hb4)
      have HSD4 := Lib.hid ((Sd.of HM3.out HN.out (Nat.le_refl _)).below hb4)
      clear hb4 hmm
      go_wp2_with fail
      refine (write_ok l _ _ HMM4.out.toR HW.out (by rw [HN.out]; omega) T HT.out).mono ?_
      rintro e w5 ⟨rfl, hb5⟩
      have HB5 := Lib.hid (below_then HB4.out hb5)
      have HMM5 := Lib.hid (HMM4.out.below hb5)
      have HSD0 := Lib.hid (HSD4.out.below hb5)
      clear hb5 HMM4 HSD4
      have HF0 : Hid (Fr w w5 w3.heap.size w5) := ⟨HB5.out, fun _ _ => rfl, rfl⟩
      go_wp2_with fail
      go_loopg [11, 12] (n + 1) (fun kk i _ wr => ∃ j : Nat, i = .int .i64 j ∧ j ≤ n ∧ n - j < kk ∧ Hid (Sd w.heap.size w3.heap.size g n cap l wr) ∧ Hid (Fr w w5 w3.heap.size wr))
      case atStart => exact ⟨0, rfl, Nat.zero_le _, by omega, HSD0, HF0⟩
      case round =>
        clear HSD0 HF0
        obtain ⟨j, rfl, hj, hkk, HSD, HF⟩ := hrel
        by_cases hlt : j < n
        · have hdj : decide ((j : Int) < n) = true := by simp; omega
          have hj0 : (0 : Int) ≤ j := by omega
          have hj1 : (j : Int) < n := by omega
          obtain ⟨x, hx⟩ : ∃ x, l[j]? = some x := ⟨_, List.getElem?_eq_getElem (by rw [HN.out]; exact hlt)⟩
          have hwx := HW.out x (List.mem_of_getElem? hx)
          have hal : x.attrs.length ≤ 100000 := by
            have := sum_len wtEA (fun a => by unfold wtEA; omega) x.attrs
            unfold wtEE at hwx; omega
          obtain ⟨m, hm⟩ : ∃ m, x.attrs.length = m := ⟨_, rfl⟩
          rw [hm] at hal
          have HX := Lib.hid hx
          have HMm := Lib.hid hm
          obtain ⟨gk0, rfl⟩ : ∃ z, z = gk := ⟨_, rfl⟩
          clear hx hm hwx
          go_wp2_with fail
          go_loopg [12] (m + 1) (fun k2 q2 wr2 => ∃ q : Nat, q2 = .int .i64 q ∧ q ≤ m ∧ m - q < k2 ∧ Hid (Sd w.heap.size w3.heap.size g n cap l wr2) ∧ Hid (Fr w w5 w3.heap.size wr2))
          case atStart => exact ⟨0, rfl, Nat.zero_le _, by omega, HSD, HF⟩
          case round =>
            clear HSD HF
            obtain ⟨q, rfl, hq, hk2, HSD, HF⟩ := hrel
            obtain ⟨av, c1, ⟨u0, c0⟩, hfz, hrw⟩ := HSD.out.get HX.out hlt
            rw [HMm.out] at hrw
            have HRW := Lib.hid hrw
            obtain ⟨aa, ac, rfl, haa⟩ := hrw.get
            clear hrw
            by_cases hlt2 : q < m
            · have hd2 : decide ((q : Int) < m) = true := by simp; omega
              have hq0 : (0 : Int) ≤ q := by omega
              have hq1 : (q : Int) < m := by omega
              obtain ⟨ga, rfl, hga0, hga1, hgf, hgc⟩ := haa (by omega)
              obtain ⟨u1, d1⟩ := hgc q hlt2
              have f1 := hgf (q * 3 + 1)
              have HSD2 := Lib.hid (HSD.out.setA HRW.out (q * 3 + 1) (.string spoilt))
              have HF2 := Lib.hid (HF.out.set hga0 hga1 (q * 3 + 1) (.string spoilt))
              clear hgf hgc hfz c0
              go_wp2_with fail
              go_roundg (gk - 1)
              case measure => omega
              case rel => exact ⟨q + 1, by simp, by omega, by omega, HSD2, HF2⟩
            · have hqm : q = m := by omega
              subst hqm
              have hd2 : decide ((q : Int) < q) = false := by simp
              have f0 := hfz (j * 5)
              have HSD2 := Lib.hid (HSD.out.setE j (.string spoilt))
              have HF2 := Lib.hid (HF.out.set HSD.out.2.2 HSD.out.2.1 (j * 5) (.string spoilt))
              clear hfz haa
              go_wp2_with fail
              go_roundg (gk0 - 1)
              case measure => omega
              case rel => exact ⟨j + 1, by simp, by omega, by omega, HSD2, HF2⟩
        · have hj' : j = n := by omega
          subst hj'
          have hdj : decide ((j : Int) < j) = false := by simp
          have HBW := Lib.hid HF.out.1
          have HMW := Lib.hid (HMM5.out.frame HF.out.2.1)
          clear HSD HF
          go_wp2_with fail
          refine (write_ok l _ _ HMW.out.toR HW.out (by rw [HN.out]; omega) T HT.out).mono ?_
          rintro e w7 ⟨rfl, hb7⟩
          have HB7 := Lib.hid (below_then HBW.out hb7)
          have HM7 := Lib.hid (HMW.out.below hb7)
          clear hb7 HMW
          go_wp2_with fail
          refine (parse_is s _ (HG.out.below HB7.out) hs _ HR.out).mono ?_
          rintro e w8 ⟨hb8, vn, rfl, hn8⟩
          have HN8 := Lib.hid hn8.toR
          obtain ⟨a8, c8, rfl, -⟩ := hn8.toR
          rw [HN.out] at HN8
          rw [HN.out]
          have HB8 := Lib.hid (below_then HB7.out hb8)
          have HM8 := Lib.hid (HM7.out.below hb8)
          clear hb8 hn8 HM7
          go_wp2_with fail
          refine (same9_calls _ _ _ l l true HM8.out.toR HN8.out (by rw [HN.out]; exact hl4) rfl (SmE.all true) HW.out).mono ?_
          rintro e w9 ⟨rfl, hb9⟩
          have HB9 := Lib.hid (below_then HB8.out hb9)
          clear hb9
          go_wp2_with fail
          go_ret
          exact ⟨rfl, HB9.out⟩
end Go.Proofs.YtokdclmikllepaaGreatDoor
