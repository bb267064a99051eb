import Derived.Test.YtokdclmikllepaaGreatDoorLq
namespace Go.Proofs.YtokdclmikllepaaGreatDoor
open Go.RowKit
set_option linter.unusedVariables false
set_option linter.unusedSimpArgs false

set_option maxHeartbeats 4000000 in
set_option maxRecDepth 100000 in
theorem again_calls (s : ByteArray) (w : World) (hG : Gl w) (hs : s.size ≤ 140737488351232) :
    Calls Tryz.prog 12 #[.string s] w fun e w' => e = .returned (.bool true) ∧ Below w.heap.size w w' := by
  have HG := Lib.hid hG
  clear hG
  cases hR : Sp.parse (L s) with
  | error f =>
    obtain ⟨p, c⟩ := f
    have hc0 : ((c : Int) == 0) = false := by
      have := parse_code0 hR
      rw [beq_eq_false_iff_ne]; simp only at this; omega
    have HR := Lib.hid hR
    clear hR
    go_enter Tryz.func12, Tryz.ntmps12
    go_wp2_with fail
    refine (parse_err_is s _ HG.out hs p c HR.out).mono ?_
    rintro e w1 ⟨rfl, hb1⟩
    go_wp2_with fail
    refine (tawake_calls _ (HG.out.below hb1)).mono ?_
    rintro e w2 ⟨rfl, hb2⟩
    have HB2 := Lib.hid (below_then hb1 hb2)
    clear hb1 hb2
    go_wp2_with fail
    refine (tawake_calls _ (HG.out.below HB2.out)).mono ?_
    rintro e w3 ⟨rfl, hb3⟩
    go_wp2_with fail
    go_ret
    exact ⟨rfl, below_then HB2.out hb3⟩
  | ok l =>
    obtain ⟨hs6, hl4, hwt, hne⟩ := parse_wt hR
    have hw1 := parse_wt1 hR
    obtain ⟨T, hT, hlong, hshort⟩ := again_law _ _ hR
    have hTl := write_len hw1 hT
    obtain ⟨t, ht⟩ : ∃ t : ByteArray, (⟨T.toArray⟩ : ByteArray) = t := ⟨_, rfl⟩
    obtain ⟨hts, htL⟩ := sz_of ht
    rw [← htL] at hlong hshort
    rw [← htL, L_length] at hTl
    have HR := Lib.hid hR
    have HT : Hid (Sp.write l = some T) := hT
    have HTT := Lib.hid ht
    have HW := Lib.hid hw1
    clear hR hT hw1 ht
    by_cases hlg : 65536 < t.size
    · have hlong := hlong (by rw [L_length]; exact hlg)
      have hd : decide ((65536 : Int) < t.size) = true := by simp; omega
      have HP := Lib.hid hlong
      clear hlong hshort
      go_enter Tryz.func12, Tryz.ntmps12
      go_wp2_with fail
      refine (parse_is s _ HG.out hs _ HR.out).mono ?_
      rintro e w1 ⟨hb1, v, rfl, hm⟩
      have HM := Lib.hid hm.toR
      obtain ⟨a1, c1, rfl, -⟩ := hm.toR
      clear hm
      go_wp2_with fail
      refine (tawake_calls _ (HG.out.below hb1)).mono ?_
      rintro e w2 ⟨rfl, hb2⟩
      have HB2 := Lib.hid (below_then hb1 hb2)
      have HM2 := Lib.hid (HM.out.below hb2)
      clear hb1 hb2 HM
      go_wp2_with fail
      refine (write_ok l _ _ HM2.out HW.out (by omega) T HT.out).mono ?_
      rw [HTT.out]
      rintro e w3 ⟨rfl, hb3⟩
      have HB3 := Lib.hid (below_then HB2.out hb3)
      clear hb3
      go_wp2_with fail
      refine (parse_err_is t _ (HG.out.below HB3.out) (by omega) 0 3 HP.out).mono ?_
      rintro e w4 ⟨rfl, hb4⟩
      have HB4 := Lib.hid (below_then HB3.out hb4)
      clear hb4
      go_wp2_with fail
      go_ret
      exact ⟨rfl, HB4.out⟩
    · obtain ⟨m, hm1, hm2, hm3⟩ := hshort (by rw [L_length]; omega)
      have hd : decide ((65536 : Int) < t.size) = false := by simp; omega
      obtain ⟨hml, hmi⟩ := (show SamL l m from hm2.symm).sm
      have hmw := parse_wt1 hm1
      have hm4 := (parse_wt hm1).2.1
      have HP := Lib.hid hm1
      have HU : Hid (Sp.write m = some T) := by show _ = _; rw [hm3, htL]
      have HMW := Lib.hid hmw
      have HMI := Lib.hid hmi
      have HML := Lib.hid hml
      clear hlong hshort hm1 hm2 hm3 hmw hmi hml
      go_enter Tryz.func12, Tryz.ntmps12
      go_wp2_with fail
      refine (parse_is s _ HG.out hs _ HR.out).mono ?_
      rintro e w1 ⟨hb1, v, rfl, hm⟩
      have HM := Lib.hid hm.toR
      obtain ⟨a1, c1, rfl, -⟩ := hm.toR
      clear hm
      go_wp2_with fail
      refine (tawake_calls _ (HG.out.below hb1)).mono ?_
      rintro e w2 ⟨rfl, hb2⟩
      have HB2 := Lib.hid (below_then hb1 hb2)
      have HM2 := Lib.hid (HM.out.below hb2)
      clear hb1 hb2 HM
      go_wp2_with fail
      refine (write_ok l _ _ HM2.out HW.out (by omega) T HT.out).mono ?_
      rw [HTT.out]
      rintro e w3 ⟨rfl, hb3⟩
      have HB3 := Lib.hid (below_then HB2.out hb3)
      have HM3 := Lib.hid (HM2.out.below hb3)
      clear hb3 HM2
      go_wp2_with fail
      refine (parse_is t _ (HG.out.below HB3.out) (by omega) _ HP.out).mono ?_
      rintro e w4 ⟨hb4, v4, rfl, hn⟩
      have HN := Lib.hid hn.toR
      obtain ⟨a2, c2, rfl, -⟩ := hn.toR
      have HB4 := Lib.hid (below_then HB3.out hb4)
      have HM4 := Lib.hid (HM3.out.below hb4)
      clear hb4 HM3 hn
      go_wp2_with fail
      refine (write_ok m _ _ HN.out HMW.out (by omega) T HU.out).mono ?_
      rw [HTT.out]
      rintro e w5 ⟨rfl, hb5⟩
      have HB5 := Lib.hid (below_then HB4.out hb5)
      have HM5 := Lib.hid (HM4.out.below hb5)
      have HN5 := Lib.hid (HN.out.below hb5)
      clear hb5 HM4 HN
      go_wp2_with fail
      refine (same9_calls _ _ _ l m false HM5.out HN5.out hl4 HML.out HMI.out HW.out).mono ?_
      rintro e w6 ⟨rfl, hb6⟩
      have HB6 := Lib.hid (below_then HB5.out hb6)
      clear hb6
      go_wp2_with fail
      go_ret
      exact ⟨rfl, HB6.out⟩
end Go.Proofs.YtokdclmikllepaaGreatDoor
