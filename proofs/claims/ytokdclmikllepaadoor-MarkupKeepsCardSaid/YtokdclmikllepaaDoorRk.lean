import Derived.Test.YtokdclmikllepaaDoorRn
import Derived.Test.YtokdclmikllepaaDoorRb
import Derived.BigRegion
namespace Go.Proofs.YtokdclmikllepaaDoor
open Go.RowKit
set_option linter.unusedVariables false
set_option linter.unusedSimpArgs false

theorem xml_no {x : ByteArray} (h : ¬ x = ⟨#[60, 63, 120, 109, 108]⟩) : (x.toList == [60, 63, 120, 109, 108]) = false := by
  rw [beq_eq_false_iff_ne]
  intro e
  rw [toList_L] at e
  apply h
  have := bs_L x
  rw [e] at this
  exact this.symm

set_option maxHeartbeats 4000000 in
set_option maxRecDepth 100000 in
/-- A document that is passed over: too long, or with a declaration ahead. -/
theorem keeps_out (s : ByteArray) (w : World) (hG : Gl w) (hs : s.size ≤ 140737488351232) (h : 60000 < s.size ∨ (4 < s.size ∧ s.extract 0 5 = ⟨#[60, 63, 120, 109, 108]⟩)) :
    Calls Tryd.prog 4 #[.string s] w fun e w' => e = .returned (.bool true) ∧ Below w.heap.size w w' := by
  have HG := Lib.hid hG
  clear hG
  have h2 : decide ((60000 : Int) < s.size) = true ∨ (decide ((60000 : Int) < s.size) = false ∧ decide ((4 : Int) < s.size) = true ∧ s.extract 0 5 = ⟨#[60, 63, 120, 109, 108]⟩) := by
    by_cases h6 : 60000 < s.size
    · left; simp; omega
    · right
      rcases h with h | h
      · exact absurd h h6
      · exact ⟨by simp; omega, by simp; omega, h.2⟩
  clear h
  rcases h2 with h2 | ⟨h2, h3, h4⟩
  · go_enter Tryd.func4, Tryd.ntmps4
    go_wp2_with fail
    refine (awake_calls _ HG.out).mono ?_
    rintro e w1 ⟨rfl, hb1⟩
    go_wp2_with fail
    refine (awake_calls _ (HG.out.below hb1)).mono ?_
    rintro e w2 ⟨rfl, hb2⟩
    go_wp2_with fail
    go_ret
    exact ⟨rfl, below_then hb1 hb2⟩
  · have hx1 : (5 : Int) ≤ s.size := by have := of_decide_eq_true h3; omega
    go_enter Tryd.func4, Tryd.ntmps4
    go_wp2_with fail
    refine (awake_calls _ HG.out).mono ?_
    rintro e w1 ⟨rfl, hb1⟩
    go_wp2_with fail
    refine (awake_calls _ (HG.out.below hb1)).mono ?_
    rintro e w2 ⟨rfl, hb2⟩
    go_wp2_with fail
    go_ret
    exact ⟨rfl, below_then hb1 hb2⟩

set_option maxHeartbeats 8000000 in
set_option maxRecDepth 100000 in
/-- A document with a fault. -/
theorem keeps_err (s : ByteArray) (w : World) (hG : Gl w) (h6 : ¬ 60000 < s.size) (hx : ¬ (4 < s.size ∧ s.extract 0 5 = ⟨#[60, 63, 120, 109, 108]⟩)) (p c : Nat) (hR : Sp.marks (L s) = .error (p, c)) (hR2 : Sp.marks (head14 ++ L s) = .error (p + 14, c)) :
    Calls Tryd.prog 4 #[.string s] w fun e w' => e = .returned (.bool true) ∧ Below w.heap.size w w' := by
  have HG := Lib.hid hG
  have hpl := marks_place _ _ hR
  rw [L_length] at hpl
  simp only at hpl
  have hcode := marks_code _ _ _ hR
  have hcz : ((c : Int) != 0) = true := by rw [bne_iff_ne]; omega
  have HR := Lib.hid hR
  rw [← head_L] at hR2
  have HR2 := Lib.hid hR2
  have hd6 : decide ((60000 : Int) < s.size) = false := by simp; omega
  clear hG hR hR2 hcode
  have h4 : decide ((4 : Int) < s.size) = false ∨ (decide ((4 : Int) < s.size) = true ∧ (5 : Int) ≤ s.size ∧ ((s.extract 0 5).toList == [60, 63, 120, 109, 108]) = false) := by
    by_cases h : 4 < s.size
    · exact .inr ⟨by simp; omega, by omega, xml_no fun e => hx ⟨h, e⟩⟩
    · exact .inl (by simp; omega)
  clear hx
  have hsz2 : (⟨#[60, 33, 45, 45, 32, 60, 97, 62, 32, 38, 32, 45, 45, 62]⟩ ++ s : ByteArray).size ≤ 140737488351232 := by
    rw [cat_size]
    have : (⟨#[60, 33, 45, 45, 32, 60, 97, 62, 32, 38, 32, 45, 45, 62]⟩ : ByteArray).size = 14 := rfl
    omega
  rcases h4 with h4 | ⟨h4, hx1, h5⟩
  all_goals
    go_enter Tryd.func4, Tryd.ntmps4
    go_wp2_with fail
    refine (awake_calls _ HG.out).mono ?_
    rintro e w1 ⟨rfl, hb1⟩
    go_wp2_with fail
    refine (marks_err s _ (HG.out.below hb1) (by omega) p c HR.out).mono ?_
    rintro e w2 ⟨rfl, hb2⟩
    have HB2 := Lib.hid (below_then hb1 hb2)
    clear hb1 hb2
    go_wp2_with fail
    refine (marks_err _ _ (HG.out.below HB2.out) hsz2 (p + 14) c HR2.out).mono ?_
    rintro e w3 ⟨rfl, hb3⟩
    have HB3 := Lib.hid (below_then HB2.out hb3)
    clear hb3
    go_wp2_with fail
    refine wp_loop_rounds 1 ?_
    rw [rounds_succ]
    go_wp2_with fail
    refine (same_calls 0 0 _ _ _ [] (MksAt.nil _ _) (MksAt.nil _ _) (by simp) (fun m hm => nomatch hm)).mono ?_
    rintro e w4 ⟨rfl, hb4⟩
    go_wp2_with fail
    go_ret
    exact ⟨rfl, below_then HB3.out hb4⟩

set_option maxHeartbeats 8000000 in
set_option maxRecDepth 100000 in
/-- A document without marks. -/
theorem keeps_none (s : ByteArray) (w : World) (hG : Gl w) (h6 : ¬ 60000 < s.size) (hx : ¬ (4 < s.size ∧ s.extract 0 5 = ⟨#[60, 63, 120, 109, 108]⟩)) (hR : Sp.marks (L s) = .ok []) (hR2 : Sp.marks (head14 ++ L s) = .ok []) :
    Calls Tryd.prog 4 #[.string s] w fun e w' => e = .returned (.bool true) ∧ Below w.heap.size w w' := by
  have HG := Lib.hid hG
  have HR := Lib.hid hR
  rw [← head_L] at hR2
  have HR2 := Lib.hid hR2
  have hd6 : decide ((60000 : Int) < s.size) = false := by simp; omega
  clear hG hR hR2
  have h4 : decide ((4 : Int) < s.size) = false ∨ (decide ((4 : Int) < s.size) = true ∧ (5 : Int) ≤ s.size ∧ ((s.extract 0 5).toList == [60, 63, 120, 109, 108]) = false) := by
    by_cases h : 4 < s.size
    · exact .inr ⟨by simp; omega, by omega, xml_no fun e => hx ⟨h, e⟩⟩
    · exact .inl (by simp; omega)
  clear hx
  have hsz2 : (⟨#[60, 33, 45, 45, 32, 60, 97, 62, 32, 38, 32, 45, 45, 62]⟩ ++ s : ByteArray).size ≤ 140737488351232 := by
    rw [cat_size]
    have : (⟨#[60, 33, 45, 45, 32, 60, 97, 62, 32, 38, 32, 45, 45, 62]⟩ : ByteArray).size = 14 := rfl
    omega
  rcases h4 with h4 | ⟨h4, hx1, h5⟩
  all_goals
    go_enter Tryd.func4, Tryd.ntmps4
    go_wp2_with fail
    refine (awake_calls _ HG.out).mono ?_
    rintro e w1 ⟨rfl, hb1⟩
    go_wp2_with fail
    refine (marks_is s _ (HG.out.below hb1) (by omega) _ HR.out).mono ?_
    rintro e w2 ⟨hb2, v1, rfl, hm1⟩
    obtain ⟨a1, c1, rfl⟩ := hm1.nil_inv
    have HM1 := Lib.hid hm1
    clear hm1
    have HB2 := Lib.hid (below_then hb1 hb2)
    clear hb1 hb2
    go_wp2_with fail
    refine (marks_is _ _ (HG.out.below HB2.out) hsz2 _ HR2.out).mono ?_
    rintro e w3 ⟨hb3, v2, rfl, hm2⟩
    obtain ⟨a2, c2, rfl⟩ := hm2.nil_inv
    have HM2 := Lib.hid hm2
    have HM3 := Lib.hid (HM1.out.below hb3)
    have HB3 := Lib.hid (below_then HB2.out hb3)
    clear hb3 hm2 HM1
    go_wp2_with fail
    refine wp_loop_rounds 1 ?_
    rw [rounds_succ]
    go_wp2_with fail
    refine (same_calls w1.heap.size w2.heap.size _ _ _ [] HM3.out HM2.out (by simp) (fun m hm => nomatch hm)).mono ?_
    rintro e w4 ⟨rfl, hb4⟩
    go_wp2_with fail
    go_ret
    exact ⟨rfl, below_then HB3.out hb4⟩

set_option maxHeartbeats 16000000 in
set_option maxRecDepth 100000 in
/-- A document without a fault, and with marks. -/
theorem keeps_ok (s : ByteArray) (w : World) (hG : Gl w) (h6 : ¬ 60000 < s.size) (hx : ¬ (4 < s.size ∧ s.extract 0 5 = ⟨#[60, 63, 120, 109, 108]⟩)) (ms : List Sp.Mk) (hne : ms ≠ []) (hR : Sp.marks (L s) = .ok ms) (hR2 : Sp.marks (head14 ++ L s) = .ok (ms.map (shM 14))) :
    Calls Tryd.prog 4 #[.string s] w fun e w' => e = .returned (.bool true) ∧ Below w.heap.size w w' := by
  have HG := Lib.hid hG
  obtain ⟨n, hn⟩ : ∃ n, ms.length = n := ⟨_, rfl⟩
  have hn0 : 0 < n := by
    rw [← hn]
    exact List.length_pos_iff.2 hne
  obtain ⟨hbd, hbl, hbs⟩ := marks_bd _ _ hR
  have hnl : n ≤ 65536 := by omega
  have HBD : Hid (∀ m ∈ ms, MkBd 65536 m) := fun m hm => by
    obtain ⟨k1, k2, k3⟩ := hbd m hm
    exact ⟨by omega, by omega, fun a ha => by have := k3 a ha; omega⟩
  rw [← head_L] at hR2
  have HR := Lib.hid hR
  have HR2 := Lib.hid hR2
  have HN := Lib.hid hn
  have hd6 : decide ((60000 : Int) < s.size) = false := by simp; omega
  have hsz2 : (⟨#[60, 33, 45, 45, 32, 60, 97, 62, 32, 38, 32, 45, 45, 62]⟩ ++ s : ByteArray).size ≤ 140737488351232 := by
    rw [cat_size]
    have : (⟨#[60, 33, 45, 45, 32, 60, 97, 62, 32, 38, 32, 45, 45, 62]⟩ : ByteArray).size = 14 := rfl
    omega
  clear hG hR hR2 hbd hbl hbs hne hn
  have h4 : decide ((4 : Int) < s.size) = false ∨ (decide ((4 : Int) < s.size) = true ∧ (5 : Int) ≤ s.size ∧ ((s.extract 0 5).toList == [60, 63, 120, 109, 108]) = false) := by
    by_cases h : 4 < s.size
    · exact .inr ⟨by simp; omega, by omega, xml_no fun e => hx ⟨h, e⟩⟩
    · exact .inl (by simp; omega)
  clear hx
  rcases h4 with h4 | ⟨h4, hx1, h5⟩
  all_goals
    go_enter Tryd.func4, Tryd.ntmps4
    go_wp2_with fail
    refine (awake_calls _ HG.out).mono ?_
    rintro e w1 ⟨rfl, hb1⟩
    go_wp2_with fail
    refine (marks_is s _ (HG.out.below hb1) (by omega) _ HR.out).mono ?_
    rintro e w2 ⟨hb2, v1, rfl, hm1⟩
    obtain ⟨a1, c1, rfl⟩ := hm1.len
    rw [HN.out] at hm1
    have HB2 := Lib.hid (below_then hb1 hb2)
    have HM1 := Lib.hid hm1
    rw [HN.out]
    clear hb1 hb2 hm1
    go_wp2_with fail
    refine (marks_is _ _ (HG.out.below HB2.out) hsz2 _ HR2.out).mono ?_
    rintro e w3 ⟨hb3, v2, rfl, hm2⟩
    obtain ⟨g, cap, rfl, hgB, hg3, -⟩ := hm2.cell (by rw [List.length_map, HN.out]; exact hn0)
    rw [List.length_map, HN.out] at hm2 ⊢
    have HI : Hid (Below w2.heap.size w2 w3 ∧ MksAt w2.heap.size w3 (.slice (some ⟨g, 0, none⟩) n cap) (Mix ms 0)) := ⟨hb3, by rw [mix_zero]; exact hm2⟩
    clear hb3 hm2 hg3
    go_wp2_with fail
    go_loopg [10, 11] (n + 1) (fun k i _ wr => ∃ j : Nat, i = .int .i64 j ∧ j ≤ n ∧ n - j < k ∧ Hid (Below w2.heap.size w2 wr ∧ MksAt w2.heap.size wr (.slice (some ⟨g, 0, none⟩) n cap) (Mix ms j)))
    case atStart => exact ⟨0, rfl, Nat.zero_le _, by omega, HI⟩
    case round =>
      clear HI
      obtain ⟨j, rfl, hj, hk, HI⟩ := hrel
      obtain ⟨k', rfl⟩ : ∃ m, gk = m + 1 := ⟨gk - 1, by omega⟩
      by_cases hlt : j < n
      · have hd : decide ((j : Int) < n) = true := by simp; omega
        have hx0 : (0 : Int) ≤ j := by omega
        have hx1 : (j : Int) < n := by omega
        obtain ⟨m, hm⟩ : ∃ m, ms[j]? = some m := ⟨ms[j]'(by rw [HN.out]; exact hlt), List.getElem?_eq_getElem _⟩
        obtain ⟨hm1, hm2, hm3⟩ := HBD.out m (List.mem_of_getElem? hm)
        have HMJ := Lib.hid hm
        have hc5 : wr.cell? ⟨g, j * 6 + 5, none⟩ = some (.int .i64 ((m.at_ : Int) + 14)) := by
          obtain ⟨av, _, _, h5⟩ := HI.out.2.cellOf (by rw [mix_len, HN.out]) hn0 j _ (mix_at hm)
          rw [h5]; rfl
        have hf5 := HI.out.2.fz (j * 6 + 5)
        have HS := HI.out.2.setAt (by rw [mix_len, HN.out]) j _ (mix_at hm) m.at_
        rw [shM_withAt] at HS
        have HI0 : Hid (Below w2.heap.size w2 (wr.setCell ⟨g, j * 6 + 5, none⟩ (.int .i64 m.at_)) ∧ MksAt w2.heap.size (wr.setCell ⟨g, j * 6 + 5, none⟩ (.int .i64 m.at_)) (.slice (some ⟨g, 0, none⟩) n cap) (MixIn ms j m 0)) :=
          ⟨HI.out.1.setCell HS.2 _, HS.1⟩
        have HM3 := Lib.hid hm3
        clear hm hm3 HS
        go_wp2_with fail
        generalize World.setCell _ _ _ = W0 at HI0 ⊢
        clear hc5 hf5 HI
        go_loopg [11] (m.attrs.length + 1) (fun k2 i2 wr2 => ∃ q : Nat, i2 = .int .i64 q ∧ q ≤ m.attrs.length ∧ m.attrs.length - q < k2 ∧ Hid (Below w2.heap.size w2 wr2 ∧ MksAt w2.heap.size wr2 (.slice (some ⟨g, 0, none⟩) n cap) (MixIn ms j m q)))
        case atStart => exact ⟨0, rfl, Nat.zero_le _, by omega, HI0⟩
        case round =>
          clear HI0
          obtain ⟨q, rfl, hq, hk2, HI2⟩ := hrel
          obtain ⟨av, hat, h2, -⟩ := HI2.out.2.cellOf (by rw [mixIn_len, HN.out]) hn0 j _ (mixIn_at q HMJ.out)
          have hat : AtsAt w2.heap.size wr av (mixA m.attrs q) := hat
          have hy0 : (0 : Int) ≤ q := by omega
          by_cases hq2 : q < m.attrs.length
          · obtain ⟨a, ha⟩ : ∃ a, m.attrs[q]? = some a := ⟨m.attrs[q]'hq2, List.getElem?_eq_getElem _⟩
            have hab := HM3.out a (List.mem_of_getElem? ha)
            obtain ⟨ga, ca, rfl, hga, _, hca⟩ := hat.cell (by rw [mixA_len]; omega)
            obtain ⟨_, _, d2⟩ := hca q _ (mixA_at ha)
            rw [mixA_len] at h2 hat
            have d3 : wr.cell? ⟨ga, q * 3 + 2, none⟩ = some (.int .i64 ((a.at_ : Int) + 14)) := by rw [d2]; rfl
            have fz := hat.fz (q * 3 + 2)
            have HS := HI2.out.2.setAttr j _ (mixIn_at q HMJ.out) q _ (mixA_at ha) (g := g) (n := n) (cap := cap) rfl (by rw [mixIn_len, HN.out]) h2 a.at_
            rw [mixIn_next ha] at HS
            have HI3 : Hid (Below w2.heap.size w2 (wr.setCell ⟨ga, q * 3 + 2, none⟩ (.int .i64 a.at_)) ∧ MksAt w2.heap.size (wr.setCell ⟨ga, q * 3 + 2, none⟩ (.int .i64 a.at_)) (.slice (some ⟨g, 0, none⟩) n cap) (MixIn ms j m (q + 1))) :=
              ⟨HI2.out.1.setCell HS.2.1 _, HS.1⟩
            have hgag := HS.2.2
            have hd2 : decide ((q : Int) < m.attrs.length) = true := by simp; omega
            have hy1 : (q : Int) < m.attrs.length := by omega
            clear HS hca d2 ha hat
            go_wp2_with fail
            go_region
            all_goals
              go_wp2_with fail
              go_roundg (gk - 1)
              case measure => omega
              case rel => exact ⟨q + 1, by simp, by omega, by omega, Lib.hid ⟨below_drewN HI3.out.1 1, HI3.out.2⟩⟩
          · have hq3 : q = m.attrs.length := by omega
            subst hq3
            obtain ⟨aa, ac, rfl⟩ := hat.len
            rw [mixA_len] at h2
            have hd2 : decide ((m.attrs.length : Int) < m.attrs.length) = false := by simp
            have HI3 : Hid (Below w2.heap.size w2 wr ∧ MksAt w2.heap.size wr (.slice (some ⟨g, 0, none⟩) n cap) (Mix ms (j + 1))) := ⟨HI2.out.1, by have := HI2.out.2; rw [mixIn_end HMJ.out] at this; exact this⟩
            clear hat
            go_wp2_with fail
            go_roundg k'
            case measure => omega
            case rel => exact ⟨j + 1, by simp, by omega, by omega, HI3⟩
      · have hj' : j = n := by omega
        subst hj'
        have hd : decide ((j : Int) < j) = false := by simp
        go_wp2_with fail
        refine (same_calls w1.heap.size w2.heap.size _ _ _ ms (HM1.out.below HI.out.1) ?_ (by rw [HN.out]; omega) (fun m hm => by have := (HBD.out m hm).2.1; omega)).mono ?_
        · have := HI.out.2
          rw [← HN.out, mix_end] at this
          rw [← HN.out]; exact this
        rintro e w' ⟨rfl, hb⟩
        go_wp2_with fail
        go_ret
        exact ⟨rfl, below_then (HB2.out.trans (HI.out.1.mono HB2.out.size)) hb⟩

theorem keeps_calls (s : ByteArray) (w : World) (hG : Gl w) (hs : s.size ≤ 140737488351232) :
    Calls Tryd.prog 4 #[.string s] w fun e w' => e = .returned (.bool true) ∧ Below w.heap.size w w' := by
  by_cases h6 : 60000 < s.size
  · exact keeps_out s w hG hs (.inl h6)
  · by_cases hx : 4 < s.size ∧ s.extract 0 5 = ⟨#[60, 63, 120, 109, 108]⟩
    · exact keeps_out s w hG hs (.inr hx)
    · have hm := marks_head (L s) (fun ⟨h1, h2⟩ => hx ⟨by rw [L_length] at h1; exact h1, by
        rw [← take_L] at h2
        have := bs_L (s.extract 0 5)
        rw [h2] at this
        exact this.symm⟩) (by rw [L_length]; omega)
      cases hR : Sp.marks (L s) with
      | error f =>
        obtain ⟨p, c⟩ := f
        rw [hR] at hm
        exact keeps_err s w hG h6 hx p c hR hm
      | ok ms =>
        rw [hR] at hm
        by_cases hne : ms = []
        · subst hne
          exact keeps_none s w hG h6 hx hR hm
        · exact keeps_ok s w hG h6 hx ms hne hR hm
end Go.Proofs.YtokdclmikllepaaDoor
