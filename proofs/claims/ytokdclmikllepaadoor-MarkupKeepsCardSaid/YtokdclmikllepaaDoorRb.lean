import Derived.Test.YtokdclmikllepaaDoorRa
namespace Go.Proofs.YtokdclmikllepaaDoor
open Go.RowKit
set_option linter.unusedVariables false
set_option linter.unusedSimpArgs false

theorem marks_code (l : List UInt8) (p c : Nat) (h : Sp.marks l = .error (p, c)) : c = 3 ∨ c = 71 ∨ c = 81 ∨ c = 82 ∨ c = 83 ∨ c = 84 := by
  unfold Sp.marks at h
  split at h
  · injection h with h; injection h with h1 h2; omega
  · split at h
    · injection h with h; injection h with h1 h2; omega
    · split at h
      · injection h with h; injection h with h1 h2; omega
      · split at h
        · rename_i f0 hp
          injection h with h
          subst h
          have := ((prolog_fd l).1 _ hp).1
          injection this with h1 h2; omega
        · have := (pieces_fd _ _ _ _ _ h).2.2
          simp only at this
          omega
theorem take_L (s : ByteArray) (p : Nat) : L (s.extract 0 p) = (L s).take p := by
  rw [L_extract]; simp

set_option maxHeartbeats 4000000 in
set_option maxRecDepth 100000 in
theorem faults_calls (s : ByteArray) (w : World) (hG : Gl w) (hs : s.size ≤ 140737488351232) :
    Calls Tryd.prog 3 #[.string s] w fun e w' => e = .returned (.bool true) ∧ Below w.heap.size w w' := by
  have HG := Lib.hid hG
  clear hG
  cases hR : Sp.marks (L s) with
  | ok ms =>
    have HR := Lib.hid hR
    clear hR
    go_enter Tryd.func3, Tryd.ntmps3
    go_wp2_with fail
    refine (marks_is s _ HG.out hs _ HR.out).mono ?_
    rintro e w1 ⟨hb1, v, rfl, hm⟩
    clear hm
    go_wp2_with fail
    refine (awake_calls _ (HG.out.below hb1)).mono ?_
    rintro e w2 ⟨rfl, hb2⟩
    go_wp2_with fail
    go_ret
    exact ⟨rfl, below_then hb1 hb2⟩
  | error f =>
    obtain ⟨p, c⟩ := f
    have hpl := marks_place _ _ hR
    rw [L_length] at hpl
    simp only at hpl
    have hcode := marks_code _ _ _ hR
    have hcut := marks_cut _ p c hR
    rw [← take_L] at hcut
    have HR := Lib.hid hR
    have hlt : decide ((p : Int) < 0) = false := by rw [decide_eq_false_iff_not]; omega
    have hge : decide ((s.size : Int) ≤ p) = false := by rw [decide_eq_false_iff_not]; omega
    have hx0 : (0 : Int) ≤ p := by omega
    have hx1 : (p : Int) ≤ s.size := by omega
    have hsz : (s.extract 0 p).size ≤ 140737488351232 := by simp; omega
    clear hR
    by_cases h3 : c = 82 ∨ c = 83
    · have hcut := hcut h3
      have HC := Lib.hid hcut
      clear hcut hcode
      have hcz : ((c : Int) == 0) = false := by rw [beq_eq_false_iff_ne]; omega
      have hcn : (((c : Int) != 82) = true ∧ ((c : Int) != 83) = false) ∨ ((c : Int) != 82) = false := by
        rcases h3 with rfl | rfl
        · right; rfl
        · left; exact ⟨rfl, rfl⟩
      clear h3
      rcases hcn with ⟨k1, k2⟩ | k1
      all_goals
        go_enter Tryd.func3, Tryd.ntmps3
        go_wp2_with fail
        refine (marks_err s _ HG.out hs p c HR.out).mono ?_
        rintro e w1 ⟨rfl, hb1⟩
        go_wp2_with fail
        refine (awake_calls _ (HG.out.below hb1)).mono ?_
        rintro e w2 ⟨rfl, hb2⟩
        have HB2 := Lib.hid (below_then hb1 hb2)
        clear hb1 hb2
        go_wp2_with fail
        rcases HC.out with ⟨r, h2⟩ | ⟨q, h2⟩
        · refine (marks_is _ _ (HG.out.below HB2.out) hsz _ h2).mono ?_
          rintro e w3 ⟨hb3, v, rfl, hm⟩
          have hb4 := below_then HB2.out hb3
          clear hm h2 hb3
          go_wp2_with fail
          go_ret
          exact ⟨rfl, hb4⟩
        · refine (marks_err _ _ (HG.out.below HB2.out) hsz q 84 h2).mono ?_
          rintro e w3 ⟨rfl, hb3⟩
          have hb4 := below_then HB2.out hb3
          clear h2 hb3
          go_wp2_with fail
          go_ret
          exact ⟨rfl, hb4⟩
    · have hc2 : c = 3 ∨ c = 71 ∨ c = 81 ∨ c = 84 := by omega
      clear hcut hcode h3
      rcases hc2 with rfl | rfl | rfl | rfl
      all_goals
        go_enter Tryd.func3, Tryd.ntmps3
        go_wp2_with fail
        refine (marks_err s _ HG.out hs p _ HR.out).mono ?_
        rintro e w1 ⟨rfl, hb1⟩
        go_wp2_with fail
        refine (awake_calls _ (HG.out.below hb1)).mono ?_
        rintro e w2 ⟨rfl, hb2⟩
        go_wp2_with fail
        go_ret
        exact ⟨rfl, below_then hb1 hb2⟩
end Go.Proofs.YtokdclmikllepaaDoor
