import Derived.Test.YtokdclmikllepaaGreatDoorKt25
import Derived.Test.YtokdclmikllepaaGreatDoorKt37
import Derived.Test.YtokdclmikllepaaGreatDoorKt44
import Derived.Test.YtokdclmikllepaaGreatDoorLp
import Derived.BigQuiet
import Derived.Deep.DeepCutAuto
namespace Go.Proofs.YtokdclmikllepaaGreatDoor
open Go.RowKit Go.Maps
set_option linter.unusedVariables false
set_option linter.unusedSimpArgs false

theorem rfLetter_is (r : Int) (b : Bool) (w : World) (h : Sp.letter r = b) : Calls Tryz.prog 115 #[.int .i32 r] w fun e w' => e = .returned (.bool b) ∧ w = w' := h ▸ refLetter_calls r w
theorem rfNameRune_is (r : Int) (b : Bool) (w : World) (h : Sp.nameRune r = b) : Calls Tryz.prog 116 #[.int .i32 r] w fun e w' => e = .returned (.bool b) ∧ w = w' := h ▸ refNameRune_calls r w
theorem rfChar_is (r : Int) (b : Bool) (w : World) (h : Sp.isChar r = b) : Calls Tryz.prog 22 #[.int .i32 r] w fun e w' => e = .returned (.bool b) ∧ w = w' := h ▸ refChar_calls r w
set_option maxHeartbeats 4000000 in
set_option maxRecDepth 100000 in
theorem rname_calls (s : ByteArray) (w : World) (hs : s.size ≤ 140737488351232) :
    Calls Tryz.prog 83 #[.string s] w fun e w' => e = .returned (.bool (Sp.isName (L s))) ∧ Below w.heap.size w w' := by
  rw [isName_all, L_length]
  obtain ⟨B, hB⟩ : ∃ B, nmAll (s.size + 1) true (L s) = B := ⟨_, rfl⟩
  obtain ⟨b0, hb0⟩ : ∃ b, (L s).isEmpty = b := ⟨_, rfl⟩
  rw [hB, hb0]
  have hte : decide ((0 : Int) < s.size) = !b0 := by
    rw [← hb0, ← L_length]
    cases L s with
    | nil => rfl
    | cons c t => simp
  have HB : Hid (nmAll (s.size + 1) (decide (0 = 0)) ((L s).drop 0) = B) := hB
  have HTE := Lib.hid hte
  clear hB hb0 hte
  go_enter Tryz.func83, Tryz.ntmps83
  go_wp2_with fail
  go_loopw [3] (fun i wr => ∃ p k : Nat, p ≤ s.size ∧ s.size - p < k ∧ i = .int .i64 p ∧ Hid (nmAll k (decide (p = 0)) ((L s).drop p) = B) ∧ Hid (Below w.heap.size w wr)) (fun i _ => s.size - (intOf i).toNat)
  case atStart => exact ⟨0, s.size + 1, by omega, by omega, rfl, HB, Below.refl _ _⟩
  case round =>
    clear HB
    obtain ⟨p, k, hp, hk, rfl, HK, hb⟩ := hrel
    by_cases hlt : p < s.size
    · obtain ⟨k, rfl⟩ : ∃ m, k = m + 1 := ⟨k - 1, by omega⟩
      have hle := next_le ((L s).drop p)
      have hbd := next_bd ((L s).drop p)
      rw [List.length_drop, L_length] at hle
      generalize hnx : Sp.next ((L s).drop p) = x at *
      obtain ⟨r, n⟩ := x
      simp only at hle hbd
      have hst := nmAll_step k (decide (p = 0)) _ (drop_ne s p hlt) r n hnx
      have hle1 := hle.1
      have hle2 := hle.2
      have hr0 := hbd.1
      have hr1 := hbd.2
      have HS := Lib.hid hst
      have HN := Lib.hid hnx
      clear hst hnx hle hbd
      have hd : decide ((p : Int) < s.size) = true := by simp; omega
      have hfin : ∀ (b : Bool), B = false → (Ending.returned (.bool false) = .returned (.bool (!b && B))) := fun b h => by rw [h]; simp
      have HFIN := Lib.hid hfin
      clear hfin
      by_cases hn : n = 0
      · subst hn
        have hBf : B = false := by rw [← HK.out, HS.out, if_pos rfl]
        go_wp2_with (go_at_call 96; refine (refNext_calls s p _ hs (by omega)).mono ?_; rw [HN.out]; rintro e w' ⟨rfl, hb2⟩; have HB2 := Lib.hid (below_then hb.out hb2); clear hb2)
        go_ret
        exact ⟨HFIN.out _ hBf, HB2.out⟩
      · have hn0 : (((n : Nat) : Int) == 0) = false := by rw [beq_eq_false_iff_ne]; omega
        have hnext : (r = 58 ∨ Sp.letter r = true ∨ (decide (p = 0) = false ∧ Sp.nameRune r = true)) → Hid (nmAll k (decide (p + n = 0)) ((L s).drop (p + n)) = B) := fun hc => by
          have h1 := HK.out
          rw [HS.out, if_neg hn, if_pos hc, List.drop_drop] at h1
          have h2 : decide (p + n = 0) = false := by simp; omega
          show _ = _
          rw [h2]; exact h1
        have hfail : ¬ (r = 58 ∨ Sp.letter r = true ∨ (decide (p = 0) = false ∧ Sp.nameRune r = true)) → B = false := fun hc => by
          rw [← HK.out, HS.out, if_neg hn, if_neg hc]
        have HNX := Lib.hid hnext
        have HFL := Lib.hid hfail
        clear hnext hfail
        by_cases h58 : r = 58
        · subst h58
          have hgo := HNX.out (.inl rfl)
          go_wp2_with (go_at_call 96; refine (refNext_calls s p _ hs (by omega)).mono ?_; rw [HN.out]; rintro e w' ⟨rfl, hb2⟩; have HB2 := Lib.hid (below_then hb.out hb2); clear hb2)
          go_roundw
          case rel => exact ⟨p + n, k, by omega, by omega, by go_num, hgo, HB2⟩
          case measure => simp [intOf]; omega
        · have hr58 : (r != 58) = true := by rw [bne_iff_ne]; exact h58
          cases hl : Sp.letter r with
          | true =>
            have hgo := HNX.out (.inr (.inl hl))
            have HL := Lib.hid hl
            clear hl
            go_wp2_with (first | (go_at_call 96; refine (refNext_calls s p _ hs (by omega)).mono ?_; rw [HN.out]; rintro e w' ⟨rfl, hb2⟩; have HB2 := Lib.hid (below_then hb.out hb2); clear hb2) | (go_at_call 115; refine (rfLetter_is r true _ HL.out).mono ?_; rintro e w3 ⟨rfl, hw⟩; have HB3 := Lib.hid (hw ▸ HB2.out); clear hw))
            go_roundw
            case rel => exact ⟨p + n, k, by omega, by omega, by go_num, hgo, HB3⟩
            case measure => simp [intOf]; omega
          | false =>
            have HL := Lib.hid hl
            by_cases hp0 : p = 0
            · subst hp0
              have hBf := HFL.out (by rintro (h | h | ⟨h, _⟩); exact h58 h; rw [hl] at h; cases h; exact absurd h (by simp))
              clear hl
              go_wp2_with (first | (go_at_call 96; refine (refNext_calls s 0 _ hs (by omega)).mono ?_; rw [HN.out]; rintro e w' ⟨rfl, hb2⟩; have HB2 := Lib.hid (below_then hb.out hb2); clear hb2) | (go_at_call 115; refine (rfLetter_is r false _ HL.out).mono ?_; rintro e w3 ⟨rfl, hw⟩; have HB3 := Lib.hid (hw ▸ HB2.out); clear hw))
              go_ret
              exact ⟨HFIN.out _ hBf, HB3.out⟩
            · have hp0' : ((p : Int) == 0) = false := by rw [beq_eq_false_iff_ne]; omega
              cases hnr : Sp.nameRune r with
              | true =>
                have hgo := HNX.out (.inr (.inr ⟨by simp [hp0], hnr⟩))
                have HR := Lib.hid hnr
                clear hl hnr
                go_wp2_with (first | (go_at_call 96; refine (refNext_calls s p _ hs (by omega)).mono ?_; rw [HN.out]; rintro e w' ⟨rfl, hb2⟩; have HB2 := Lib.hid (below_then hb.out hb2); clear hb2) | (go_at_call 115; refine (rfLetter_is r false _ HL.out).mono ?_; rintro e w3 ⟨rfl, hw⟩; have HB3 := Lib.hid (hw ▸ HB2.out); clear hw) | (go_at_call 116; refine (rfNameRune_is r true _ HR.out).mono ?_; rintro e w4 ⟨rfl, hw⟩; have HB4 := Lib.hid (hw ▸ HB3.out); clear hw))
                go_roundw
                case rel => exact ⟨p + n, k, by omega, by omega, by go_num, hgo, HB4⟩
                case measure => simp [intOf]; omega
              | false =>
                have hBf := HFL.out (by rintro (h | h | ⟨_, h⟩); exact h58 h; rw [hl] at h; cases h; rw [hnr] at h; cases h)
                have HR := Lib.hid hnr
                clear hl hnr
                go_wp2_with (first | (go_at_call 96; refine (refNext_calls s p _ hs (by omega)).mono ?_; rw [HN.out]; rintro e w' ⟨rfl, hb2⟩; have HB2 := Lib.hid (below_then hb.out hb2); clear hb2) | (go_at_call 115; refine (rfLetter_is r false _ HL.out).mono ?_; rintro e w3 ⟨rfl, hw⟩; have HB3 := Lib.hid (hw ▸ HB2.out); clear hw) | (go_at_call 116; refine (rfNameRune_is r false _ HR.out).mono ?_; rintro e w4 ⟨rfl, hw⟩; have HB4 := Lib.hid (hw ▸ HB3.out); clear hw))
                go_ret
                exact ⟨HFIN.out _ hBf, HB4.out⟩
    · have hp' : p = s.size := by omega
      subst hp'
      have hd : decide ((s.size : Int) < s.size) = false := by simp
      have hBt : B = true := by
        rw [← HK.out, List.drop_eq_nil_of_le (by rw [L_length]; omega), nmAll_nil]
      subst hBt
      have hte := HTE.out
      go_wp2_with fail
      go_ret
      refine ⟨?_, hb.out⟩
      have h9 := HTE.out
      simp at h9 ⊢
      exact h9
end Go.Proofs.YtokdclmikllepaaGreatDoor
namespace Go.Proofs.YtokdclmikllepaaGreatDoor
open Go.RowKit Go.Maps
set_option linter.unusedVariables false
set_option linter.unusedSimpArgs false

set_option maxHeartbeats 4000000 in
set_option maxRecDepth 100000 in
theorem rchars_calls (s : ByteArray) (w : World) (hs : s.size ≤ 140737488351232) :
    Calls Tryz.prog 84 #[.string s] w fun e w' => e = .returned (.bool (Sp.chars (L s))) ∧ Below w.heap.size w w' := by
  unfold Sp.chars
  rw [L_length]
  obtain ⟨B, hB⟩ : ∃ B, Sp.badChar (s.size + 1) 0 (L s) = B := ⟨_, rfl⟩
  rw [hB]
  have HB : Hid (Sp.badChar (s.size + 1) 0 ((L s).drop 0) = B) := hB
  clear hB
  go_enter Tryz.func84, Tryz.ntmps84
  go_wp2_with fail
  go_loopw [3] (fun i wr => ∃ p k : Nat, p ≤ s.size ∧ s.size - p < k ∧ i = .int .i64 p ∧ Hid (Sp.badChar k p ((L s).drop p) = B) ∧ Hid (Below w.heap.size w wr)) (fun i _ => s.size - (intOf i).toNat)
  case atStart => exact ⟨0, s.size + 1, by omega, by omega, rfl, HB, Below.refl _ _⟩
  case round =>
    clear HB
    obtain ⟨p, k, hp, hk, rfl, HK, hb⟩ := hrel
    by_cases hlt : p < s.size
    · obtain ⟨k, rfl⟩ : ∃ m, k = m + 1 := ⟨k - 1, by omega⟩
      have hle := next_le ((L s).drop p)
      have hbd := next_bd ((L s).drop p)
      have hz := sp_next_zero ((L s).drop p)
      rw [List.length_drop, L_length] at hle
      generalize hnx : Sp.next ((L s).drop p) = x at *
      obtain ⟨r, n⟩ := x
      simp only at hle hbd hz
      have hst := bc_step k p _ (drop_ne s p hlt) r n hnx
      have hle1 := hle.1
      have hle2 := hle.2
      have hr0 := hbd.1
      have hr1 := hbd.2
      have HS := Lib.hid hst
      have HN := Lib.hid hnx
      have hd : decide ((p : Int) < s.size) = true := by simp; omega
      clear hst hnx hle hbd
      by_cases hn : n = 0
      · have hr := hz hn
        subst hn
        have hBf : B = some p := by
          rw [← HK.out, HS.out, hr]
          rfl
        subst hBf
        clear hr hz
        go_wp2_with (go_at_call 96; refine (refNext_calls s p _ hs (by omega)).mono ?_; rw [HN.out]; rintro e w' ⟨rfl, hb2⟩; have HB2 := Lib.hid (below_then hb.out hb2); clear hb2)
        go_ret
        exact ⟨rfl, HB2.out⟩
      · have hn0 : (((n : Nat) : Int) == 0) = false := by rw [beq_eq_false_iff_ne]; omega
        clear hz
        cases hc : Sp.isChar r with
        | true =>
          have hgo : Hid (Sp.badChar k (p + n) ((L s).drop (p + n)) = B) := by
            have h1 := HK.out
            rw [HS.out, if_pos hc, List.drop_drop] at h1
            exact h1
          have HC := Lib.hid hc
          clear hc
          go_wp2_with (first | (go_at_call 96; refine (refNext_calls s p _ hs (by omega)).mono ?_; rw [HN.out]; rintro e w' ⟨rfl, hb2⟩; have HB2 := Lib.hid (below_then hb.out hb2); clear hb2) | (go_at_call 22; refine (rfChar_is r true _ HC.out).mono ?_; rintro e w3 ⟨rfl, hw⟩; have HB3 := Lib.hid (hw ▸ HB2.out); clear hw))
          go_roundw
          case rel => exact ⟨p + n, k, by omega, by omega, by go_num, hgo, HB3⟩
          case measure => simp [intOf]; omega
        | false =>
          have hBf : B = some p := by
            rw [← HK.out, HS.out, if_neg (by rw [hc]; simp)]
          subst hBf
          have HC := Lib.hid hc
          clear hc
          go_wp2_with (first | (go_at_call 96; refine (refNext_calls s p _ hs (by omega)).mono ?_; rw [HN.out]; rintro e w' ⟨rfl, hb2⟩; have HB2 := Lib.hid (below_then hb.out hb2); clear hb2) | (go_at_call 22; refine (rfChar_is r false _ HC.out).mono ?_; rintro e w3 ⟨rfl, hw⟩; have HB3 := Lib.hid (hw ▸ HB2.out); clear hw))
          go_ret
          exact ⟨rfl, HB3.out⟩
    · have hp' : p = s.size := by omega
      subst hp'
      have hd : decide ((s.size : Int) < s.size) = false := by simp
      have hBt : B = none := by
        rw [← HK.out, List.drop_eq_nil_of_le (by rw [L_length]; omega)]
        cases k <;> rfl
      subst hBt
      go_wp2_with fail
      go_ret
      exact ⟨rfl, hb.out⟩

end Go.Proofs.YtokdclmikllepaaGreatDoor
namespace Go.Proofs.YtokdclmikllepaaGreatDoor
open Go.RowKit
set_option linter.unusedVariables false
set_option linter.unusedSimpArgs false

/-! ### what stands around an element -/
theorem RC.head {l : List Sp.EE} {h : Nat} {t : List Nat} (hc : RC l (h :: t)) : ∃ x, l[h]? = some x ∧ x.up = hdI t ∧ h < l.length := by
  obtain ⟨x, hx, hu⟩ := Option.map_eq_some_iff.1 hc.1
  exact ⟨x, hx, hu, (List.getElem?_eq_some_iff.1 hx).1⟩
set_option maxHeartbeats 4000000 in
set_option maxRecDepth 100000 in
theorem around_calls (w : World) (v : Value) (l : List Sp.EE) (h : ElsR w v l) (hl : l.length ≤ 4096) (c : List Nat) (hc : RC l c) (k : Nat) :
    Calls Tryz.prog 81 #[v, .int .i64 (hdI c), .int .i64 (k : Int)] w fun e w' => e = .returned (.bool (decide (k ∈ c))) ∧ Below w.heap.size w w' := by
  obtain ⟨n, hn⟩ : ∃ n, l.length = n := ⟨_, rfl⟩
  obtain ⟨a1, c1, rfl, hc1⟩ := h.cells
  rw [hn] at hl hc1 ⊢
  obtain ⟨B, hB⟩ : ∃ B, decide (k ∈ c) = B := ⟨_, rfl⟩
  rw [hB]
  have HN := Lib.hid hn
  have HC1 := Lib.hid hc1
  have HRC := Lib.hid hc
  have HB : Hid (decide (k ∈ c) = B) := hB
  clear h hn hc1 hc hB
  go_enter Tryz.func81, Tryz.ntmps81
  go_wp2_with fail
  go_loopg [1] (c.length + 1) (fun kk i wr => ∃ c' : List Nat, i = .int .i64 (hdI c') ∧ Hid (RC l c') ∧ Hid (decide (k ∈ c') = B) ∧ c'.length < kk ∧ Hid (Below w.heap.size w wr))
  case atStart => exact ⟨c, rfl, HRC, HB, by omega, Below.refl _ _⟩
  case round =>
    clear HRC HB
    obtain ⟨c', rfl, HRC, HB, hk, HBW⟩ := hrel
    cases c' with
    | nil =>
      have hb : B = false := by rw [← HB.out]; simp
      have hk1 : ((-1 : Int) == (k : Int)) = false := by rw [beq_eq_false_iff_ne]; omega
      subst hb
      unfold hdI
      go_wp2_with fail
      go_ret
      exact ⟨rfl, HBW.out⟩
    | cons h t =>
      obtain ⟨x, hx, hu, hlt⟩ := RC.head HRC.out
      have h0 : (0 : Int) ≤ h := by omega
      have hd0 : decide ((0 : Int) ≤ h) = true := by simp
      rw [HN.out] at hlt
      have h1 : (h : Int) < n := by omega
      have HRT : Hid (RC l t) := HRC.out.2
      have hdh : hdI (h :: t) = (h : Int) := rfl
      rw [hdh]
      by_cases he : h = k
      · subst he
        have hb : B = true := by rw [← HB.out]; simp
        subst hb
        clear hx hu HB
        go_wp2_with fail
        go_ret
        exact ⟨rfl, HBW.out⟩
      · have hne : ((h : Int) != (k : Int)) = true := by rw [bne_iff_ne]; omega
        have hmem : decide (k ∈ t) = B := by
          rw [← HB.out]
          have : ¬ k = h := fun e => he e.symm
          simp [List.mem_cons, this]
        have HM := Lib.hid hmem
        obtain ⟨g, o, rfl, hg, hcl⟩ := HC1.out (by omega)
        obtain ⟨av, -, hw2⟩ := hcl h x hx
        obtain ⟨-, -, -, y3, -⟩ := hw2 wr HBW.out
        rw [hu] at y3
        clear hx hu hw2 hcl hmem HB
        go_wp2_with fail
        go_roundg (gk - 1)
        case measure => simp only [List.length_cons] at hk; omega
        case rel => exact ⟨t, rfl, HRT, HM, by simp only [List.length_cons] at hk; omega, HBW⟩
set_option maxHeartbeats 4000000 in
set_option maxRecDepth 100000 in
theorem level_calls (w : World) (v : Value) (l : List Sp.EE) (h : ElsR w v l) (hl : l.length ≤ 4096) (c : List Nat) (hc : RC l c) (hcl : c.length ≤ 100000) :
    Calls Tryz.prog 82 #[v, .int .i64 (hdI c)] w fun e w' => e = .returned (.int .i64 (c.length : Int)) ∧ Below w.heap.size w w' := by
  obtain ⟨n, hn⟩ : ∃ n, l.length = n := ⟨_, rfl⟩
  obtain ⟨a1, c1, rfl, hc1⟩ := h.cells
  rw [hn] at hl hc1 ⊢
  obtain ⟨N, hN⟩ : ∃ N, c.length = N := ⟨_, rfl⟩
  rw [hN] at hcl
  rw [hN]
  have HN := Lib.hid hn
  have HC1 := Lib.hid hc1
  have HRC := Lib.hid hc
  have HCL : Hid (0 + c.length = N) := by show _ = _; omega
  clear h hn hc1 hc hN
  go_enter Tryz.func82, Tryz.ntmps82
  go_wp2_with fail
  go_loopg [1, 5] (N + 1) (fun kk i m wr => ∃ (c' : List Nat) (q : Nat), i = .int .i64 (hdI c') ∧ m = .int .i64 q ∧ Hid (RC l c') ∧ Hid (q + c'.length = N) ∧ q ≤ N ∧ N - q < kk ∧ Hid (Below w.heap.size w wr))
  case atStart => exact ⟨c, 0, rfl, rfl, HRC, HCL, by omega, by omega, Below.refl _ _⟩
  case round =>
    clear HRC HCL
    obtain ⟨c', q, rfl, rfl, HRC, HCL, hq, hk, HBW⟩ := hrel
    cases c' with
    | nil =>
      have hb : q = N := by have := HCL.out; simp at this; exact this
      subst hb
      unfold hdI
      go_wp2_with fail
      go_ret
      exact ⟨rfl, HBW.out⟩
    | cons h t =>
      obtain ⟨x, hx, hu, hlt⟩ := RC.head HRC.out
      have h0 : (0 : Int) ≤ h := by omega
      have hd0 : decide ((0 : Int) ≤ h) = true := by simp
      rw [HN.out] at hlt
      have h1 : (h : Int) < n := by omega
      have HRT : Hid (RC l t) := HRC.out.2
      have hdh : hdI (h :: t) = (h : Int) := rfl
      rw [hdh]
      have hqN := HCL.out
      simp only [List.length_cons] at hqN
      have HCL2 : Hid (q + 1 + t.length = N) := by show _ = _; omega
      have hq2 : q + 1 ≤ N := by omega
      obtain ⟨g, o, rfl, hg, hcl2⟩ := HC1.out (by omega)
      obtain ⟨av, -, hw2⟩ := hcl2 h x hx
      obtain ⟨-, -, -, y3, -⟩ := hw2 wr HBW.out
      rw [hu] at y3
      clear hx hu hw2 hcl2 HCL hqN
      go_wp2_with fail
      go_roundg (gk - 1)
      case measure => omega
      case rel => exact ⟨t, q + 1, rfl, by simp, HRT, HCL2, hq2, by omega, HBW⟩
end Go.Proofs.YtokdclmikllepaaGreatDoor
namespace Go.Proofs.YtokdclmikllepaaGreatDoor
open Go.RowKit
set_option linter.unusedVariables false
set_option linter.unusedSimpArgs false

/-! ### ref09.Twice -/
def Sn (l : List Sp.EA) (j : Nat) (seen : List (List UInt8)) : Prop := ∀ t, seen.contains t = true ↔ ∃ k y, k < j ∧ l[k]? = some y ∧ y.name = t
theorem Sn.zero (l : List Sp.EA) : Sn l 0 [] := fun t => ⟨fun h => by simp at h, fun ⟨k, y, h, _⟩ => absurd h (Nat.not_lt_zero _)⟩
theorem Sn.next {l : List Sp.EA} {j : Nat} {seen : List (List UInt8)} {a : Sp.EA} (h : Sn l j seen) (ha : l[j]? = some a) : Sn l (j + 1) (a.name :: seen) := fun t => by
  rw [List.contains_cons, Bool.or_eq_true]
  constructor
  · rintro (h1 | h1)
    · exact ⟨j, a, by omega, ha, by simpa using (beq_iff_eq.1 h1).symm⟩
    · obtain ⟨k, y, h2, h3, h4⟩ := (h t).1 h1
      exact ⟨k, y, by omega, h3, h4⟩
  · rintro ⟨k, y, h2, h3, h4⟩
    by_cases hk : k = j
    · subst hk
      rw [ha] at h3
      injection h3 with h3
      subst h3
      left
      rw [h4]; simp
    · right
      exact (h t).2 ⟨k, y, by omega, h3, h4⟩
theorem twN_at {l : List Sp.EA} {j : Nat} {seen : List (List UInt8)} {a : Sp.EA} (ha : l[j]? = some a) : Sp.twiceN seen j (l.drop j) = if seen.contains a.name = true then some j else Sp.twiceN (a.name :: seen) (j + 1) (l.drop (j + 1)) := by
  obtain ⟨h1, h2⟩ := List.getElem?_eq_some_iff.1 ha
  rw [List.drop_eq_getElem_cons h1, h2, twiceN_cons]
set_option maxHeartbeats 4000000 in
set_option maxRecDepth 100000 in
theorem rtwice_calls (w : World) (v : Value) (l : List Sp.EA) (h : AtsR w v l) (hl : l.length ≤ 100000) :
    Calls Tryz.prog 74 #[v] w fun e w' => e = .returned (.int .i64 (twI (Sp.twice l))) ∧ Below w.heap.size w w' := by
  obtain ⟨n, hn⟩ : ∃ n, l.length = n := ⟨_, rfl⟩
  obtain ⟨a1, c1, rfl, hc1⟩ := h.cells
  rw [hn] at hl hc1 ⊢
  obtain ⟨R, hR⟩ : ∃ R, Sp.twice l = R := ⟨_, rfl⟩
  rw [hR]
  have HR : Hid (Sp.twiceN [] 0 (l.drop 0) = R) := hR
  have HN := Lib.hid hn
  have HC := Lib.hid hc1
  clear h hn hc1 hR
  go_enter Tryz.func74, Tryz.ntmps74
  go_wp2_with fail
  go_loopg [3, 4] (n + 1) (fun kk i _ wr => ∃ (j : Nat) (seen : List (List UInt8)), i = .int .i64 j ∧ j ≤ n ∧ n - j < kk ∧ Hid (Sn l j seen) ∧ Hid (Sp.twiceN seen j (l.drop j) = R) ∧ Hid (Below w.heap.size w wr))
  case atStart => exact ⟨0, [], rfl, Nat.zero_le _, by omega, Sn.zero l, HR, Below.refl _ _⟩
  case round =>
    clear HR
    obtain ⟨j, seen, rfl, hj, hk, HS, HR, HB⟩ := hrel
    by_cases hlt : j < n
    · have hd : decide ((j : Int) < n) = true := by simp; omega
      have hj0 : (0 : Int) ≤ j := by omega
      have hj1 : (j : Int) < n := by omega
      obtain ⟨a, ha⟩ : ∃ a, l[j]? = some a := ⟨_, List.getElem?_eq_getElem (by rw [HN.out]; exact hlt)⟩
      obtain ⟨g, o, rfl, hg, hcl⟩ := HC.out (by omega)
      obtain ⟨an, han⟩ : ∃ an : ByteArray, (⟨a.name.toArray⟩ : ByteArray) = an := ⟨_, rfl⟩
      obtain ⟨-, hanL⟩ := sz_of han
      have hca := hcl j a ha
      rw [han] at hca
      have HCA := Lib.hid hca
      have HCL := Lib.hid hcl
      have HA := Lib.hid ha
      have HAN := Lib.hid hanL
      obtain ⟨gk0, rfl⟩ : ∃ z, z = gk := ⟨_, rfl⟩
      clear hca hcl ha han hanL
      go_wp2_with fail
      go_loopg [4] (j + 1) (fun k2 q2 wr2 => ∃ q : Nat, q2 = .int .i64 q ∧ q ≤ j ∧ j - q < k2 ∧ Hid (∀ k y, k < q → l[k]? = some y → y.name ≠ a.name) ∧ Hid (Below w.heap.size w wr2))
      case atStart => exact ⟨0, rfl, Nat.zero_le _, by omega, (fun k y h => absurd h (Nat.not_lt_zero _)), HB⟩
      case round =>
        clear HB
        obtain ⟨q, rfl, hq, hk2, HQ, HB⟩ := hrel
        by_cases hlt2 : q < j
        · have hd2 : decide ((q : Int) < j) = true := by simp; omega
          have hq0 : (0 : Int) ≤ q := by omega
          have hq1 : (q : Int) < n := by omega
          obtain ⟨b, hb⟩ : ∃ b, l[q]? = some b := ⟨_, List.getElem?_eq_getElem (by rw [HN.out]; omega)⟩
          obtain ⟨bn, hbn⟩ : ∃ bn : ByteArray, (⟨b.name.toArray⟩ : ByteArray) = bn := ⟨_, rfl⟩
          obtain ⟨-, hbnL⟩ := sz_of hbn
          have hcb := HCL.out q b hb
          rw [hbn] at hcb
          obtain ⟨x0, -, -⟩ := HCA.out wr HB.out
          obtain ⟨y0, -, -⟩ := hcb wr HB.out
          have HBn := Lib.hid hb
          clear hcb hbn hb
          by_cases he : b.name = a.name
          · have heq : (bn.toList == an.toList) = true := by rw [beq_iff_eq, toList_L, toList_L, hbnL, HAN.out]; exact he
            have hR : R = some j := by
              rw [← HR.out, twN_at HA.out, if_pos]
              exact (HS.out a.name).2 ⟨q, b, hlt2, HBn.out, he⟩
            subst hR
            clear hbnL he
            go_wp2_with fail
            go_quiet (fail)
            go_wp2_with fail
            go_ret
            exact ⟨rfl, below_drewN HB.out _⟩
          · have heq : (bn.toList == an.toList) = false := by rw [beq_eq_false_iff_ne, toList_L, toList_L, hbnL, HAN.out]; exact he
            have HQ2 : Hid (∀ k y, k < q + 1 → l[k]? = some y → y.name ≠ a.name) := by
              intro k y hk hy
              by_cases hkq : k = q
              · subst hkq
                rw [HBn.out] at hy
                injection hy with hy
                rw [← hy]; exact he
              · exact HQ.out k y (by omega) hy
            clear hbnL he
            go_wp2_with fail
            go_quiet (fail)
            go_wp2_with fail
            go_roundg (gk - 1)
            case measure => omega
            case rel => exact ⟨q + 1, by simp, by omega, by omega, HQ2, below_drewN HB.out _⟩
        · have hqj : q = j := by omega
          subst hqj
          have hd2 : decide ((q : Int) < q) = false := by simp
          have HR2 : Hid (Sp.twiceN (a.name :: seen) (q + 1) (l.drop (q + 1)) = R) := by
            have h := HR.out
            rw [twN_at HA.out, if_neg] at h
            · exact h
            · intro hc
              obtain ⟨k, y, h1, h2, h3⟩ := (HS.out a.name).1 hc
              exact HQ.out k y h1 h2 h3
          have HS2 := Lib.hid (HS.out.next HA.out)
          go_wp2_with fail
          go_roundg (gk0 - 1)
          case measure => omega
          case rel => exact ⟨q + 1, a.name :: seen, by simp, by omega, by omega, HS2, HR2, HB⟩
    · have hj' : j = n := by omega
      subst hj'
      have hd : decide ((j : Int) < j) = false := by simp
      have hR : R = none := by
        rw [← HR.out, List.drop_eq_nil_of_le (by rw [HN.out]; exact Nat.le_refl _)]
        rfl
      subst hR
      go_wp2_with fail
      go_ret
      exact ⟨rfl, HB.out⟩
end Go.Proofs.YtokdclmikllepaaGreatDoor
namespace Go.Proofs.YtokdclmikllepaaGreatDoor
open Go.RowKit
set_option linter.unusedVariables false
set_option linter.unusedSimpArgs false

/-! ### ref09.May -/
theorem around_at (w : World) (v : Value) (l : List Sp.EE) (h : ElsR w v l) (hl : l.length ≤ 4096) (c : List Nat) (hc : RC l c) (i u : Int) (k : Nat) (hi : hdI c = i) (hk : (k : Int) = u) (b : Bool) (hb : decide (k ∈ c) = b) :
    Calls Tryz.prog 81 #[v, .int .i64 i, .int .i64 u] w fun e w' => e = .returned (.bool b) ∧ Below w.heap.size w w' := hi ▸ hk ▸ hb ▸ around_calls w v l h hl c hc k
theorem level_at (w : World) (v : Value) (l : List Sp.EE) (h : ElsR w v l) (hl : l.length ≤ 4096) (j : Nat) (c : List Nat) (hc : RC l (j :: c)) (hcl : c.length ≤ 1000) (N : Nat) (hN : c.length + 1 = N) :
    Calls Tryz.prog 82 #[v, .int .i64 (j : Int)] w fun e w' => e = .returned (.int .i64 (N : Int)) ∧ Below w.heap.size w w' := by
  subst hN
  exact level_calls w v l h hl (j :: c) hc (by simp only [List.length_cons]; omega)
theorem rname_is (s : ByteArray) (w : World) (hs : s.size ≤ 140737488351232) (b : Bool) (h : Sp.isName (L s) = b) : Calls Tryz.prog 83 #[.string s] w fun e w' => e = .returned (.bool b) ∧ Below w.heap.size w w' := h ▸ rname_calls s w hs
theorem rchars_is (s : ByteArray) (w : World) (hs : s.size ≤ 140737488351232) (b : Bool) (h : Sp.chars (L s) = b) : Calls Tryz.prog 84 #[.string s] w fun e w' => e = .returned (.bool b) ∧ Below w.heap.size w w' := h ▸ rchars_calls s w hs
theorem rtwice_ge (w : World) (v : Value) (l : List Sp.EA) (h : AtsR w v l) (hl : l.length ≤ 100000) (b : Bool) (hb : (Sp.twice l).isSome = b) :
    Calls Tryz.prog 74 #[v] w fun e w' => (∃ r : Int, e = .returned (.int .i64 r) ∧ decide (0 ≤ r) = b) ∧ Below w.heap.size w w' :=
  (rtwice_calls w v l h hl).mono fun e w' ⟨he, hb'⟩ => ⟨⟨_, he, by
    rw [← hb]
    cases Sp.twice l with
    | none => rfl
    | some i =>
      show decide ((0 : Int) ≤ (i : Int)) = true
      simp⟩, hb'⟩
/-- What is known of an element behind the first test. -/
def Stp (l : List Sp.EE) (j : Nat) (x : Sp.EE) (op : List Nat) (b : Bool) : Prop :=
  (b = true → okStep j x op = none) ∧ (b = false → ∃ c : List Nat, RC l (j :: c) ∧ c.length ≤ 17 ∧ (16 < c.length + 1 → okStep j x op = none) ∧ (c.length + 1 ≤ 16 → Sp.may x = true → ∃ op', Ok l (j + 1) op'))
theorem Stp.bad0 {l : List Sp.EE} {x : Sp.EE} {op : List Nat} (hu : x.up ≠ -1) : Stp l 0 x op true := by
  refine ⟨fun _ => ?_, fun h => by cases h⟩
  cases hm : Sp.may x with
  | false => exact okStep_bad hm
  | true => rw [okStep_zero hm, if_neg hu]
theorem Stp.good0 {l : List Sp.EE} {x : Sp.EE} {op : List Nat} (h : Ok l 0 op) (hx : l[0]? = some x) (hu : x.up = -1) : Stp l 0 x op false := by
  refine ⟨(fun h => by cases h), fun _ => ⟨[], ⟨by rw [hx]; simp [hdI, hu], trivial⟩, by simp, (fun h => by simp at h), fun _ hm => ⟨[], (h.next0 hx hm hu).1⟩⟩⟩
theorem Ok.lt {l : List Sp.EE} {j : Nat} {op : List Nat} (h : Ok l j op) (hj : 0 < j) : ∀ k ∈ op ++ [j - 1], k < j := by
  intro k hk
  rcases List.mem_append.1 hk with h1 | h1
  · have := (List.pairwise_append.1 (h.pw hj)).2.2 k h1 (j - 1) (by simp)
    omega
  · rw [List.mem_singleton] at h1; omega
theorem Stp.bad {l : List Sp.EE} {j : Nat} {x : Sp.EE} {op : List Nat} (hj : 0 < j) (h : ∀ k ∈ op ++ [j - 1], (k : Int) ≠ x.up) : Stp l j x op true :=
  ⟨fun _ => okStep_not hj h, fun h => by cases h⟩
theorem Stp.good {l : List Sp.EE} {j : Nat} {x : Sp.EE} {op : List Nat} (h : Ok l j op) (hj : 0 < j) (hx : l[j]? = some x) {k : Nat} (hk : k ∈ op ++ [j - 1]) (hku : (k : Int) = x.up) : Stp l j x op false := by
  obtain ⟨jj, hjj⟩ := List.getElem?_of_mem hk
  have hr := h.rcAt hj hx hjj hku
  have hlen : ((op ++ [j - 1]).take (jj + 1)).reverse.length = jj + 1 := by
    have := (List.getElem?_eq_some_iff.1 hjj).1
    rw [List.length_reverse, List.length_take]; omega
  have hle : jj + 1 ≤ 16 := by
    have h1 := (List.getElem?_eq_some_iff.1 hjj).1
    have h2 := h.len
    rw [List.length_append, List.length_singleton] at h1
    omega
  refine ⟨(fun h => by cases h), fun _ => ⟨_, hr, by rw [hlen]; omega, fun h16 => ?_, fun h16 hm => ?_⟩⟩
  · rw [hlen] at h16
    cases hm : Sp.may x with
    | false => exact okStep_bad hm
    | true => rw [okStep_at hj hm (h.pw hj) hjj hku, if_pos (by omega)]
  · rw [hlen] at h16
    exact ⟨_, h.next hj hx hm hjj hku (by omega)⟩

set_option maxHeartbeats 16000000 in
set_option maxRecDepth 100000 in
theorem rmay_calls (w : World) (v : Value) (l : List Sp.EE) (h : ElsR w v l) (hl : l.length ≤ 140737488351232) (hw : ∀ x ∈ l, wtEE x ≤ 100000) :
    Calls Tryz.prog 44 #[v] w fun e w' => e = .returned (.bool (Sp.write l).isSome) ∧ Below w.heap.size w w' := by
  have HE := Lib.hid h
  obtain ⟨n, hn⟩ : ∃ n, l.length = n := ⟨_, rfl⟩
  obtain ⟨a1, c1, rfl, hc1⟩ := h.cells
  rw [hn] at hl hc1 HE ⊢
  clear h
  by_cases h0 : n = 0
  · have hR : (Sp.write l).isSome = false := by unfold Sp.write; rw [if_pos (.inl (List.eq_nil_of_length_eq_zero (by omega)))]; rfl
    rw [hR]
    subst h0
    clear hc1 HE hR hn hw
    go_enter Tryz.func44, Tryz.ntmps44
    go_wp2_with fail
    go_ret
    exact ⟨rfl, Below.refl _ _⟩
  · have hz : ((n : Int) == 0) = false := by rw [beq_eq_false_iff_ne]; omega
    by_cases h1 : 4096 < n
    · have hR : (Sp.write l).isSome = false := by unfold Sp.write; rw [if_pos (.inr (by omega))]; rfl
      rw [hR]
      have hd1 : decide ((4096 : Int) < n) = true := by simp; omega
      clear hc1 HE hR hn hw
      go_enter Tryz.func44, Tryz.ntmps44
      go_wp2_with fail
      go_ret
      exact ⟨rfl, Below.refl _ _⟩
    · have hd1 : decide ((4096 : Int) < n) = false := by simp; omega
      have hl4 : n ≤ 4096 := by omega
      obtain ⟨B, hB⟩ : ∃ B, (okRun 0 l []).isSome = B := ⟨_, rfl⟩
      rw [write_isSome (by intro e; subst e; simp at hn; omega) (by omega), hB]
      have HB := Lib.hid hB
      have HN := Lib.hid hn
      have HW := Lib.hid hw
      obtain ⟨g1, o1, rfl, hg1, hc1⟩ := hc1 (by omega)
      have HC := Lib.hid hc1
      have hfail : ∀ (j : Nat) (x : Sp.EE) (op : List Nat), l[j]? = some x → Ok l j op → okStep j x op = none → B = false := fun j x op hx hok hs => by
        rw [← HB.out, okRun_fails hx hok.run hs]; rfl
      have HFL := Lib.hid hfail
      clear hB hn hw hc1 hfail h0 h1 hl
      go_enter Tryz.func44, Tryz.ntmps44
      go_wp2_with fail
      go_loopg [3, 4] (n + 1) (fun kk i _ wr => ∃ (j : Nat) (op : List Nat), i = .int .i64 j ∧ j ≤ n ∧ n - j < kk ∧ Hid (Ok l j op) ∧ Hid (Below w.heap.size w wr))
      case atStart => exact ⟨0, [], rfl, Nat.zero_le _, by omega, Ok.start l, Below.refl _ _⟩
      case round =>
        obtain ⟨j, op, rfl, hj, hk, HOK, HBW⟩ := hrel
        by_cases hlt : j < n
        · have hd : decide ((j : Int) < n) = true := by simp; omega
          have hj0 : (0 : Int) ≤ j := by omega
          have hj1 : (j : Int) < n := by omega
          obtain ⟨x, hx⟩ : ∃ x, l[j]? = some x := ⟨_, List.getElem?_eq_getElem (by rw [HN.out]; exact hlt)⟩
          obtain ⟨av, hav, hcl⟩ := HC.out j x hx
          have hwx := HW.out x (List.mem_of_getElem? hx)
          obtain ⟨hb1, hb2, hb3, hb4⟩ := EEBd.of hwx
          have HAV := Lib.hid hav
          have HCL := Lib.hid hcl
          have HX := Lib.hid hx
          have HB4q := Lib.hid hb4
          clear hav hcl hx hwx hb4
          go_upto_region 6 with fail
          go_cut [60] (fun s60 wx => ∃ b : Bool, s60 = .bool b ∧ Hid (Stp l j x op b) ∧ Hid (Below w.heap.size w wx))
          case first =>
            obtain ⟨y0, y1, y2, y3, y4⟩ := HCL.out wr HBW.out
            by_cases hjz : j = 0
            · subst hjz
              by_cases hu : x.up = -1
              · have hst := Stp.good0 HOK.out HX.out hu
                rw [hu] at y3
                simp only [Nat.zero_mul, Nat.add_zero] at y3
                have HST := Lib.hid hst
                clear hst y0 y1 y2 y4 hu
                go_wp2_with fail
                go_meet
                exact ⟨false, rfl, HST, HBW⟩
              · have hst := Stp.bad0 (l := l) (op := op) hu
                have hne : (x.up != -1) = true := by rw [bne_iff_ne]; exact hu
                simp only [Nat.zero_mul, Nat.add_zero] at y3
                have HST := Lib.hid hst
                clear hst y0 y1 y2 y4 hu
                go_wp2_with fail
                go_meet
                exact ⟨true, rfl, HST, HBW⟩
            · have hjp : 0 < j := by omega
              have hje : ((j : Int) == 0) = false := by rw [beq_eq_false_iff_ne]; omega
              have hjd : decide ((0 : Int) < j) = true := by simp; omega
              by_cases hu0 : x.up < 0
              · have hd0 : decide (x.up < 0) = true := by simp; omega
                have HST := Lib.hid (Stp.bad (l := l) (x := x) (op := op) hjp (fun k _ => by omega))
                clear y0 y1 y2 y4
                go_wp2_with fail
                go_meet
                exact ⟨true, rfl, HST, HBW⟩
              · have hd0 : decide (x.up < 0) = false := by simp; omega
                by_cases huj : (j : Int) ≤ x.up
                · have hd2 : decide ((j : Int) ≤ x.up) = true := by simp; omega
                  have HST := Lib.hid (Stp.bad (l := l) (x := x) (op := op) hjp (fun k hk => by have := HOK.out.lt hjp k hk; omega))
                  clear y0 y1 y2 y4
                  go_wp2_with fail
                  go_meet
                  exact ⟨true, rfl, HST, HBW⟩
                · have hd2 : decide ((j : Int) ≤ x.up) = false := by simp; omega
                  obtain ⟨k, hku⟩ : ∃ k : Nat, (k : Int) = x.up := ⟨x.up.toNat, by omega⟩
                  have hwj : IntKind.i64.wrap ((j : Int) - 1) = (j : Int) - 1 := IntWalk.i64_in _ (by omega)
                  have hhd : hdI (op ++ [j - 1]).reverse = (j : Int) - 1 := by
                    rw [List.reverse_append, List.reverse_singleton, List.singleton_append]
                    show ((j - 1 : Nat) : Int) = _
                    omega
                  have HHD := Lib.hid hhd
                  have HKU := Lib.hid hku
                  have HRC := Lib.hid (HOK.out.rc hjp)
                  by_cases hmem : k ∈ op ++ [j - 1]
                  · have HST := Lib.hid (Stp.good HOK.out hjp HX.out hmem hku)
                    have hdm : decide (k ∈ (op ++ [j - 1]).reverse) = true := by rw [decide_eq_true_eq, List.mem_reverse]; exact hmem
                    have HDM := Lib.hid hdm
                    clear y0 y1 y2 y4 hhd hku hmem hdm
                    go_wp2_with (go_at_call 81; go_must (refine (around_at _ _ l (HE.out.below HBW.out) (by rw [HN.out]; exact hl4) _ HRC.out _ _ k HHD.out HKU.out true HDM.out).mono ?_); rintro e w3 ⟨rfl, hb3⟩; have HB3 := Lib.hid (below_then HBW.out hb3); clear hb3)
                    go_meet
                    exact ⟨false, rfl, HST, HB3⟩
                  · have HST := Lib.hid (Stp.bad (l := l) (x := x) (op := op) hjp (fun k' hk' he => hmem ((show k' = k by omega) ▸ hk')))
                    have hdm : decide (k ∈ (op ++ [j - 1]).reverse) = false := by rw [decide_eq_false_iff_not, List.mem_reverse]; exact hmem
                    have HDM := Lib.hid hdm
                    clear y0 y1 y2 y4 hhd hku hmem hdm
                    go_wp2_with (go_at_call 81; go_must (refine (around_at _ _ l (HE.out.below HBW.out) (by rw [HN.out]; exact hl4) _ HRC.out _ _ k HHD.out HKU.out false HDM.out).mono ?_); rintro e w3 ⟨rfl, hb3⟩; have HB3 := Lib.hid (below_then HBW.out hb3); clear hb3)
                    go_meet
                    exact ⟨true, rfl, HST, HB3⟩
          case rest =>
            obtain ⟨b, rfl, HST, HBW2⟩ := hcut
            apply_assumption
            cases b with
            | true =>
              have hBf : B = false := HFL.out j x op HX.out HOK.out (HST.out.1 rfl)
              subst hBf
              go_wp2_with fail
              go_ret
              exact ⟨rfl, HBW2.out⟩
            | false =>
              obtain ⟨c, hrc, hc17, hst1, hst2⟩ := HST.out.2 rfl
              have HRC := Lib.hid hrc
              obtain ⟨N, hNc⟩ : ∃ N, c.length + 1 = N := ⟨_, rfl⟩
              rw [hNc] at hst1 hst2
              have hN18 : N ≤ 18 := by omega
              have hc1000 : c.length ≤ 1000 := by omega
              have HNC := Lib.hid hNc
              have HC1000 := Lib.hid hc1000
              have HS2 := Lib.hid hst2
              clear hrc hNc hc17 hc1000 HST
              by_cases h16 : 16 < N
              · have hBf : B = false := HFL.out j x op HX.out HOK.out (hst1 h16)
                subst hBf
                have hd16 : decide ((16 : Int) < N) = true := by simp; omega
                clear hst1 hst2
                go_wp2_with (go_at_call 82; go_must (refine (level_at _ _ l (HE.out.below HBW2.out) (by rw [HN.out]; exact hl4) j c HRC.out HC1000.out N HNC.out).mono ?_); rintro e w3 ⟨rfl, hb3⟩; have HB3 := Lib.hid (below_then HBW2.out hb3); clear hb3)
                go_ret
                exact ⟨rfl, HB3.out⟩
              · have hd16 : decide ((16 : Int) < N) = false := by simp; omega
                have hmb : Sp.may x = false → B = false := fun hm => HFL.out j x op HX.out HOK.out (okStep_bad hm)
                have HMB := Lib.hid hmb
                clear hst1 hst2 hmb
                obtain ⟨m, hm⟩ : ∃ m, x.attrs.length = m := ⟨_, rfl⟩
                obtain ⟨ba, bc, hav, hka⟩ := HAV.out.cells
                subst hav
                obtain ⟨nm, hnm0⟩ : ∃ nm : ByteArray, (⟨x.name.toArray⟩ : ByteArray) = nm := ⟨_, rfl⟩
                obtain ⟨tx, htx0⟩ : ∃ tx : ByteArray, (⟨x.text.toArray⟩ : ByteArray) = tx := ⟨_, rfl⟩
                obtain ⟨hnS, hnL⟩ := sz_of hnm0
                obtain ⟨htS, htL⟩ := sz_of htx0
                have HC2 : Hid (∀ W, Below w.heap.size w W → W.cell? ⟨g1, o1 + j * 5, none⟩ = some (.string nm) ∧ W.cell? ⟨g1, o1 + j * 5 + 1, none⟩ = some (.slice ba m bc) ∧ W.cell? ⟨g1, o1 + j * 5 + 2, none⟩ = some (.string tx)) := by
                  intro W hW
                  obtain ⟨z0, z1, z2, -, -⟩ := HCL.out W hW
                  rw [hnm0] at z0
                  rw [htx0] at z2
                  rw [hm] at z1
                  exact ⟨z0, z1, z2⟩
                have HSN : Hid (nm.size ≤ 140737488351232) := by show _ ≤ _; omega
                have HST : Hid (tx.size ≤ 140737488351232) := by show _ ≤ _; omega
                have hnB : Sp.isName (L nm) = Sp.isName x.name := by rw [hnL]
                have htB : Sp.chars (L tx) = Sp.chars x.text := by rw [htL]
                rw [hm] at hka hb3 HAV
                have HM := Lib.hid hm
                have HKA := Lib.hid hka
                clear hka hm hnm0 htx0 hnS htS hnL htL
                cases hnm : Sp.isName x.name with
                | false =>
                  have hBf : B = false := HMB.out (by unfold Sp.may; rw [hnm]; rfl)
                  subst hBf
                  have HNM := Lib.hid (hnB.trans hnm)
                  clear hnB htB hnm
                  go_wp2_with (first | (go_at_call 82; go_must (refine (level_at _ _ l (HE.out.below HBW2.out) (by rw [HN.out]; exact hl4) j c HRC.out HC1000.out N HNC.out).mono ?_); rintro e w3 ⟨rfl, hb3⟩; have HB3 := Lib.hid (below_then HBW2.out hb3); obtain ⟨y0, -, -⟩ := HC2.out w3 HB3.out; clear hb3) | (go_at_call 83; go_must (refine (rname_is nm _ HSN.out false HNM.out).mono ?_); rintro e w4 ⟨rfl, hb4⟩; have HB4 := Lib.hid (below_then HB3.out hb4); obtain ⟨-, -, y2⟩ := HC2.out w4 HB4.out; clear hb4))
                  go_ret
                  exact ⟨rfl, HB4.out⟩
                | true =>
                  have HNM := Lib.hid (hnB.trans hnm)
                  cases hch : Sp.chars x.text with
                  | false =>
                    have hBf : B = false := HMB.out (by unfold Sp.may; rw [hch]; simp)
                    subst hBf
                    have HCH := Lib.hid (htB.trans hch)
                    clear hnB htB hnm hch
                    go_wp2_with (first | (go_at_call 82; go_must (refine (level_at _ _ l (HE.out.below HBW2.out) (by rw [HN.out]; exact hl4) j c HRC.out HC1000.out N HNC.out).mono ?_); rintro e w3 ⟨rfl, hb3⟩; have HB3 := Lib.hid (below_then HBW2.out hb3); obtain ⟨y0, -, -⟩ := HC2.out w3 HB3.out; clear hb3) | (go_at_call 83; go_must (refine (rname_is nm _ HSN.out true HNM.out).mono ?_); rintro e w4 ⟨rfl, hb4⟩; have HB4 := Lib.hid (below_then HB3.out hb4); obtain ⟨-, -, y2⟩ := HC2.out w4 HB4.out; clear hb4) | (go_at_call 84; go_must (refine (rchars_is tx _ HST.out false HCH.out).mono ?_); rintro e w5 ⟨rfl, hb5⟩; have HB5 := Lib.hid (below_then HB4.out hb5); obtain ⟨-, y1, -⟩ := HC2.out w5 HB5.out; clear hb5))
                    go_ret
                    exact ⟨rfl, HB5.out⟩
                  | true =>
                    have HCH := Lib.hid (htB.trans hch)
                    cases htw : (Sp.twice x.attrs).isSome with
                    | true =>
                      have hBf : B = false := HMB.out (by
                        have : (Sp.twice x.attrs).isNone = false := by cases hq : Sp.twice x.attrs with
                          | none => rw [hq] at htw; cases htw
                          | some i => rfl
                        unfold Sp.may; rw [this]; simp)
                      subst hBf
                      have HTW := Lib.hid htw
                      clear hnB htB hnm hch htw
                      go_wp2_with (first | (go_at_call 82; go_must (refine (level_at _ _ l (HE.out.below HBW2.out) (by rw [HN.out]; exact hl4) j c HRC.out HC1000.out N HNC.out).mono ?_); rintro e w3 ⟨rfl, hb3⟩; have HB3 := Lib.hid (below_then HBW2.out hb3); obtain ⟨y0, -, -⟩ := HC2.out w3 HB3.out; clear hb3) | (go_at_call 83; go_must (refine (rname_is nm _ HSN.out true HNM.out).mono ?_); rintro e w4 ⟨rfl, hb4⟩; have HB4 := Lib.hid (below_then HB3.out hb4); obtain ⟨-, -, y2⟩ := HC2.out w4 HB4.out; clear hb4) | (go_at_call 84; go_must (refine (rchars_is tx _ HST.out true HCH.out).mono ?_); rintro e w5 ⟨rfl, hb5⟩; have HB5 := Lib.hid (below_then HB4.out hb5); obtain ⟨-, y1, -⟩ := HC2.out w5 HB5.out; clear hb5) | (go_at_call 74; go_must (refine (rtwice_ge _ _ x.attrs (HAV.out.below HB5.out) (by rw [HM.out]; exact hb3) true HTW.out).mono ?_); rintro e w6 ⟨⟨r, rfl, hr⟩, hb6⟩; have HB6 := Lib.hid (below_then HB5.out hb6); clear hb6))
                      go_ret
                      exact ⟨rfl, HB6.out⟩
                    | false =>
                      have HTW := Lib.hid htw
                      have HMH : Hid (Sp.may x = x.attrs.all Sp.mayA) := by
                        show _ = _
                        have : (Sp.twice x.attrs).isNone = true := by cases hq : Sp.twice x.attrs with
                          | none => rfl
                          | some i => rw [hq] at htw; cases htw
                        rw [may_split]
                        unfold mayH
                        rw [hnm, hch, this]
                        rfl
                      clear hnB htB hnm hch htw
                      obtain ⟨gk0, rfl⟩ : ∃ z, z = gk := ⟨_, rfl⟩
                      go_wp2_with (first | (go_at_call 82; go_must (refine (level_at _ _ l (HE.out.below HBW2.out) (by rw [HN.out]; exact hl4) j c HRC.out HC1000.out N HNC.out).mono ?_); rintro e w3 ⟨rfl, hb3⟩; have HB3 := Lib.hid (below_then HBW2.out hb3); obtain ⟨y0, -, -⟩ := HC2.out w3 HB3.out; clear hb3) | (go_at_call 83; go_must (refine (rname_is nm _ HSN.out true HNM.out).mono ?_); rintro e w4 ⟨rfl, hb4⟩; have HB4 := Lib.hid (below_then HB3.out hb4); obtain ⟨-, -, y2⟩ := HC2.out w4 HB4.out; clear hb4) | (go_at_call 84; go_must (refine (rchars_is tx _ HST.out true HCH.out).mono ?_); rintro e w5 ⟨rfl, hb5⟩; have HB5 := Lib.hid (below_then HB4.out hb5); obtain ⟨-, y1, -⟩ := HC2.out w5 HB5.out; clear hb5) | (go_at_call 74; go_must (refine (rtwice_ge _ _ x.attrs (HAV.out.below HB5.out) (by rw [HM.out]; exact hb3) false HTW.out).mono ?_); rintro e w6 ⟨⟨r, rfl, hr⟩, hb6⟩; have HB6 := Lib.hid (below_then HB5.out hb6); clear hb6))
                      clear hr
                      go_loopg [4] (m + 1) (fun k2 q2 wr2 => ∃ q : Nat, q2 = .int .i64 q ∧ q ≤ m ∧ m - q < k2 ∧ Hid (∀ k a, k < q → x.attrs[k]? = some a → Sp.mayA a = true) ∧ Hid (Below w.heap.size w wr2))
                      case atStart => exact ⟨0, rfl, Nat.zero_le _, by omega, (fun k a h => absurd h (Nat.not_lt_zero _)), HB6⟩
                      case round =>
                        clear HBW2 HB3 HB4 HB5 HB6 y0 y1 y2
                        obtain ⟨q, rfl, hq, hk2, HQ, HBQ⟩ := hrel
                        obtain ⟨-, y1, -⟩ := HC2.out wr HBQ.out
                        by_cases hlt2 : q < m
                        · have hd2 : decide ((q : Int) < m) = true := by simp; omega
                          have hq0 : (0 : Int) ≤ q := by omega
                          have hq1 : (q : Int) < m := by omega
                          obtain ⟨a, ha⟩ : ∃ a, x.attrs[q]? = some a := ⟨_, List.getElem?_eq_getElem (by rw [HM.out]; exact hlt2)⟩
                          obtain ⟨ga, oa, rfl, hga, hac⟩ := HKA.out (by omega)
                          obtain ⟨an, han⟩ : ∃ an : ByteArray, (⟨a.name.toArray⟩ : ByteArray) = an := ⟨_, rfl⟩
                          obtain ⟨vl, hvl⟩ : ∃ vl : ByteArray, (⟨a.value.toArray⟩ : ByteArray) = vl := ⟨_, rfl⟩
                          obtain ⟨haS, haL⟩ := sz_of han
                          obtain ⟨hvS, hvL⟩ := sz_of hvl
                          have hab := HB4q.out a (List.mem_of_getElem? ha)
                          have hca := hac q a ha
                          rw [han, hvl] at hca
                          have HCA := Lib.hid hca
                          obtain ⟨u0, -, -⟩ := hca wr HBQ.out
                          have HSA : Hid (an.size ≤ 140737488351232) := by show _ ≤ _; omega
                          have HSV : Hid (vl.size ≤ 140737488351232) := by show _ ≤ _; omega
                          have hnA : Sp.isName (L an) = Sp.isName a.name := by rw [haL]
                          have hvA : Sp.chars (L vl) = Sp.chars a.value := by rw [hvL]
                          have hfa : Sp.mayA a = false → B = false := fun hmf => HMB.out (by
                            rw [HMH.out, List.all_eq_false]
                            exact ⟨a, List.mem_of_getElem? ha, by rw [hmf]; simp⟩)
                          have HFA := Lib.hid hfa
                          have HA := Lib.hid ha
                          clear han hvl haS hvS haL hvL hab hca hac hfa ha
                          cases hna : Sp.isName a.name with
                          | false =>
                            have hBf : B = false := HFA.out (by unfold Sp.mayA; rw [hna]; rfl)
                            subst hBf
                            have HNA := Lib.hid (hnA.trans hna)
                            clear hnA hvA hna
                            go_wp2_with (go_at_call 83; go_must (refine (rname_is an _ HSA.out false HNA.out).mono ?_); rintro e w7 ⟨rfl, hb7⟩; have HB7 := Lib.hid (below_then HBQ.out hb7); clear hb7)
                            go_ret
                            exact ⟨rfl, HB7.out⟩
                          | true =>
                            have HNA := Lib.hid (hnA.trans hna)
                            cases hva : Sp.chars a.value with
                            | false =>
                              have hBf : B = false := HFA.out (by unfold Sp.mayA; rw [hva]; simp)
                              subst hBf
                              have HVA := Lib.hid (hvA.trans hva)
                              clear hnA hvA hna hva
                              go_wp2_with (first | (go_at_call 83; go_must (refine (rname_is an _ HSA.out true HNA.out).mono ?_); rintro e w7 ⟨rfl, hb7⟩; have HB7 := Lib.hid (below_then HBQ.out hb7); obtain ⟨-, y1, -⟩ := HC2.out w7 HB7.out; obtain ⟨-, u1, -⟩ := HCA.out w7 HB7.out; clear hb7) | (go_at_call 84; go_must (refine (rchars_is vl _ HSV.out false HVA.out).mono ?_); rintro e w8 ⟨rfl, hb8⟩; have HB8 := Lib.hid (below_then HB7.out hb8); clear hb8))
                              go_ret
                              exact ⟨rfl, HB8.out⟩
                            | true =>
                              have HVA := Lib.hid (hvA.trans hva)
                              have HQ2 : Hid (∀ k b, k < q + 1 → x.attrs[k]? = some b → Sp.mayA b = true) := by
                                intro k b hk hb
                                by_cases hkq : k = q
                                · subst hkq
                                  rw [HA.out] at hb
                                  injection hb with hb
                                  subst hb
                                  unfold Sp.mayA
                                  rw [hna, hva]; rfl
                                · exact HQ.out k b (by omega) hb
                              clear hnA hvA hna hva
                              go_wp2_with (first | (go_at_call 83; go_must (refine (rname_is an _ HSA.out true HNA.out).mono ?_); rintro e w7 ⟨rfl, hb7⟩; have HB7 := Lib.hid (below_then HBQ.out hb7); obtain ⟨-, y1, -⟩ := HC2.out w7 HB7.out; obtain ⟨-, u1, -⟩ := HCA.out w7 HB7.out; clear hb7) | (go_at_call 84; go_must (refine (rchars_is vl _ HSV.out true HVA.out).mono ?_); rintro e w8 ⟨rfl, hb8⟩; have HB8 := Lib.hid (below_then HB7.out hb8); clear hb8))
                              go_roundg (gk - 1)
                              case measure => omega
                              case rel => exact ⟨q + 1, by simp, by omega, by omega, HQ2, HB8⟩
                        · have hqm : q = m := by omega
                          subst hqm
                          have hd2 : decide ((q : Int) < q) = false := by simp
                          have hmay : Sp.may x = true := by
                            rw [HMH.out, List.all_eq_true]
                            intro a ha
                            obtain ⟨k, hk⟩ := List.getElem?_of_mem ha
                            exact HQ.out k a (by rw [← HM.out]; exact (List.getElem?_eq_some_iff.1 hk).1) hk
                          obtain ⟨op', hop'⟩ := HS2.out (by omega) hmay
                          have HOP := Lib.hid hop'
                          clear hmay hop'
                          go_wp2_with fail
                          go_roundg (gk0 - 1)
                          case measure => omega
                          case rel => exact ⟨j + 1, op', by simp, by omega, by omega, HOP, HBQ⟩
        · have hj' : j = n := by omega
          subst hj'
          have hd : decide ((j : Int) < j) = false := by simp
          have hBt : B = true := by
            have h := HOK.out.run
            rw [List.take_of_length_le (by rw [HN.out]; exact Nat.le_refl _)] at h
            rw [← HB.out, h]; rfl
          subst hBt
          go_wp2_with fail
          go_ret
          exact ⟨rfl, HBW.out⟩
end Go.Proofs.YtokdclmikllepaaGreatDoor
