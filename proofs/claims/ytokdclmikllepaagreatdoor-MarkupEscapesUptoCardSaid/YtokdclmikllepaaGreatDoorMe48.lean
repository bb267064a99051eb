import Derived.Test.YtokdclmikllepaaGreatDoorMe47
import Derived.Test.YtokdclmikllepaaGreatDoorMe44
namespace Go.Proofs.YtokdclmikllepaaGreatDoor
open Go.RowKit
set_option linter.unusedVariables false
set_option linter.unusedSimpArgs false

/-- What chars tells. -/
def CharsEnd (s : ByteArray) (w : World) (e : Ending) (w' : World) : Prop := ∃ b : Bool, e = .returned (.bool b) ∧ Below w.heap.size w w' ∧ (b = true → s.size < 3000 ∧ Cs (L s))
theorem check_is (s : ByteArray) : ∃ x c : Int, YtokdclmikllepaaGreatDoorP.pavaneref08_Check.f (s.size + 1) s = some (x, c) ∧ (c = 0 → Cs (L s)) := by
  have hck := check_f (s := s) (s.size + 1) (by omega)
  rw [hck]
  by_cases h : 65536 < s.size
  · rw [if_pos h]
    exact ⟨0, 3, rfl, fun h => absurd h (by decide)⟩
  · rw [if_neg h]
    cases h1 : Sp.bad (s.size + 1) 0 (L s) with
    | some i => exact ⟨_, 71, rfl, fun h => absurd h (by decide)⟩
    | none =>
      cases h2 : Sp.badChar (s.size + 1) 0 (L s) with
      | some i => exact ⟨_, 81, rfl, fun h => absurd h (by decide)⟩
      | none => exact ⟨0, 0, rfl, fun _ => Cs.of_none _ _ _ _ h1 h2⟩

set_option maxHeartbeats 2000000 in
set_option maxRecDepth 100000 in
theorem chars_calls (s : ByteArray) (w : World) (hs : s.size ≤ 6000000) :
    Calls Tryz.prog 28 #[.string s] w (CharsEnd s w) := by
  obtain ⟨x, c, hxc, hcs⟩ := check_is s
  have HCS := Lib.hid hcs
  have HXC := Lib.hid hxc
  clear hcs hxc
  have hfd : ∀ (x c : Int) (w : World), (Instr.field 27 (.agg #[.int .i64 x, .int .i64 c]) 1).run Tryz.prog w = .ok (.int .i64 c) w := fun _ _ _ => by kernel_rfl
  by_cases hlt : s.size < 3000
  · have hd : decide ((s.size : Int) < 3000) = true := by simp; omega
    by_cases hc0 : c = 0
    · have hc1 : (c == 0) = true := by rw [hc0]; rfl
      have HC0 := Lib.hid hc0
      clear hc0
      go_enter Tryz.func28, Tryz.ntmps28
      go_wp2_with (go_at_call 51; refine (refCheck_is s x c _ HXC.out).mono ?_; rintro e w1 ⟨rfl, hb1⟩)
      go_ret
      exact ⟨_, rfl, hb1, fun _ => ⟨hlt, HCS.out HC0.out⟩⟩
    · have hc1 : (c == 0) = false := by rw [beq_eq_false_iff_ne]; exact hc0
      go_enter Tryz.func28, Tryz.ntmps28
      go_wp2_with (go_at_call 51; refine (refCheck_is s x c _ HXC.out).mono ?_; rintro e w1 ⟨rfl, hb1⟩)
      go_ret
      exact ⟨false, rfl, hb1, fun h => absurd h (by decide)⟩
  · have hd : decide ((s.size : Int) < 3000) = false := by simp; omega
    go_enter Tryz.func28, Tryz.ntmps28
    go_wp2_with fail
    go_ret
    exact ⟨false, rfl, Below.refl _ _, fun h => absurd h (by decide)⟩

theorem mk_L (l : List UInt8) : L ⟨l.toArray⟩ = l := rfl
set_option maxHeartbeats 8000000 in
set_option maxRecDepth 100000 in
theorem escapes_calls (s : ByteArray) (w : World) (hG : Gl w) (hs : s.size ≤ 6000000) :
    Calls Tryz.prog 5 #[.string s] w fun e w' => e = .returned (.bool true) ∧ Below w.heap.size w w' := by
  have HG := Lib.hid hG
  clear hG
  obtain ⟨x, hx⟩ : ∃ x : ByteArray, (⟨(Sp.escape (L s)).toArray⟩ : ByteArray) = x := ⟨_, rfl⟩
  obtain ⟨q, hq⟩ : ∃ q : ByteArray, (⟨(Sp.quote (L s)).toArray⟩ : ByteArray) = q := ⟨_, rfl⟩
  have hx6 : x.size ≤ 600000000 := by
    rw [← hx, mk_sizeL]
    have := swps_len false (L s)
    rw [L_length] at this
    exact Nat.le_trans this (Nat.mul_le_mul hs (Nat.le_refl _))
  have hq6 : q.size ≤ 700000000 := by
    rw [← hq, mk_sizeL]
    have := swps_len true (L s)
    rw [L_length] at this
    have h2 := Nat.le_trans this (Nat.mul_le_mul hs (Nat.le_refl 100))
    show (34 :: (L s).flatMap (swp true) ++ [34]).length ≤ _
    simp only [List.length_append, List.length_cons, List.length_nil]
    omega
  have HX := Lib.hid hx
  have HQ := Lib.hid hq
  clear hx hq
  have hE : ∀ w, Calls Tryz.prog 24 #[.string s] w fun e w' => e = .returned (.string x) ∧ Below w.heap.size w w' := fun w => HX.out ▸ escape_calls s w hs
  have hQ : ∀ w, Calls Tryz.prog 25 #[.string s] w fun e w' => e = .returned (.string q) ∧ Below w.heap.size w w' := fun w => HQ.out ▸ quote_calls s w hs
  have hRE : ∀ w, Calls Tryz.prog 26 #[.string s] w fun e w' => e = .returned (.string x) ∧ Below w.heap.size w w' := fun w => HX.out ▸ refEscape_calls s w hs
  have hRQ : ∀ w, Calls Tryz.prog 27 #[.string s] w fun e w' => e = .returned (.string q) ∧ Below w.heap.size w w' := fun w => HQ.out ▸ refQuote_calls s w hs
  have HE := Lib.hid hE
  have HQQ := Lib.hid hQ
  have HRE := Lib.hid hRE
  have HRQ := Lib.hid hRQ
  clear hE hQ hRE hRQ
  go_enter Tryz.func5, Tryz.ntmps5
  go_wp2_with (first
    | (go_at_call 24; refine (HE.out _).mono ?_; rintro e w1 ⟨rfl, hb1⟩)
    | (go_at_call 25; refine (HQQ.out _).mono ?_; rintro e w2 ⟨rfl, hb2⟩; have HB2 := Lib.hid (below_then hb1 hb2))
    | (go_at_call 18; refine (awake_calls _ (HG.out.below HB2.out)).mono ?_; rintro e w3 ⟨rfl, hb3⟩; have HB3 := Lib.hid (below_then HB2.out hb3))
    | (go_at_call 26; refine (HRE.out _).mono ?_; rintro e w4 ⟨rfl, hb4⟩; have HB4 := Lib.hid (below_then HB3.out hb4))
    | (go_at_call 27; refine (HRQ.out _).mono ?_; rintro e w5 ⟨rfl, hb5⟩; have HB5 := Lib.hid (below_then HB4.out hb5); clear hb1 hb2 hb3 hb4 hb5))
  refine (chars_calls s _ hs).mono ?_
  rintro e w6 ⟨b, rfl, hb6, hcb⟩
  have HB6 := Lib.hid (below_then HB5.out hb6)
  clear hb6
  cases b with
  | false =>
    clear hcb
    go_wp2_with fail
    go_ret
    exact ⟨rfl, HB6.out⟩
  | true =>
    obtain ⟨h3, hcs⟩ := hcb rfl
    clear hcb
    have HCS := Lib.hid hcs
    clear hcs
    by_cases hse : s.toList.isEmpty = true
    · go_wp2_with fail
      go_ret
      exact ⟨rfl, HB6.out⟩
    · have hse' : s.toList.isEmpty = false := by simpa using hse
      have hne : L s ≠ [] := by
        intro h
        rw [toList_L, h] at hse'
        exact absurd hse' (by decide)
      have hm1 : Sp.marks (L x) = .ok [⟨3, [], [], false, L s, 0⟩] := by rw [← HX.out, mk_L]; exact escape_marks _ HCS.out hne (by rw [L_length]; omega)
      have hm2 : Sp.marks (L ((⟨#[60, 97, 32, 98, 61]⟩ : ByteArray) ++ q ++ (⟨#[47, 62]⟩ : ByteArray))) = .ok [⟨1, [97], [⟨[98], L s, 3⟩], true, [], 0⟩] := by
        have : L ((⟨#[60, 97, 32, 98, 61]⟩ : ByteArray) ++ q ++ (⟨#[47, 62]⟩ : ByteArray)) = 60 :: 97 :: 32 :: 98 :: 61 :: (Sp.quote (L s) ++ [47, 62]) := by
          rw [← HQ.out]
          unfold L
          simp
        rw [this]
        exact quote_marks _ HCS.out (by rw [L_length]; omega)
      have HM1 := Lib.hid hm1
      have HM2 := Lib.hid hm2
      clear hm1 hm2 hse hne
      go_wp2_with fail
      refine (marks_is x _ (HG.out.below HB6.out) (by omega) _ HM1.out).mono ?_
      rintro e w7 ⟨hb7, v, rfl, hm⟩
      obtain ⟨g, cap, rfl, hg1, hg2, hc⟩ := hm.cell (by simp)
      obtain ⟨av, hat, c0, c1, c2, c3, c4, c5⟩ := hc 0 _ rfl
      clear hc hat hm
      have HB7 := Lib.hid (below_then HB6.out hb7)
      clear hb7
      go_wp2_with fail
      refine (marks_is _ _ (HG.out.below HB7.out) (by
        rw [ByteArray.size_append, ByteArray.size_append]
        show 5 + q.size + 2 ≤ _
        omega) _ HM2.out).mono ?_
      rintro e w8 ⟨hb8, v2, rfl, hm2⟩
      obtain ⟨g2, cap2, rfl, hg3, hg4, hc⟩ := hm2.cell (by simp)
      obtain ⟨av2, hat, d0, d1, d2, d3, d4, d5⟩ := hc 0 _ rfl
      obtain ⟨g3, cap3, rfl, hg5, hg6, hc'⟩ := hat.cell (by simp)
      obtain ⟨f0, f1, f2⟩ := hc' 0 _ rfl
      have k : ∀ b i u, b < w7.heap.size → w7.cell? ⟨b, i, none⟩ = some u → w8.cell? ⟨b, i, none⟩ = some u := fun b i u hb h =>
        (World.cell?_of_block (hb8.block b hb)).trans h
      have e0 := k _ _ _ hg2 c0
      have e4 := k _ _ _ hg2 c4
      have HB8 := Lib.hid (below_then HB7.out hb8)
      clear k c0 c1 c2 c3 c4 c5 hc hc' hat hm2 hb8
      simp only [Nat.zero_mul, Nat.zero_add, bs_L] at e0 e4 d0 d2 f1
      go_wp2_with fail
      go_ret
      exact ⟨rfl, HB8.out⟩
end Go.Proofs.YtokdclmikllepaaGreatDoor
