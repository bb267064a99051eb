import Derived.Test.YtokdclmikllepaaDoorTg
import Derived.Test.YtokdclmikllepaaDoorVb
namespace Go.Proofs.YtokdclmikllepaaDoor
open Go.RowKit
set_option linter.unusedVariables false
set_option linter.unusedSimpArgs false

set_option maxHeartbeats 2000000 in
set_option maxRecDepth 100000 in
theorem wf_calls (x : Nat) (hx : x ≤ 1114111) (w : World) :
    Calls Tryd.prog 41 #[.int .i32 x] w fun e w' => e = .returned (.int .i32 (wf x)) ∧ ∃ q, w' = w.drewN q := by
  by_cases h : x < 128
  · have hd : decide ((x : Int) < 128) = true := by simp; omega
    have hc : (UInt8.ofNat x).toNat = x := by simp; omega
    have hwr : IntKind.u8.wrap (x : Int) = (x : Int) := by simp [IntKind.wrap, IntKind.bits, IntKind.signed]; omega
    have hW := white_calls (UInt8.ofNat x)
    rw [hc] at hW
    cases hb : Sp.white (UInt8.ofNat x) with
    | true =>
      have hwf : wf x = 32 := by
        rw [wf, if_pos]
        simp [Sp.white] at hb; omega
      rw [hb] at hW
      rw [hwf]
      go_enter Tryd.func41, Tryd.ntmps41
      go_wp2_with (go_at_call 16; refine (hW _).mono ?_; rintro e w' ⟨rfl, rfl⟩)
      go_ret
      exact ⟨rfl, 0, rfl⟩
    | false =>
      have hwf : wf x = x := by
        rw [wf, if_neg]
        simp [Sp.white] at hb; omega
      rw [hb] at hW
      rw [hwf]
      go_enter Tryd.func41, Tryd.ntmps41
      go_wp2_with (go_at_call 16; refine (hW _).mono ?_; rintro e w' ⟨rfl, rfl⟩)
      go_ret
      exact ⟨rfl, 0, rfl⟩
  · have hd : decide ((x : Int) < 128) = false := by simp; omega
    have hwf : wf x = x := by
      rw [wf, if_neg]; omega
    rw [hwf]
    go_enter Tryd.func41, Tryd.ntmps41
    go_wp2_with fail
    go_ret
    exact ⟨rfl, 0, rfl⟩

set_option maxHeartbeats 2000000 in
set_option maxRecDepth 100000 in
theorem flat_calls (s : ByteArray) (w : World) (hG : Gl w) (hs : s.size ≤ 65536) (hU : U8 (L s)) :
    Calls Tryd.prog 39 #[.string s] w fun e w' => e = .returned (.string ⟨(Sp.flat true (L s)).toArray⟩) ∧ Below w.heap.size w w' := by
  obtain ⟨m, hm⟩ := hG.mx
  have hll := lines_len (L s)
  rw [L_length] at hll
  have hfl := hU.flat
  have HF := Lib.hid hfl
  clear hfl hU
  go_enter Tryd.func39, Tryd.ntmps39
  go_wp2_with fail
  refine (lines_calls s _ m (by exact hm) hs).mono ?_
  rintro e w1 ⟨rfl, hb⟩
  have hG1 := Lib.hid (hG.below hb)
  have HB := Lib.hid hb
  clear hb hm
  go_wp2_with fail
  refine (Tryd.strings_Map_runes 41 #[] (fun _ _ => rfl) wf ⟨(Sp.lines (L s)).toArray⟩ _ (by rw [mk_len]; omega) (fun W x hx _ => wf_calls x hx W) (fun x hx => by unfold wf; split <;> omega) hG1.out.tabs).mono ?_
  rintro e w2 ⟨rfl, hb2⟩
  have hsz : w.heap.size ≤ w1.heap.size := HB.out.size
  have hb3 := HB.out.trans (hb2.mono hsz)
  go_wp2_with fail
  go_ret
  refine ⟨?_, hb3⟩
  rw [← HF.out]; rfl
end Go.Proofs.YtokdclmikllepaaDoor
