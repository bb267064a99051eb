import Derived.Test.YtokdclmikllepaaDoorTn
namespace Go.Proofs.YtokdclmikllepaaDoor
open Go.RowKit
set_option linter.unusedVariables false
set_option linter.unusedSimpArgs false

theorem opening_calls (s : ByteArray) (g p : Nat) (out : Value) (ms : List Sp.Mk) (B : Nat) (w : World) (hG : Gl w) (hr : Rd w g s p p out) (hs : s.size ≤ 65536) (hp : p + 1 ≤ s.size) (hB : B ≤ w.heap.size) (hms : MksAt B w out ms) (hn : ms.length < 65537) (hU : U8 (L s))
    (R : Except Sp.Flt (List Sp.Mk × Nat)) (hR : (Sp.opening p ((L s).drop p)).map (fun r => ([r.1], r.2)) = R) :
    Calls Tryd.prog 21 #[.pointer (some ⟨g, 0, none⟩)] w (PieceEnd g s p out ms B R w) := by
  have hl1 : ((L s).drop p).drop 1 = (L s).drop (p + 1) := List.drop_drop ..
  have hlen : ((L s).drop (p + 1)).length = s.size - (p + 1) := by rw [List.length_drop, L_length]
  have hlen0 : ((L s).drop p).length = s.size - p := by rw [List.length_drop, L_length]
  unfold Sp.opening at hR
  simp only [hl1, hlen, hlen0] at hR
  obtain ⟨n, hnn⟩ : ∃ n, Sp.nameN (s.size - (p + 1) + 1) true ((L s).drop (p + 1)) = n := ⟨_, rfl⟩
  have hnm : nm (s.size - (p + 1) + 1) true s (p + 1) = p + 1 + n := by unfold nm; rw [hnn]
  rw [hnn] at hR
  by_cases h0 : n = 0
  · subst h0
    rw [if_pos rfl] at hR
    have hR : Except.error _ = R := hR
    subst hR
    exact (opening_noname s g p out w hr hs hp hnm).mono fun e w' ⟨he, ho⟩ => ⟨he, Keep.of_only ho _⟩
  · rw [if_neg h0] at hR
    have hd : ((L s).drop (p + 1)).drop n = (L s).drop (p + 1 + n) := List.drop_drop ..
    rw [hd] at hR
    obtain ⟨RA, hRA⟩ : ∃ x, Sp.attrs p (s.size - p + 1) (p + 1 + n) ((L s).drop (p + 1 + n)) [] (1 + n) = x := ⟨_, rfl⟩
    rw [hRA] at hR
    refine opening_named s g p out ms B w hG hr hs hp hB hms hn hU (p + 1 + n) hnm (by omega) RA (s.size - p + 1) (by omega) (by rw [show p + 1 + n - p = 1 + n by omega]; exact hRA) R ?_
    have hx : L (s.extract (p + 1) (p + 1 + n)) = ((L s).drop (p + 1)).take n := by rw [L_extract]; congr 1; omega
    rw [hx, ← hR]
    cases RA <;> rfl
end Go.Proofs.YtokdclmikllepaaDoor
