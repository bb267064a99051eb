import Derived.Test.YtokdclmikllepaaGreatDoorMe34
namespace Go.Proofs.YtokdclmikllepaaGreatDoor
open Go.RowKit
set_option linter.unusedVariables false
set_option linter.unusedSimpArgs false

theorem TabIs.old {B : Nat} {w w' : World} {r : Option ByteArray} {u : Value} {row : Option Nat} (h : TabIs B w r u) (hg : w.grownBy w' row) (hr : ∀ k, row = some k → k < B) : TabIs B w' r u := by
  cases r with
  | none => exact h
  | some r =>
    obtain ⟨g, C, fz, rfl, hb, hh⟩ := h
    exact ⟨g, C, fz, rfl, hb, (hg.block g (Array.getElem?_eq_some_iff.1 hh).1 (fun e => by have := hr g e.symm; omega)).trans hh⟩
/-- What was built stays as long as only elder blocks turn. -/
theorem Built.old {B h : Nat} {ps : Prs} {w w' : World} {row : Option Nat} (hb : Built B h ps w) (hg : w.grownBy w' row) (hr : ∀ k, row = some k → k < B) : Built B h ps w' := by
  obtain ⟨T, tv, hbt, hBh, hown, htab⟩ := hb
  refine ⟨T, tv, hbt.grown hg (fun e => by have := hr h e; omega), hBh, hown.kept hg ?_, fun c => ?_⟩
  · cases hv : tv.ownBlock with
    | none => exact .inl rfl
    | some k => exact .inr (fun e => by have := (hown.lt k hv).1; have := hr k e.symm; omega)
  · obtain ⟨u, hu, hu2⟩ := htab c
    exact ⟨u, hu, hu2.old hg hr⟩

set_option maxHeartbeats 2000000 in
set_option maxRecDepth 100000 in
theorem buildOnce_calls (ps : Prs) (b g n : Nat) (cap : Nat) (r : Value) (w : World) (hr : Rp w b 0 1 0 r (.slice (some ⟨g, 0, none⟩) n cap)) (hn : n = 2 * ps.length) (h2 : 2 ≤ ps.length) (h9 : ps.length < 100) (hnd : (ps.map Prod.fst).Nodup)
    (hc : ∀ j u, (pairVals ps)[j]? = some u → w.cell? ⟨g, j, none⟩ = some u) (hnew : ∀ x ∈ ps, x.2.size ≠ 1) :
    Calls Tryz.prog 103 #[.pointer (some ⟨b, 0, none⟩)] w fun e w' => e = .returned (.tuple #[]) ∧ ∃ h, Rp w' b 0 1 0 (.iface 203 (.pointer (some ⟨h, 0, none⟩))) (.slice none 0 0) ∧ w.grownBy w' (some b) ∧ Built w.heap.size h ps w' := by
  have hblt := hr.lt
  go_enter Tryz.func103, Tryz.ntmps103
  go_wp2_with (go_at_call 131; refine (build_calls ps b g n cap r _ hr hn h2 h9 hnd hc hnew).mono ?_; rintro e w1 ⟨h, rfl, hb1, hB1⟩; have hr1 := hr.below hb1; have c3 := hr1.c3; have c4 := (hr1.set3 (.iface 203 (.pointer (some ⟨h, 0, none⟩)))).c4; have f3 := hr1.fz 3; have f4 := (hr1.set3 (.iface 203 (.pointer (some ⟨h, 0, none⟩)))).fz 4)
  go_end0
  refine ⟨rfl, h, (hr1.set3 _).set4 _, ?_, ?_⟩
  · exact (((Only.refl b w).below hb1).set 3 _).set 4 _
  · exact hB1.old (((Only.refl b w1).set 3 _).set 4 _) (fun k hk => by injection hk with hk; omega)

def Sp.rep (ps : Prs) (l : List UInt8) : List UInt8 := l.flatMap fun c => match ps.lookup c with | some r => L r | none => [c]
end Go.Proofs.YtokdclmikllepaaGreatDoor
