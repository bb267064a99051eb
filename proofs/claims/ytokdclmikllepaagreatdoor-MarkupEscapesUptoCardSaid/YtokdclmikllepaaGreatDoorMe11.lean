import Derived.Test.YtokdclmikllepaaGreatDoorMe10
namespace Go.Proofs.YtokdclmikllepaaGreatDoor
open Go.RowKit
set_option linter.unusedVariables false
set_option linter.unusedSimpArgs false

set_option maxHeartbeats 4000000 in
set_option maxRecDepth 100000 in
theorem closing_noname (s : ByteArray) (g p : Nat) (out : Value) (w : World) (hr : Rd w g s p p out) (hs : s.size ≤ 65536) (hp : p + 2 ≤ s.size) (hq : nm (s.size - (p + 2) + 1) true s (p + 2) = p + 2) :
    Calls Tryz.prog 92 #[.pointer (some ⟨g, 0, none⟩)] w fun e w' => e = pan (Sp.stop p (p + 2) ((L s).drop (p + 2))) ∧ Only g w w' := by
  have h1 := hr.c1
  have hf1 := hr.fz 1
  have HQ := Lib.hid hq
  clear hq
  go_enter Tryz.func92, Tryz.ntmps92
  go_wp2_with fail
  have hr1 : Rd (w.setCell ⟨g, 1, none⟩ (.int .i64 ((p : Int) + 2))) g s (p + 2) p out := hr.set1 (p + 2)
  refine (name_none s g (p + 2) p out _ hr1 (by omega) hp HQ.out).mono ?_
  rintro e w1 ⟨he, hb⟩
  unfold pan at he
  subst he
  go_wp2_with fail
  exact ⟨rfl, rfl, ((Only.refl g w).set 1 _).below hb⟩

set_option maxHeartbeats 4000000 in
set_option maxRecDepth 100000 in
theorem closing_nowant (s : ByteArray) (g p : Nat) (out : Value) (q : Nat) (w : World) (hr : Rd w g s p p out) (hs : s.size ≤ 65536)
    (hp : p + 2 ≤ s.size) (hq : nm (s.size - (p + 2) + 1) true s (p + 2) = q) (hne : p + 2 < q) (u : Nat) (hu : bl s q = u) (hc : ((L s).drop u).head? ≠ some 62) :
    Calls Tryz.prog 92 #[.pointer (some ⟨g, 0, none⟩)] w fun e w' => e = pan (Sp.stop p u ((L s).drop u)) ∧ Only g w w' := by
  have hqs := nm_le (s.size - (p + 2) + 1) true s (p + 2) hp
  rw [hq] at hqs
  have hqs2 := hqs.2
  have h1 := hr.c1
  have hf1 := hr.fz 1
  have HQ := Lib.hid hq
  have HU := Lib.hid hu
  have HC := Lib.hid hc
  clear hq hu hc hqs
  go_enter Tryz.func92, Tryz.ntmps92
  go_wp2_with fail
  have hr1 : Rd (w.setCell ⟨g, 1, none⟩ (.int .i64 ((p : Int) + 2))) g s (p + 2) p out := hr.set1 (p + 2)
  refine (name_calls s g (p + 2) p out _ hr1 (by omega) hp q HQ.out hne).mono ?_
  rintro e w1 ⟨rfl, ho1, hr2⟩
  have HR2 : Hid (Only g w w1 ∧ Rd w1 g s q p out) := ⟨((Only.refl g w).set 1 _).trans ho1, hr2⟩
  clear ho1 hr2 hr1 h1 hf1
  go_wp2_with (go_at_call 123; refine (blanks_calls s g q p out _ HR2.out.2 (by omega) hqs2).mono ?_; rw [HU.out]; rintro e w2 ⟨rfl, ho2, hr3⟩; have HR3 : Hid (Only g w w2 ∧ Rd w2 g s u p out) := ⟨HR2.out.1.trans ho2, hr3⟩; clear ho2 hr3)
  refine (want_fails s 62 62 rfl g u p out _ HR3.out.2 (by omega) HC.out).mono ?_
  rintro e w3 ⟨he, n, rfl⟩
  unfold pan at he
  subst he
  go_wp2_with fail
  exact ⟨rfl, rfl, HR3.out.1.drewN _⟩
end Go.Proofs.YtokdclmikllepaaGreatDoor
