import Derived.Test.YtokdclmikllepaaGreatDoorLq
import Derived.Test.YtokdclmikllepaaGreatDoorKt43
import Derived.Test.YtokdclmikllepaaGreatDoorKt17
namespace Go.Proofs.YtokdclmikllepaaGreatDoor
open Go.RowKit
set_option linter.unusedVariables false
set_option linter.unusedSimpArgs false

/-! ### bounds of what is read -/
def EeBd (x : Sp.EE) : Prop := -1 ≤ x.up ∧ x.up ≤ 100000 ∧ 0 ≤ x.at_ ∧ x.at_ ≤ 100000 ∧ ∀ a ∈ x.attrs, 0 ≤ a.at_ ∧ a.at_ ≤ 100000
def BdB (b : Sp.Bd) : Prop := (∀ x ∈ b.1, EeBd x) ∧ (∀ k ∈ b.2, k < b.1.length) ∧ b.1.length ≤ 4096
theorem upOf_bd {op : List Nat} {n : Nat} (h : ∀ k ∈ op, k < n) (hn : n ≤ 100000) : -1 ≤ Sp.upOf op ∧ Sp.upOf op ≤ 100000 := by
  unfold Sp.upOf
  split
  · rename_i i hi
    have := h i (List.mem_of_getLast? hi)
    omega
  · omega
theorem step_bd {b b' : Sp.Bd} {m : Sp.Mk} (h : BdB b) (hm1 : m.at_ ≤ 100000) (hm2 : ∀ a ∈ m.attrs, a.at_ ≤ 100000) (hs : Sp.stepB b m = .ok b') : BdB b' := by
  obtain ⟨h1, h2, h3⟩ := h
  unfold Sp.stepB at hs
  split at hs
  · obtain ⟨_, _, hl, _, rfl⟩ := startB_ok hs
    have hu := upOf_bd h2 (by omega)
    refine ⟨fun x hx => ?_, fun k hk => ?_, ?_⟩
    · rcases List.mem_append.1 hx with hx | hx
      · exact h1 x hx
      · rw [List.mem_singleton] at hx
        subst hx
        refine ⟨hu.1, hu.2, by simp, by simp only; omega, fun a ha => ?_⟩
        obtain ⟨c, hc, rfl⟩ := List.mem_map.1 ha
        have := hm2 c hc
        unfold Sp.At.ea
        simp only
        omega
    · simp only at hk ⊢
      rw [List.length_append, List.length_singleton]
      split at hk
      · have := h2 k hk; omega
      · rcases List.mem_append.1 hk with hk | hk
        · have := h2 k hk; omega
        · rw [List.mem_singleton] at hk; omega
    · simp only [List.length_append, List.length_singleton]; omega
  · split at hs
    · unfold Sp.endB at hs
      split at hs
      · cases hs
      · split at hs
        · injection hs with hs; subst hs
          exact ⟨h1, fun k hk => h2 k ((List.dropLast_sublist _).mem hk), h3⟩
        · cases hs
    · unfold Sp.textB at hs
      split at hs
      · injection hs with hs; subst hs
        refine ⟨fun x hx => ?_, fun k hk => by simp only [List.length_modify]; exact h2 k hk, by simp only [List.length_modify]; exact h3⟩
        simp only at hx
        obtain ⟨i, hi⟩ := List.getElem?_of_mem hx
        rw [List.getElem?_modify] at hi
        obtain ⟨y, hy, hyx⟩ := Option.map_eq_some_iff.1 hi
        have hyb := h1 y (List.mem_of_getElem? hy)
        split at hyx
        · rw [← hyx]; exact hyb
        · rw [← hyx]; exact hyb
      · split at hs
        · injection hs with hs; subst hs; exact ⟨h1, h2, h3⟩
        · cases hs
theorem run_bd : ∀ (ms : List Sp.Mk) (b b' : Sp.Bd), BdB b → (∀ m ∈ ms, m.at_ ≤ 100000 ∧ ∀ a ∈ m.attrs, a.at_ ≤ 100000) → Sp.runB b ms = .ok b' → BdB b' := by
  intro ms
  induction ms with
  | nil => intro b b' h _ hr; injection hr with hr; rw [← hr]; exact h
  | cons m t ih =>
    intro b b' h hm hr
    rw [Sp.runB] at hr
    cases hs : Sp.stepB b m with
    | error f => rw [hs] at hr; cases hr
    | ok b1 =>
      rw [hs] at hr
      obtain ⟨h1, h2⟩ := hm m (List.mem_cons_self ..)
      exact ih b1 b' (step_bd h h1 h2 hs) (fun x hx => hm x (List.mem_cons_of_mem _ hx)) hr
theorem parse_bd {s : List UInt8} {l : List Sp.EE} (h : Sp.parse s = .ok l) : ∀ x ∈ l, EeBd x := by
  obtain ⟨ms, b, hm, hb, rfl, hop, hne⟩ := parse_ok h
  obtain ⟨h1, _, h3⟩ := marks_bd _ _ hm
  refine (run_bd ms _ _ ⟨(fun x hx => by cases hx), (fun k hk => by cases hk), Nat.zero_le _⟩ (fun m hm => ?_) hb).1
  have := h1 m hm
  exact ⟨by have := this.1; omega, fun a ha => by have := this.2.2 a ha; omega⟩
end Go.Proofs.YtokdclmikllepaaGreatDoor
