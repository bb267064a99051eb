import Derived.Test.YtokdclmikllepaaGreatDoorKt34
import Derived.Test.YtokdclmikllepaaGreatDoorKt17
namespace Go.Proofs.YtokdclmikllepaaGreatDoor
open Go.RowKit Go.Maps
set_option linter.unusedVariables false
set_option linter.unusedSimpArgs false

structure Bnd (b : Sp.Bd) (rest : List Sp.Mk) : Prop where
  els : b.1.length ≤ 4096
  opn : b.2.length ≤ 16
  lt : ∀ k ∈ b.2, k < b.1.length
  txt : ∀ x ∈ b.1, x.text.length + (rest.map wtM).sum ≤ 65536
  pos : ∀ x ∈ b.1, 0 ≤ x.at_
  wt : (rest.map wtM).sum ≤ 65536
theorem Bnd.ne {b : Sp.Bd} {rest : List Sp.Mk} (h : Bnd b rest) : b.2 ≠ [] → b.1 ≠ [] := by
  intro h1 h2
  cases hb : b.2 with
  | nil => exact h1 hb
  | cons k t =>
    have := h.lt k (by rw [hb]; exact List.mem_cons_self ..)
    rw [h2] at this
    exact absurd this (by simp)
theorem Bnd.tail {b : Sp.Bd} {m : Sp.Mk} {t : List Sp.Mk} (h : Bnd b (m :: t)) : Bnd b t := by
  have e : ((m :: t).map wtM).sum = wtM m + (t.map wtM).sum := by rw [List.map_cons, List.sum_cons]
  exact ⟨h.els, h.opn, h.lt, fun x hx => by have := h.txt x hx; omega, h.pos, by have := h.wt; omega⟩
theorem mem_modify_is {E : List Sp.EE} {i : Nat} {f : Sp.EE → Sp.EE} {x : Sp.EE} (h : x ∈ E.modify i f) : ∃ y ∈ E, x = y ∨ x = f y := by
  obtain ⟨k, hk⟩ := List.mem_iff_getElem?.1 h
  rw [List.getElem?_modify] at hk
  cases he : E[k]? with
  | none => rw [he] at hk; cases hk
  | some y =>
    rw [he] at hk
    injection hk with hk
    refine ⟨y, List.mem_of_getElem? he, ?_⟩
    split at hk
    · exact .inr hk.symm
    · exact .inl hk.symm
theorem Bnd.step {b b' : Sp.Bd} {m : Sp.Mk} {t : List Sp.Mk} (h : Bnd b (m :: t)) (hs : Sp.stepB b m = .ok b') : Bnd b' t := by
  have e : ((m :: t).map wtM).sum = wtM m + (t.map wtM).sum := by rw [List.map_cons, List.sum_cons]
  have ht := h.tail
  unfold Sp.stepB at hs
  split at hs
  · obtain ⟨h1, h2, h3, h4, rfl⟩ := startB_ok hs
    refine ⟨by simp; omega, ?_, ?_, ?_, ?_, ht.wt⟩
    · simp only; split
      · omega
      · simp; omega
    · intro k hk
      simp only [List.length_append, List.length_singleton]
      simp only at hk
      split at hk
      · have := h.lt k hk; omega
      · rcases List.mem_append.1 hk with hk | hk
        · have := h.lt k hk; omega
        · rw [List.mem_singleton.1 hk]; omega
    · intro x hx
      rcases List.mem_append.1 hx with hx | hx
      · exact ht.txt x hx
      · rw [List.mem_singleton.1 hx]; simpa using ht.wt
    · intro x hx
      rcases List.mem_append.1 hx with hx | hx
      · exact h.pos x hx
      · rw [List.mem_singleton.1 hx]; exact Int.natCast_nonneg _
  · split at hs
    · unfold Sp.endB at hs
      split at hs
      · cases hs
      · split at hs
        · injection hs with hs
          subst hs
          refine ⟨h.els, ?_, fun k hk => h.lt k (List.dropLast_subset _ hk), ht.txt, h.pos, ht.wt⟩
          have := h.opn
          simp only [List.length_dropLast]; omega
        · cases hs
    · unfold Sp.textB at hs
      split at hs
      · injection hs with hs
        subst hs
        refine ⟨by simp only [List.length_modify]; exact h.els, h.opn, fun k hk => by simp only [List.length_modify]; exact h.lt k hk, ?_, ?_, ht.wt⟩
        · intro x hx
          obtain ⟨y, hy, rfl | rfl⟩ := mem_modify_is hx
          · exact ht.txt x hy
          · have := h.txt y hy
            have h5 : m.text.length ≤ wtM m := by unfold wtM; omega
            show (y.text ++ m.text).length + _ ≤ _
            rw [List.length_append]; omega
        · intro x hx
          obtain ⟨y, hy, rfl | rfl⟩ := mem_modify_is hx
          · exact h.pos x hy
          · exact h.pos y hy
      · split at hs
        · injection hs with hs
          subst hs
          exact ht
        · cases hs
theorem stepB_code {b : Sp.Bd} {m : Sp.Mk} {f : Sp.Flt} (h : Sp.stepB b m = .error f) : f.2 ≠ 0 := by
  unfold Sp.stepB at h
  split at h
  · unfold Sp.startB at h
    split at h
    · injection h with h; subst h; simp
    · split at h
      · injection h with h; subst h; simp
      · split at h
        · injection h with h; subst h; simp
        · split at h
          · injection h with h; subst h; simp
          · cases h
  · split at h
    · unfold Sp.endB at h
      split at h
      · injection h with h; subst h; simp
      · split at h
        · cases h
        · injection h with h; subst h; simp
    · unfold Sp.textB at h
      split at h
      · cases h
      · split at h
        · cases h
        · injection h with h; subst h; simp

theorem step1_calls (B0 : Nat) (W1 : World) (g : Nat) (b : Sp.Bd) (m : Sp.Mk) (t : List Sp.Mk) (av : Value) (w : World) (hb : BdAt B0 W1 g b w) (hd : Bnd b (m :: t)) (hk : m.kind = 1) (hav : EasAt B0 W1 av (m.attrs.map Sp.At.ea)) :
    Calls Tryz.prog 70 #[.pointer (some ⟨g, 0, none⟩), mkV m av] w (StepEnd B0 W1 g (Sp.stepB b m)) := by
  have e : Sp.stepB b m = Sp.startB b m := by unfold Sp.stepB; rw [if_pos hk]
  rw [e]
  have hw : wtM m ≤ 65536 := by
    have := hd.wt
    rw [List.map_cons, List.sum_cons] at this
    omega
  unfold wtM at hw
  have hws : ∀ l : List Sp.At, l.length ≤ (l.map wtA).sum ∧ ∀ a ∈ l, a.name.length ≤ (l.map wtA).sum := by
    intro l
    induction l with
    | nil => exact ⟨Nat.zero_le _, fun a ha => nomatch ha⟩
    | cons a l ih =>
      rw [List.map_cons, List.sum_cons, List.length_cons]
      have g1 : 1 ≤ wtA a ∧ a.name.length ≤ wtA a := by unfold wtA; omega
      refine ⟨by have := ih.1; omega, fun x hx => ?_⟩
      rcases List.mem_cons.1 hx with rfl | hx
      · omega
      · have := ih.2 x hx; omega
  have hm : m.attrs.length ≤ 100000 := by have := (hws m.attrs).1; omega
  have hn : ∀ a ∈ m.attrs, a.name.length ≤ 100000 := fun a ha => by have := (hws m.attrs).2 a ha; omega
  cases hf : Sp.startB b m with
  | error f => exact start_err B0 W1 g b m av w hb hd.els hd.opn hd.ne hav hm hn f hf
  | ok b' => exact start_ok B0 W1 g b m av w hb hd.opn hd.ne hav hm hn b' hf
theorem step2_calls (B0 : Nat) (W1 : World) (g : Nat) (b : Sp.Bd) (m : Sp.Mk) (t : List Sp.Mk) (av : Value) (w : World) (hb : BdAt B0 W1 g b w) (hd : Bnd b (m :: t)) (hk : m.kind = 2) (hav : EasAt B0 W1 av (m.attrs.map Sp.At.ea)) :
    Calls Tryz.prog 71 #[.pointer (some ⟨g, 0, none⟩), mkV m av] w (StepEnd B0 W1 g (Sp.stepB b m)) := by
  have e : Sp.stepB b m = Sp.endB b m := by unfold Sp.stepB; rw [if_neg (by omega), if_pos hk]
  rw [e]
  obtain ⟨a, c, rfl⟩ := own_len hav
  exact end_calls B0 W1 g b m _ w hb hd.els hd.opn hd.lt ⟨_, _, _, rfl⟩
theorem step3_calls (B0 : Nat) (W1 : World) (g : Nat) (b : Sp.Bd) (m : Sp.Mk) (t : List Sp.Mk) (av : Value) (w : World) (hb : BdAt B0 W1 g b w) (hd : Bnd b (m :: t)) (h1 : m.kind ≠ 1) (h2 : m.kind ≠ 2) (hav : EasAt B0 W1 av (m.attrs.map Sp.At.ea)) :
    Calls Tryz.prog 72 #[.pointer (some ⟨g, 0, none⟩), mkV m av] w (StepEnd B0 W1 g (Sp.stepB b m)) := by
  have e : Sp.stepB b m = Sp.textB b m := by unfold Sp.stepB; rw [if_neg h1, if_neg h2]
  rw [e]
  obtain ⟨a, c, rfl⟩ := own_len hav
  refine btext_calls B0 W1 g b m _ w hb hd.els hd.opn hd.lt ⟨_, _, _, rfl⟩ ?_ (fun x hx => by have := hd.txt x hx; omega)
  have := hd.wt
  rw [List.map_cons, List.sum_cons] at this
  unfold wtM at this
  omega
end Go.Proofs.YtokdclmikllepaaGreatDoor
