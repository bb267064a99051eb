import Derived.Test.YtokdclmikllepaaGreatDoorKt33
import Derived.Test.YtokdclmikllepaaGreatDoorKt36
import Derived.Test.YtokdclmikllepaaGreatDoorKt41
import Derived.Test.YtokdclmikllepaaGreatDoorKt17
namespace Go.Proofs.YtokdclmikllepaaGreatDoor
open Go.RowKit
set_option linter.unusedVariables false
set_option linter.unusedSimpArgs false

theorem modify_sum (f : Sp.EE → Nat) (g : Sp.EE → Sp.EE) (c : Nat) (h : ∀ x, f (g x) ≤ f x + c) : ∀ (l : List Sp.EE) (i : Nat), ((l.modify i g).map f).sum ≤ (l.map f).sum + c
  | [], i => by simp
  | x :: t, 0 => by
    rw [List.modify_zero_cons, List.map_cons, List.sum_cons, List.map_cons, List.sum_cons]
    have := h x
    omega
  | x :: t, i + 1 => by
    rw [List.modify_succ_cons, List.map_cons, List.sum_cons, List.map_cons, List.sum_cons]
    have := modify_sum f g c h t i
    omega
theorem ea_wt (l : List Sp.At) : (l.map Sp.At.ea).map wtEA = l.map wtA := by rw [List.map_map]; rfl
theorem step_wt {b b' : Sp.Bd} {m : Sp.Mk} (h : Sp.stepB b m = .ok b') : (b'.1.map wtEE).sum ≤ (b.1.map wtEE).sum + wtM m := by
  have hm : wtM m = m.name.length + m.text.length + (m.attrs.map wtA).sum := rfl
  unfold Sp.stepB at h
  split at h
  · obtain ⟨_, _, _, _, rfl⟩ := startB_ok h
    rw [List.map_append, List.sum_append]
    have e : ([(⟨m.name, m.attrs.map Sp.At.ea, [], Sp.upOf b.2, m.at_⟩ : Sp.EE)].map wtEE).sum = m.name.length + ((m.attrs.map Sp.At.ea).map wtEA).sum := by simp [wtEE]
    rw [ea_wt] at e
    omega
  · split at h
    · unfold Sp.endB at h
      split at h
      · cases h
      · split at h
        · injection h with h; subst h; simp only; omega
        · cases h
    · unfold Sp.textB at h
      split at h
      · injection h with h; subst h
        have := modify_sum wtEE (Sp.EE.more m.text) m.text.length (fun x => by unfold wtEE Sp.EE.more; simp only [List.length_append]; omega) b.1
        refine Nat.le_trans (this _) ?_
        omega
      · split at h
        · injection h with h; subst h; omega
        · cases h
theorem run_wt : ∀ (ms : List Sp.Mk) (b b' : Sp.Bd), Sp.runB b ms = .ok b' → (b'.1.map wtEE).sum ≤ (b.1.map wtEE).sum + (ms.map wtM).sum := by
  intro ms
  induction ms with
  | nil => intro b b' h; injection h with h; subst h; simp
  | cons m t ih =>
    intro b b' h
    rw [Sp.runB] at h
    cases hs : Sp.stepB b m with
    | error f => rw [hs] at h; cases h
    | ok b1 =>
      rw [hs] at h
      have h1 := step_wt hs
      have h2 := ih b1 b' h
      rw [List.map_cons, List.sum_cons]
      omega
theorem marks_short {s : List UInt8} {ms : List Sp.Mk} (h : Sp.marks s = .ok ms) : s.length ≤ 65536 := by
  unfold Sp.marks at h
  split at h
  · cases h
  · omega
theorem parse_wt {s : List UInt8} {l : List Sp.EE} (h : Sp.parse s = .ok l) : s.length ≤ 65536 ∧ l.length ≤ 4096 ∧ (l.map wtEE).sum ≤ 65536 ∧ l ≠ [] := by
  obtain ⟨ms, b, hm, hb, rfl, hop, hne⟩ := parse_ok h
  have h1 := marks_short hm
  have h2 := marks_wt s ms hm
  have h3 := run_wt ms _ _ hb
  have hj := Jn.run ms ([], []) b ⟨fun x hx => (nomatch hx), Nat.zero_le _, .inl ⟨rfl, rfl⟩⟩ (marks_good s ms hm) hb
  simp only [List.map_nil, List.sum_nil] at h3
  exact ⟨h1, hj.len, by omega, hne⟩
theorem parse_wt1 {s : List UInt8} {l : List Sp.EE} (h : Sp.parse s = .ok l) : ∀ x ∈ l, wtEE x ≤ 100000 := by
  intro x hx
  have := sum_mem wtEE l x hx
  have := (parse_wt h).2.2.1
  omega
theorem flatMap_len {α : Type} (f : α → List UInt8) (c : Nat) (h : ∀ a, (f a).length ≤ c) : ∀ l : List α, (l.flatMap f).length ≤ l.length * c
  | [] => by simp
  | a :: t => by
    rw [List.flatMap_cons, List.length_append, List.length_cons, Nat.succ_mul]
    have := flatMap_len f c h t
    have := h a
    omega
theorem closes_wt {l : List Sp.EE} (hn : ∀ k, (Sp.nameAt l k).length ≤ 100000) (op : List Nat) : (Sp.closes l op).length ≤ op.length * 100003 := by
  unfold Sp.closes
  have := flatMap_len (fun k => Sp.closeT (Sp.nameAt l k)) 100003 (fun k => by
    have := hn k
    unfold Sp.closeT
    simp only [List.length_cons, List.length_append, List.length_nil]
    omega) op.reverse
  rw [List.length_reverse] at this
  exact this
theorem step_len {l : List Sp.EE} {i : Nat} {x : Sp.EE} {s s' : Sp.Wr} (hn : ∀ k, (Sp.nameAt l k).length ≤ 100000) (hx : wtEE x ≤ 100000) (hs : s.2.length ≤ 16) (h : Sp.stepW l i x s = some s') :
    s'.1.length ≤ s.1.length + 50000000 ∧ s'.2.length ≤ 16 := by
  have h1 := tag_len hx
  have h2 := body_len l i hx
  unfold Sp.stepW at h
  split at h
  · cases h
  · split at h
    · split at h
      · injection h with h; subst h
        simp only [List.length_append]
        omega
      · cases h
    · split at h
      · cases h
      · rename_i hc
        injection h with h; subst h
        have hop : (Sp.openAt i x s.2).length ≤ 17 := by
          unfold Sp.openAt
          split
          · simp; omega
          · omega
        have h3 := closes_wt hn ((Sp.openAt i x s.2).drop (Sp.toIx x.up (Sp.openAt i x s.2) (Sp.openAt i x s.2).length))
        have h4 : ((Sp.openAt i x s.2).drop (Sp.toIx x.up (Sp.openAt i x s.2) (Sp.openAt i x s.2).length)).length ≤ 17 := by rw [List.length_drop]; omega
        simp only [List.length_append, List.length_take]
        omega
theorem runW_len {l : List Sp.EE} (hn : ∀ k, (Sp.nameAt l k).length ≤ 100000) : ∀ (t : List Sp.EE) (i : Nat) (s s' : Sp.Wr), (∀ x ∈ t, wtEE x ≤ 100000) → s.2.length ≤ 16 → Sp.runW l i t s = some s' → s'.1.length ≤ s.1.length + t.length * 50000000 ∧ s'.2.length ≤ 16
  | [], i, s, s', _, hs, h => by
    injection h with h; subst h
    exact ⟨by simp, hs⟩
  | x :: t, i, s, s', hw, hs, h => by
    rw [Sp.runW] at h
    cases h1 : Sp.stepW l i x s with
    | none => rw [h1] at h; cases h
    | some s1 =>
      rw [h1] at h
      obtain ⟨h2, h3⟩ := step_len hn (hw x (List.mem_cons_self ..)) hs h1
      obtain ⟨h4, h5⟩ := runW_len hn t (i + 1) s1 s' (fun y hy => hw y (List.mem_cons_of_mem _ hy)) h3 h
      refine ⟨?_, h5⟩
      rw [List.length_cons, Nat.succ_mul]
      omega
theorem names_len {l : List Sp.EE} (hw : ∀ x ∈ l, wtEE x ≤ 100000) (k : Nat) : (Sp.nameAt l k).length ≤ 100000 := by
  cases hk : l[k]? with
  | none => unfold Sp.nameAt; rw [List.getD_eq_getElem?_getD, List.getElem?_map, hk]; simp
  | some x =>
    rw [nameAt_of hk]
    have := hw x (List.mem_of_getElem? hk)
    unfold wtEE at this
    omega
theorem write_len {l : List Sp.EE} {T : List UInt8} (hw : ∀ x ∈ l, wtEE x ≤ 100000) (h : Sp.write l = some T) : T.length ≤ 1000000000000 := by
  unfold Sp.write at h
  split at h
  · cases h
  · rename_i hc
    split at h
    · cases h
    · rename_i s hs
      injection h with h; subst h
      obtain ⟨h1, h2⟩ := runW_len (names_len hw) l 0 ([], []) s hw (by simp) hs
      have h3 := closes_wt (names_len hw) s.2
      simp only [List.length_append, List.length_nil] at h1 ⊢
      omega
theorem step_code0 {b : Sp.Bd} {m : Sp.Mk} {f : Sp.Flt} (h : Sp.stepB b m = .error f) : f.2 ≠ 0 := by
  unfold Sp.stepB at h
  split at h
  · unfold Sp.startB at h
    split at h
    · injection h with h; subst h; simp
    · split at h
      · injection h with h; subst h; simp
      · split at h
        · injection h with h; subst h; simp
        · split at h
          · injection h with h; subst h; simp
          · cases h
  · split at h
    · unfold Sp.endB at h
      split at h
      · injection h with h; subst h; simp
      · split at h
        · cases h
        · injection h with h; subst h; simp
    · unfold Sp.textB at h
      split at h
      · cases h
      · split at h
        · cases h
        · injection h with h; subst h; simp
theorem run_code0 : ∀ (ms : List Sp.Mk) (b : Sp.Bd) (f : Sp.Flt), Sp.runB b ms = .error f → f.2 ≠ 0 := by
  intro ms
  induction ms with
  | nil => intro b f h; cases h
  | cons m t ih =>
    intro b f h
    rw [Sp.runB] at h
    cases hs : Sp.stepB b m with
    | error f' => rw [hs] at h; injection h with h; subst h; exact step_code0 hs
    | ok b1 => rw [hs] at h; exact ih b1 f h
theorem parse_code0 {s : List UInt8} {f : Sp.Flt} (h : Sp.parse s = .error f) : f.2 ≠ 0 := by
  unfold Sp.parse at h
  split at h
  · rename_i f' hm
    injection h with h; subst h
    exact marks_code0 _ _ hm
  · split at h
    · rename_i f' hr
      injection h with h; subst h
      exact run_code0 _ _ _ hr
    · unfold Sp.endOf at h
      split at h
      · injection h with h; subst h; simp
      · split at h
        · injection h with h; subst h; simp
        · cases h
def SmE (b : Bool) (x y : Sp.EE) : Prop := x.name = y.name ∧ x.text = y.text ∧ x.up = y.up ∧ (b = true → x.at_ = y.at_) ∧ x.attrs.length = y.attrs.length ∧
  ∀ (k : Nat) (a c : Sp.EA), x.attrs[k]? = some a → y.attrs[k]? = some c → a.name = c.name ∧ a.value = c.value ∧ (b = true → a.at_ = c.at_)
theorem SmE.refl (b : Bool) (x : Sp.EE) : SmE b x x := ⟨rfl, rfl, rfl, fun _ => rfl, rfl, fun k a c h1 h2 => by rw [h1] at h2; injection h2 with h2; subst h2; exact ⟨rfl, rfl, fun _ => rfl⟩⟩
theorem SmE.of {x y : Sp.EE} (h : stE x = stE y) : SmE false x y := by
  unfold stE at h
  injection h with h1 h2 h3 h4 h5
  refine ⟨h1, h3, h4, (fun h => by cases h), ?_, fun k a c ha hc => ?_⟩
  · have := congrArg List.length h2
    simpa using this
  · have := congrArg (fun l => l[k]?) h2
    simp only [List.getElem?_map, ha, hc, Option.map_some, Option.some.injEq] at this
    unfold stA at this
    injection this with h6 h7
    exact ⟨h6, h7, (fun h => by cases h)⟩
theorem SamL.sm {l m : List Sp.EE} (h : SamL l m) : l.length = m.length ∧ ∀ (i : Nat) (x y : Sp.EE), l[i]? = some x → m[i]? = some y → SmE false x y := by
  refine ⟨by have := congrArg List.length h; simpa using this, fun i x y hx hy => ?_⟩
  have := congrArg (fun l => l[i]?) h
  simp only [List.getElem?_map, hx, hy, Option.map_some, Option.some.injEq] at this
  exact SmE.of this
theorem SmE.all {l : List Sp.EE} (b : Bool) : ∀ (i : Nat) (x y : Sp.EE), l[i]? = some x → l[i]? = some y → SmE b x y := fun i x y hx hy => by
  rw [hx] at hy; injection hy with hy; subst hy; exact SmE.refl b x
end Go.Proofs.YtokdclmikllepaaGreatDoor
