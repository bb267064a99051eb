import Derived.Test.YtokdclmikllepaaGreatDoorKt41
namespace Go.Proofs.YtokdclmikllepaaGreatDoor
set_option linter.unusedVariables false
set_option linter.unusedSimpArgs false

def hdI : List Nat → Int
  | [] => -1
  | k :: _ => (k : Int)
/-- Elements one around the other, the innermost one first. -/
def RC (l : List Sp.EE) : List Nat → Prop
  | [] => True
  | k :: t => (l[k]?.map Sp.EE.up) = some (hdI t) ∧ RC l t
theorem RC.drop {l : List Sp.EE} : ∀ (c : List Nat) (n : Nat), RC l c → RC l (c.drop n)
  | c, 0, h => by rw [List.drop_zero]; exact h
  | [], n + 1, h => by rw [List.drop_nil]; exact h
  | k :: t, n + 1, h => by rw [List.drop_succ_cons]; exact RC.drop t n h.2
theorem okStep_bad {i : Nat} {x : Sp.EE} {op : List Nat} (h : Sp.may x = false) : okStep i x op = none := by
  unfold okStep
  rw [if_pos h]
theorem okStep_zero {x : Sp.EE} {op : List Nat} (h : Sp.may x = true) : okStep 0 x op = if x.up = -1 then some op else none := by
  unfold okStep
  rw [if_neg (by rw [h]; simp), if_pos rfl]
theorem toIx_zero {u : Int} {op : List Nat} (h : ∀ k ∈ op, (k : Int) ≠ u) : ∀ t, t ≤ op.length → Sp.toIx u op t = 0
  | 0, _ => rfl
  | t + 1, ht => by
    rw [Sp.toIx, if_neg, toIx_zero h t (by omega)]
    rw [List.getD_eq_getElem?_getD, List.getElem?_eq_getElem (by omega), Option.getD_some]
    exact h _ (List.getElem_mem _)
theorem toIx_uniq {u : Int} {op : List Nat} {j k : Nat} (hj : op[j]? = some k) (hk : (k : Int) = u) (hu : ∀ j' k' : Nat, op[j']? = some k' → (k' : Int) = u → j' = j) : ∀ t, j < t → t ≤ op.length → Sp.toIx u op t = j + 1
  | 0, h, _ => absurd h (Nat.not_lt_zero _)
  | t + 1, h, ht => by
    rw [Sp.toIx]
    by_cases he : t = j
    · subst he
      rw [if_pos]
      rw [List.getD_eq_getElem?_getD, hj]
      exact hk
    · rw [if_neg, toIx_uniq hj hk hu t (by omega) (by omega)]
      rw [List.getD_eq_getElem?_getD, List.getElem?_eq_getElem (by omega), Option.getD_some]
      intro hc
      exact he (hu t _ (List.getElem?_eq_getElem (by omega)) hc)
theorem pw_uniq {c : List Nat} (hp : c.Pairwise (· < ·)) {j j' k k' : Nat} (h : c[j]? = some k) (h' : c[j']? = some k') (he : k = k') : j' = j := by
  obtain ⟨a, ha⟩ := List.getElem?_eq_some_iff.1 h
  obtain ⟨b, hb⟩ := List.getElem?_eq_some_iff.1 h'
  have := List.pairwise_iff_getElem.1 hp
  rcases Nat.lt_trichotomy j j' with h1 | h1 | h1
  · have := this j j' a b h1; omega
  · exact h1.symm
  · have := this j' j b a h1; omega
theorem okStep_at {i : Nat} {x : Sp.EE} {op : List Nat} {j k : Nat} (hi : 0 < i) (hm : Sp.may x = true) (hp : (op ++ [i - 1]).Pairwise (· < ·)) (hj : (op ++ [i - 1])[j]? = some k) (hk : (k : Int) = x.up) :
    okStep i x op = if 15 ≤ j then none else some ((op ++ [i - 1]).take (j + 1)) := by
  have hlast : (op ++ [i - 1])[op.length]? = some (i - 1) := by rw [List.getElem?_append_right (Nat.le_refl _)]; simp
  have main : Sp.toIx x.up (Sp.openAt i x op) (Sp.openAt i x op).length = j + 1 ∧ (Sp.openAt i x op).take (j + 1) = (op ++ [i - 1]).take (j + 1) := by
    unfold Sp.openAt
    by_cases hu : x.up = (i : Int) - 1
    · rw [if_pos hu]
      refine ⟨toIx_uniq hj hk (fun j' k' h1 h2 => pw_uniq hp hj h1 (by omega)) _ ?_ (Nat.le_refl _), rfl⟩
      exact (List.getElem?_eq_some_iff.1 hj).1
    · rw [if_neg hu]
      have hjl : j < op.length := by
        have h1 := (List.getElem?_eq_some_iff.1 hj).1
        rw [List.length_append, List.length_singleton] at h1
        rcases Nat.lt_or_ge j op.length with h | h
        · exact h
        · have : j = op.length := by omega
          subst this
          rw [hlast] at hj
          injection hj with hj
          omega
      have hj2 : op[j]? = some k := by rw [← hj, List.getElem?_append_left hjl]
      refine ⟨toIx_uniq hj2 hk (fun j' k' h1 h2 => ?_) _ hjl (Nat.le_refl _), ?_⟩
      · have hb := (List.getElem?_eq_some_iff.1 h1).1
        exact pw_uniq hp hj (by rw [List.getElem?_append_left hb]; exact h1) (by omega)
      · rw [List.take_append_of_le_length (by omega)]
  unfold okStep
  rw [if_neg (by rw [hm]; simp), if_neg (by omega), main.1, main.2]
  by_cases h15 : 15 ≤ j
  · rw [if_pos (.inr (by omega)), if_pos h15]
  · rw [if_neg (by omega), if_neg h15]
theorem okStep_not {i : Nat} {x : Sp.EE} {op : List Nat} (hi : 0 < i) (h : ∀ k ∈ op ++ [i - 1], (k : Int) ≠ x.up) : okStep i x op = none := by
  unfold okStep
  by_cases hm : Sp.may x = false
  · rw [if_pos hm]
  · rw [if_neg hm, if_neg (by omega), if_pos]
    left
    have h1 := h (i - 1) (by simp)
    unfold Sp.openAt
    rw [if_neg (by omega)]
    exact toIx_zero (fun k hk => h k (by simp [hk])) _ (Nat.le_refl _)
theorem okRun_app : ∀ (a b : List Sp.EE) (i : Nat) (op : List Nat), okRun i (a ++ b) op = (okRun i a op).bind (okRun (i + a.length) b)
  | [], b, i, op => by simp [okRun]
  | x :: a, b, i, op => by
    rw [List.cons_append, okRun, okRun]
    cases okStep i x op with
    | none => rfl
    | some op' =>
      simp only
      rw [okRun_app a b (i + 1) op', List.length_cons, Nat.add_assoc, Nat.add_comm 1]
theorem write_isSome {l : List Sp.EE} (h1 : l ≠ []) (h2 : l.length ≤ 4096) : (Sp.write l).isSome = (okRun 0 l []).isSome := by
  rw [write_rest l h1 h2]
  exact rest_ok l l 0 []
theorem take_snoc {l : List Sp.EE} {i : Nat} {x : Sp.EE} (hx : l[i]? = some x) : l.take (i + 1) = l.take i ++ [x] := by
  rw [List.take_add_one, hx]; rfl
theorem okRun_next {l : List Sp.EE} {i : Nat} {x : Sp.EE} (hx : l[i]? = some x) {op op' : List Nat} (h : okRun 0 (l.take i) [] = some op) (hs : okStep i x op = some op') : okRun 0 (l.take (i + 1)) [] = some op' := by
  have hi := (List.getElem?_eq_some_iff.1 hx).1
  rw [take_snoc hx, okRun_app, h, Option.bind_some, List.length_take, Nat.zero_add, Nat.min_eq_left (by omega), okRun, hs]
  rfl
theorem okRun_fails {l : List Sp.EE} {i : Nat} {x : Sp.EE} (hx : l[i]? = some x) {op : List Nat} (h : okRun 0 (l.take i) [] = some op) (hs : okStep i x op = none) : okRun 0 l [] = none := by
  have hi := (List.getElem?_eq_some_iff.1 hx).1
  have e : l = l.take i ++ x :: l.drop (i + 1) := by
    obtain ⟨h1, h2⟩ := List.getElem?_eq_some_iff.1 hx
    rw [← h2, ← List.drop_eq_getElem_cons hi, List.take_append_drop]
  rw [e, okRun_app, h, Option.bind_some, List.length_take, Nat.zero_add, Nat.min_eq_left (by omega), okRun, hs]
/-- What holds ahead of the element i of a list that can be written up to there. -/
structure Ok (l : List Sp.EE) (i : Nat) (op : List Nat) : Prop where
  run : okRun 0 (l.take i) [] = some op
  none : i = 0 → op = []
  pw : 0 < i → (op ++ [i - 1]).Pairwise (· < ·)
  rc : 0 < i → RC l (op ++ [i - 1]).reverse
  len : op.length ≤ 15
theorem Ok.start (l : List Sp.EE) : Ok l 0 [] := ⟨rfl, fun _ => rfl, fun h => absurd h (Nat.lt_irrefl _), fun h => absurd h (Nat.lt_irrefl _), by simp⟩
theorem rc_take {l : List Sp.EE} {c : List Nat} (h : RC l c.reverse) (j : Nat) : RC l (c.take j).reverse := by
  have : (c.take j).reverse = c.reverse.drop (c.length - j) := by rw [List.reverse_take]
  rw [this]
  exact h.drop _ _
theorem take_last {c : List Nat} {j k : Nat} (h : c[j]? = some k) : (c.take (j + 1)).reverse = k :: (c.take j).reverse := by
  rw [List.take_add_one, h]; simp
/-- The element goes on: what stands around it, the innermost one first. -/
theorem Ok.next0 {l : List Sp.EE} {x : Sp.EE} {op : List Nat} (h : Ok l 0 op) (hx : l[0]? = some x) (hm : Sp.may x = true) (hu : x.up = -1) : Ok l 1 [] ∧ RC l [0] := by
  have := h.none rfl
  subst this
  have hs : okStep 0 x [] = some [] := by rw [okStep_zero hm, if_pos hu]
  have hr : RC l [0] := ⟨by rw [hx]; simp [hdI, hu], trivial⟩
  exact ⟨⟨okRun_next hx h.run hs, fun h => by omega, fun _ => by simp, fun _ => hr, by simp⟩, hr⟩
theorem Ok.rcAt {l : List Sp.EE} {i : Nat} {x : Sp.EE} {op : List Nat} (h : Ok l i op) (hi : 0 < i) (hx : l[i]? = some x) {j k : Nat} (hj : (op ++ [i - 1])[j]? = some k) (hk : (k : Int) = x.up) :
    RC l (i :: ((op ++ [i - 1]).take (j + 1)).reverse) := by
  refine ⟨?_, rc_take (h.rc hi) _⟩
  rw [take_last hj, hx]
  simp [hdI, hk]
theorem Ok.next {l : List Sp.EE} {i : Nat} {x : Sp.EE} {op : List Nat} (h : Ok l i op) (hi : 0 < i) (hx : l[i]? = some x) (hm : Sp.may x = true) {j k : Nat} (hj : (op ++ [i - 1])[j]? = some k) (hk : (k : Int) = x.up) (h15 : j < 15) :
    Ok l (i + 1) ((op ++ [i - 1]).take (j + 1)) := by
  have hs := okStep_at hi hm (h.pw hi) hj hk
  rw [if_neg (by omega)] at hs
  refine ⟨okRun_next hx h.run hs, fun h => by omega, fun _ => ?_, fun _ => ?_, ?_⟩
  · rw [Nat.add_sub_cancel]
    refine List.pairwise_append.2 ⟨(h.pw hi).sublist (List.take_sublist _ _), by simp, fun a ha b hb => ?_⟩
    rw [List.mem_singleton] at hb
    have ha2 := List.mem_of_mem_take ha
    rcases List.mem_append.1 ha2 with h1 | h1
    · have := (List.pairwise_append.1 (h.pw hi)).2.2 a h1 (i - 1) (by simp)
      omega
    · rw [List.mem_singleton] at h1; omega
  · rw [Nat.add_sub_cancel, List.reverse_append, List.reverse_singleton, List.singleton_append]
    exact h.rcAt hi hx hj hk
  · rw [List.length_take]; omega
end Go.Proofs.YtokdclmikllepaaGreatDoor
namespace Go.Proofs.YtokdclmikllepaaGreatDoor
set_option linter.unusedVariables false
set_option linter.unusedSimpArgs false

def opAt (l : List Sp.EE) (i : Nat) : List Nat := (okRun 0 (l.take i) []).getD []
/-- What stands around the element i, the outermost one first. -/
def anc (l : List Sp.EE) (i : Nat) : List Nat := opAt l (i + 1)
theorem ok_all {l : List Sp.EE} (h : (okRun 0 l []).isSome = true) : ∀ i, i ≤ l.length → Ok l i (opAt l i) ∧ ∀ x, l[i]? = some x → Sp.may x = true ∧ ((i = 0 ∧ x.up = -1 ∧ anc l 0 = []) ∨ (0 < i ∧ ∃ j k : Nat, (anc l (i - 1) ++ [i - 1])[j]? = some k ∧ (k : Int) = x.up ∧ j < 15 ∧ anc l i = (anc l (i - 1) ++ [i - 1]).take (j + 1))) := by
  intro i
  have step : ∀ i, Ok l i (opAt l i) → ∀ x, l[i]? = some x → Sp.may x = true ∧ ((i = 0 ∧ x.up = -1 ∧ anc l 0 = [] ∧ Ok l 1 (opAt l 1)) ∨ (0 < i ∧ ∃ j k : Nat, (anc l (i - 1) ++ [i - 1])[j]? = some k ∧ (k : Int) = x.up ∧ j < 15 ∧ anc l i = (anc l (i - 1) ++ [i - 1]).take (j + 1) ∧ Ok l (i + 1) (opAt l (i + 1)))) := by
    intro i hok x hx
    have hne : okStep i x (opAt l i) ≠ none := fun hn => by
      rw [okRun_fails hx hok.run hn] at h; cases h
    have hm : Sp.may x = true := by
      cases hm : Sp.may x with
      | true => rfl
      | false => exact absurd (okStep_bad hm) hne
    refine ⟨hm, ?_⟩
    by_cases h0 : i = 0
    · subst h0
      have hu : x.up = -1 := by
        rcases Classical.em (x.up = -1) with hu | hu
        · exact hu
        · rw [okStep_zero hm, if_neg hu] at hne; exact absurd rfl hne
      have h1 := hok.next0 hx hm hu
      have he : opAt l 1 = [] := by unfold opAt; rw [h1.1.run]; rfl
      exact .inl ⟨rfl, hu, he, by rw [he]; exact h1.1⟩
    · have hi : 0 < i := by omega
      have ha : anc l (i - 1) = opAt l i := by unfold anc; rw [Nat.sub_add_cancel hi]
      rw [ha]
      rcases Classical.em (∃ k ∈ opAt l i ++ [i - 1], (k : Int) = x.up) with ⟨k, hk, hku⟩ | hno
      · obtain ⟨j, hj⟩ := List.getElem?_of_mem hk
        have h15 : j < 15 := by
          rcases Nat.lt_or_ge j 15 with h | h
          · exact h
          · rw [okStep_at hi hm (hok.pw hi) hj hku, if_pos h] at hne; exact absurd rfl hne
        have h1 := hok.next hi hx hm hj hku h15
        have he : opAt l (i + 1) = (opAt l i ++ [i - 1]).take (j + 1) := by
          unfold opAt; rw [h1.run]; rfl
        exact .inr ⟨hi, j, k, hj, hku, h15, he, by rw [he]; exact h1⟩
      · exact absurd (okStep_not hi (fun k hk hku => hno ⟨k, hk, hku⟩)) hne
  have hok : ∀ i, i ≤ l.length → Ok l i (opAt l i) := by
    intro i
    induction i with
    | zero => intro _; exact Ok.start l
    | succ i ih =>
      intro hi
      have hx : l[i]? = some (l[i]'(by omega)) := List.getElem?_eq_getElem (by omega)
      rcases (step i (ih (by omega)) _ hx).2 with ⟨h0, _, _, h1⟩ | ⟨_, _, _, _, _, _, _, h1⟩
      · subst h0; exact h1
      · exact h1
  intro hi
  refine ⟨hok i hi, fun x hx => ?_⟩
  obtain ⟨hm, hc⟩ := step i (hok i hi) x hx
  refine ⟨hm, ?_⟩
  rcases hc with ⟨h0, hu, ha, _⟩ | ⟨h0, j, k, h1, h2, h3, h4, _⟩
  · exact .inl ⟨h0, hu, ha⟩
  · exact .inr ⟨h0, j, k, h1, h2, h3, h4⟩
/-- A list that can be written. -/
structure Va (l : List Sp.EE) : Prop where
  pw : ∀ i, i < l.length → (anc l i ++ [i]).Pairwise (· < ·)
  rc : ∀ i, i < l.length → RC l (i :: (anc l i).reverse)
  hd : anc l 0 = []
  up : ∀ i x, l[i]? = some x → 0 < i → ∃ j k : Nat, (anc l (i - 1) ++ [i - 1])[j]? = some k ∧ (k : Int) = x.up ∧ anc l i = (anc l (i - 1) ++ [i - 1]).take (j + 1)
theorem Va.of {l : List Sp.EE} (h : (okRun 0 l []).isSome = true) (h0 : l ≠ []) : Va l := by
  have hl : 0 < l.length := List.length_pos_iff.2 h0
  refine ⟨fun i hi => ?_, fun i hi => ?_, ?_, fun i x hx hi => ?_⟩
  · have := ((ok_all h (i + 1) (by omega)).1).pw (by omega)
    rwa [Nat.add_sub_cancel] at this
  · have := ((ok_all h (i + 1) (by omega)).1).rc (by omega)
    rw [Nat.add_sub_cancel, List.reverse_append, List.reverse_singleton, List.singleton_append] at this
    exact this
  · rcases ((ok_all h 0 (by omega)).2 _ (List.getElem?_eq_getElem hl)).2 with ⟨_, _, h1⟩ | ⟨h1, _⟩
    · exact h1
    · omega
  · rcases ((ok_all h i (by have := (List.getElem?_eq_some_iff.1 hx).1; omega)).2 _ hx).2 with ⟨h1, _⟩ | ⟨_, j, k, h1, h2, _, h3⟩
    · omega
    · exact ⟨j, k, h1, h2, h3⟩
theorem pre_take {c a suf : List Nat} {i j : Nat} (hc : c = a ++ i :: suf) (hp : c.Pairwise (· < ·)) (hi : i ∈ c.take (j + 1)) : ∃ suf', c.take (j + 1) = a ++ i :: suf' := by
  have hj : a.length < j + 1 := by
    rcases Nat.lt_or_ge a.length (j + 1) with h | h
    · exact h
    · exfalso
      have h1 : i ∈ a := by
        rw [hc, List.take_append_of_le_length h] at hi
        exact List.mem_of_mem_take hi
      rw [hc] at hp
      have := (List.pairwise_append.1 hp).2.2 i h1 i (List.mem_cons_self ..)
      omega
  refine ⟨suf.take (j - a.length), ?_⟩
  rw [hc, List.take_append, List.take_of_length_le (by omega), show j + 1 - a.length = (j - a.length) + 1 by omega, List.take_succ_cons]
/-- What stands around what stands within i. -/
theorem Va.pre {l : List Sp.EE} (v : Va l) : ∀ k, k < l.length → ∀ i, i ∈ anc l k → ∃ suf, anc l k = anc l i ++ i :: suf := by
  intro k
  induction k with
  | zero => intro _ i hi; rw [v.hd] at hi; cases hi
  | succ k ih =>
    intro hk i hi
    obtain ⟨j, b, h1, h2, h3⟩ := v.up (k + 1) _ (List.getElem?_eq_getElem hk) (by omega)
    rw [Nat.add_sub_cancel] at h1 h3
    have hp := v.pw k (by omega)
    rw [h3] at hi ⊢
    have hm := List.mem_of_mem_take hi
    rcases List.mem_append.1 hm with h | h
    · obtain ⟨suf, hs⟩ := ih (by omega) i h
      exact pre_take (suf := suf ++ [k]) (by rw [hs]; simp) hp hi
    · rw [List.mem_singleton] at h
      subst h
      exact pre_take (suf := []) rfl hp hi
/-- Where the elements within i are over. -/
def IsEnd (l : List Sp.EE) (i e : Nat) : Prop := i < e ∧ e ≤ l.length ∧ (∀ k, i < k → k < e → i ∈ anc l k) ∧ (e < l.length → i ∉ anc l e)
theorem IsEnd.uniq {l : List Sp.EE} {i e e' : Nat} (h : IsEnd l i e) (h' : IsEnd l i e') : e = e' := by
  rcases Nat.lt_trichotomy e e' with h1 | h1 | h1
  · exact absurd (h'.2.2.1 e h.1 h1) (h.2.2.2 (by have := h'.2.1; omega))
  · exact h1
  · exact absurd (h.2.2.1 e' h'.1 h1) (h'.2.2.2 (by have := h.2.1; omega))
theorem Va.inner {l : List Sp.EE} (v : Va l) {i : Nat} : Sp.inner l i = true ↔ i + 1 < l.length ∧ i ∈ anc l (i + 1) := by
  unfold Sp.inner
  rw [decide_eq_true_eq]
  constructor
  · intro h
    cases hx : l[i + 1]? with
    | none => rw [hx] at h; cases h
    | some x =>
      rw [hx] at h
      injection h with h
      have hl := (List.getElem?_eq_some_iff.1 hx).1
      obtain ⟨j, b, h1, h2, h3⟩ := v.up (i + 1) x hx (by omega)
      rw [Nat.add_sub_cancel] at h1 h3
      have : b = i := by omega
      subst this
      refine ⟨hl, ?_⟩
      rw [h3]
      refine List.mem_take_iff_getElem.2 ?_
      obtain ⟨hj, hjb⟩ := List.getElem?_eq_some_iff.1 h1
      exact ⟨j, by omega, hjb⟩
  · rintro ⟨hl, hm⟩
    have hx := List.getElem?_eq_getElem hl
    obtain ⟨j, b, h1, h2, h3⟩ := v.up (i + 1) _ hx (by omega)
    rw [Nat.add_sub_cancel] at h1 h3
    rw [h3] at hm
    rw [hx]
    have hp := v.pw i (by omega)
    obtain ⟨suf', hs⟩ := pre_take (c := anc l i ++ [i]) (suf := []) rfl hp hm
    have hj : (anc l i).length ≤ j := by
      have := congrArg List.length hs
      rw [List.length_take, List.length_append, List.length_append, List.length_singleton, List.length_cons] at this
      omega
    have hj2 := (List.getElem?_eq_some_iff.1 h1).1
    rw [List.length_append, List.length_singleton] at hj2
    have hje : j = (anc l i).length := by omega
    subst hje
    rw [List.getElem?_append_right (Nat.le_refl _)] at h1
    simp only [Nat.sub_self, List.getElem?_cons_zero, Option.some.injEq] at h1
    subst h1
    show some _ = some _
    rw [h2]

def Rst (l : List Sp.EE) : Nat → List Sp.EE → List Nat → List UInt8
  | _, [], b => Sp.closes l b
  | i, x :: t, b => Sp.closes l (b.drop (Sp.toIx x.up b b.length)) ++ (Sp.tag x ++ Sp.body l i x) ++ Rst l (i + 1) t (b.take (Sp.toIx x.up b b.length) ++ if Sp.inner l i = true then [i] else [])
theorem bop_next {l : List Sp.EE} {i : Nat} {t : List Sp.EE} {base : List Nat} (hd' : l.drop (i + 1) = t) : (base ++ if Sp.inner l i = true then [i] else []) = bopOf (i + 1) t base := by
  unfold bopOf
  rw [if_neg (show ¬ (i + 1 = 0) by omega)]
  cases t with
  | nil =>
    have : Sp.inner l i = false := by
      unfold Sp.inner
      rw [List.getElem?_eq_none (List.drop_eq_nil_iff.1 hd')]
      rfl
    rw [this]; simp
  | cons x' t' =>
    have hx' : l[i + 1]? = some x' := by
      have := congrArg List.head? hd'
      rwa [List.head?_drop] at this
    have e1 : ((i + 1 : Nat) : Int) - 1 = i := by omega
    have e2 : i + 1 - 1 = i := by omega
    unfold Sp.inner Sp.openAt
    rw [hx', e1, e2]
    simp only [Option.map_some, Option.some.injEq, decide_eq_true_eq]
    split <;> simp
theorem rest_Rst (l : List Sp.EE) : ∀ (t : List Sp.EE) (i : Nat) (op : List Nat) (T : List UInt8), l.drop i = t → i ≠ 0 → restW l i t op = some T → T = Rst l i t (bopOf i t op) := by
  intro t
  induction t with
  | nil =>
    intro i op T hd hi h
    injection h with h
    unfold bopOf Rst
    rw [if_neg hi]
    exact h.symm
  | cons x t ih =>
    intro i op T hd hi h
    have hd' : l.drop (i + 1) = t := by
      have := congrArg List.tail hd
      rwa [List.tail_drop] at this
    unfold restW at h
    cases ho : outW l i x op with
    | none => rw [ho] at h; cases h
    | some s =>
      rw [ho] at h
      simp only at h
      cases hr : restW l (i + 1) t s.2 with
      | none => rw [hr] at h; cases h
      | some T' =>
        rw [hr] at h
        injection h with h
        have h : s.1 ++ T' = T := h
        have h2 := ih (i + 1) s.2 T' hd' (by omega) hr
        rw [← bop_next hd'] at h2
        unfold outW Sp.stepW at ho
        split at ho
        · cases ho
        · first | rw [if_neg hi] at ho | skip
          split at ho
          · cases ho
          · injection ho with ho
            have hb : bopOf i (x :: t) op = Sp.openAt i x op := by unfold bopOf; rw [if_neg hi]
            rw [hb, Rst, ← h, h2, ← ho]
            simp only [List.nil_append, List.append_assoc]
def G (l : List Sp.EE) (k : Nat) (b : List Nat) : List UInt8 := Rst l k (l.drop k) b
theorem G_at {l : List Sp.EE} {k : Nat} {x : Sp.EE} {b : List Nat} (hx : l[k]? = some x) : G l k b = Sp.closes l (b.drop (Sp.toIx x.up b b.length)) ++ (Sp.tag x ++ Sp.body l k x) ++ G l (k + 1) (b.take (Sp.toIx x.up b b.length) ++ if Sp.inner l k = true then [k] else []) := by
  unfold G
  obtain ⟨h1, h2⟩ := List.getElem?_eq_some_iff.1 hx
  rw [List.drop_eq_getElem_cons h1, h2, Rst]
theorem G_end {l : List Sp.EE} {k : Nat} {b : List Nat} (hk : l.length ≤ k) : G l k b = Sp.closes l b := by
  unfold G
  rw [List.drop_eq_nil_of_le hk, Rst]

/-- `none`: the element i; `some e`: the elements from i on up to e, that stand in one. -/
inductive RW (l : List Sp.EE) : Option Nat → Nat → List UInt8 → Prop
  | leaf {i : Nat} {x : Sp.EE} : l[i]? = some x → IsEnd l i (i + 1) → x.text = [] → RW l none i (Sp.tag x ++ [47, 62])
  | node {i e : Nat} {x : Sp.EE} {ks : List UInt8} : l[i]? = some x → IsEnd l i e → ¬ (e = i + 1 ∧ x.text = []) → RW l (some e) (i + 1) ks → RW l none i (Sp.tag x ++ 62 :: Sp.escape x.text ++ ks ++ Sp.closeT x.name)
  | done {e : Nat} : RW l (some e) e []
  | more {e k k' : Nat} {s ks : List UInt8} : k < e → RW l none k s → IsEnd l k k' → RW l (some e) k' ks → RW l (some e) k (s ++ ks)
theorem toIx_pos {l : List Sp.EE} {b : List Nat} {j k : Nat} {u : Int} (hp : b.Pairwise (· < ·)) (hj : b[j]? = some k) (hk : (k : Int) = u) : Sp.toIx u b b.length = j + 1 :=
  toIx_uniq hj hk (fun j' k' h1 h2 => pw_uniq hp hj h1 (by omega)) _ (List.getElem?_eq_some_iff.1 hj).1 (Nat.le_refl _)
/-- Behind what stands within p: p's end comes first. -/
theorem Va.shut {l : List Sp.EE} (v : Va l) {p e : Nat} (he : IsEnd l p e) : G l e (anc l p ++ [p]) = Sp.closeT (Sp.nameAt l p) ++ G l e (anc l p) ∧ (∀ x, l[e]? = some x → ∃ j k : Nat, (anc l p)[j]? = some k ∧ (k : Int) = x.up ∧ anc l e = (anc l p).take (j + 1)) := by
  have hpl : p < l.length := by have := he.1; have := he.2.1; omega
  have hpw := v.pw p hpl
  rcases Nat.lt_or_ge e l.length with hlt | hge
  · have hx := List.getElem?_eq_getElem hlt
    obtain ⟨j, b, h1, h2, h3⟩ := v.up e _ hx (by have := he.1; omega)
    obtain ⟨suf, hs⟩ : ∃ suf, anc l (e - 1) ++ [e - 1] = anc l p ++ p :: suf := by
      rcases Nat.lt_or_ge p (e - 1) with h | h
      · obtain ⟨suf, hs⟩ := v.pre (e - 1) (by omega) p (he.2.2.1 (e - 1) h (by omega))
        exact ⟨suf ++ [e - 1], by rw [hs]; simp⟩
      · have : e - 1 = p := by have := he.1; omega
        rw [this]
        exact ⟨[], rfl⟩
    have hjl : j < (anc l p).length := by
      rcases Nat.lt_or_ge j (anc l p).length with h | h
      · exact h
      · exfalso
        refine he.2.2.2 hlt ?_
        rw [h3, hs, List.take_append, List.take_of_length_le (by omega), show j + 1 - (anc l p).length = (j - (anc l p).length) + 1 by omega, List.take_succ_cons]
        simp
    rw [hs, List.getElem?_append_left hjl] at h1
    rw [hs, List.take_append_of_le_length (by omega)] at h3
    refine ⟨?_, fun x hx' => ?_⟩
    · rw [G_at hx, G_at hx]
      have t1 : Sp.toIx l[e].up (anc l p ++ [p]) (anc l p ++ [p]).length = j + 1 := toIx_pos (l := l) hpw (by rw [List.getElem?_append_left hjl]; exact h1) h2
      have t2 : Sp.toIx l[e].up (anc l p) (anc l p).length = j + 1 := toIx_pos (l := l) (hpw.sublist (List.sublist_append_left _ _)) h1 h2
      rw [t1, t2, List.drop_append_of_le_length (by omega), List.take_append_of_le_length (by omega), closes_snoc]
      simp only [List.append_assoc]
    · rw [hx] at hx'
      injection hx' with hx'
      subst hx'
      exact ⟨j, b, h1, h2, h3⟩
  · rw [G_end hge, G_end hge, closes_snoc]
    refine ⟨rfl, fun x hx => ?_⟩
    rw [List.getElem?_eq_none hge] at hx
    cases hx
theorem Va.rw {l : List Sp.EE} (v : Va l) {o : Option Nat} {i : Nat} {s : List UInt8} (h : RW l o i s) :
    (o = none → ∀ e x, l[i]? = some x → IsEnd l i e → (Sp.tag x ++ Sp.body l i x) ++ G l (i + 1) (anc l i ++ if Sp.inner l i = true then [i] else []) = s ++ G l e (anc l i)) ∧
    ∀ e, o = some e → ∀ p, IsEnd l p e → p < i → i ≤ e → (i < e → anc l i = anc l p ++ [p]) → G l i (anc l p ++ [p]) = s ++ (Sp.closeT (Sp.nameAt l p) ++ G l e (anc l p)) := by
  induction h with
  | @leaf i x hx he ht =>
    refine ⟨fun _ e x' hx' he' => ?_, fun e h => nomatch h⟩
    rw [hx] at hx'
    injection hx' with hx'
    subst hx'
    have := he.uniq he'
    subst this
    have hin : Sp.inner l i = false := by
      cases hin : Sp.inner l i with
      | false => rfl
      | true =>
        obtain ⟨h1, h2⟩ := v.inner.1 hin
        exact absurd h2 (he.2.2.2 h1)
    have hb : Sp.body l i x = [47, 62] := by
      unfold Sp.body
      rw [if_neg (by rw [hin]; simp), if_pos ht]
    rw [hb, hin]
    simp
  | @node i e x ks hx he hne _ ih =>
    refine ⟨fun _ e' x' hx' he' => ?_, fun e h => nomatch h⟩
    rw [hx] at hx'
    injection hx' with hx'
    subst hx'
    have := he.uniq he'
    subst this
    have hnm : Sp.nameAt l i = x.name := by
      unfold Sp.nameAt
      rw [List.getD_eq_getElem?_getD, List.getElem?_map, hx]
      rfl
    have hi2 := fun h => ih.2 e rfl i he (by omega) he.1 h
    cases hin : Sp.inner l i with
    | true =>
      have hup : i + 1 < e → anc l (i + 1) = anc l i ++ [i] := fun _ => by
        obtain ⟨h1, h2⟩ := v.inner.1 hin
        obtain ⟨j, b, h3, h4, h5⟩ := v.up (i + 1) _ (List.getElem?_eq_getElem h1) (by omega)
        rw [Nat.add_sub_cancel] at h3 h5
        rw [h5] at h2 ⊢
        obtain ⟨suf', hs⟩ := pre_take (c := anc l i ++ [i]) (suf := []) rfl (v.pw i (by omega)) h2
        refine List.take_of_length_le ?_
        have := congrArg List.length hs
        rw [List.length_take, List.length_append, List.length_append, List.length_singleton, List.length_cons] at this
        rw [List.length_append, List.length_singleton]
        omega
      have hb : Sp.body l i x = 62 :: Sp.escape x.text := by unfold Sp.body; rw [if_pos hin]
      rw [if_pos rfl, hi2 hup, hb, hnm]
      simp only [List.append_assoc, List.cons_append]
    | false =>
      have hei : e = i + 1 := by
        rcases Nat.lt_or_ge (i + 1) e with h | h
        · have h1 := he.2.2.1 (i + 1) (by omega) h
          rw [v.inner.2 ⟨by have := he.2.1; omega, h1⟩] at hin
          cases hin
        · have := he.1; omega
      subst hei
      have htx : x.text ≠ [] := fun h => hne ⟨rfl, h⟩
      have hk := hi2 (fun h => absurd h (Nat.lt_irrefl _))
      rw [(v.shut he).1] at hk
      have hks : ks = [] := by
        have := congrArg List.length hk
        simp only [List.length_append] at this
        exact List.eq_nil_of_length_eq_zero (by omega)
      have hb : Sp.body l i x = 62 :: Sp.escape x.text ++ Sp.closeT x.name := by
        unfold Sp.body
        rw [if_neg (by rw [hin]; simp), if_neg htx]
      subst hks
      rw [if_neg (by simp), hb, List.append_nil]
      simp only [List.append_assoc, List.cons_append, List.nil_append]
  | @done e =>
    refine ⟨(fun h => by cases h), fun e' h p hp _ _ _ => ?_⟩
    injection h with h
    subst h
    rw [(v.shut hp).1]
    rfl
  | @more e k k' s ks hke _ hk' _ ih1 ih2 =>
    refine ⟨(fun h => by cases h), fun e' h p hp hpk _ hup => ?_⟩
    injection h with h
    subst h
    have hup := hup hke
    have hkl : k < l.length := by have := hp.2.1; omega
    have hx := List.getElem?_eq_getElem hkl
    have h1 := ih1.1 rfl k' _ hx hk'
    rw [hup] at h1
    -- k' stands within p, or p ends there
    have hle : k' ≤ e := by
      rcases Nat.lt_or_ge e k' with h | h
      · exfalso
        have hel : e < l.length := by have := hk'.2.1; omega
        obtain ⟨suf, hs⟩ := v.pre e hel k (hk'.2.2.1 e hke h)
        refine hp.2.2.2 hel ?_
        rw [hs, hup]
        simp
      · exact h
    have hnx : k' < e → anc l k' = anc l p ++ [p] := fun hlt => by
      have hkl' : k' < l.length := by have := hp.2.1; omega
      obtain ⟨j, b, h3, h4, h5⟩ := (v.shut hk').2 _ (List.getElem?_eq_getElem hkl')
      have hm := hp.2.2.1 k' (by have := hk'.1; omega) hlt
      rw [hup] at h3 h5
      rw [h5] at hm ⊢
      obtain ⟨suf', hs⟩ := pre_take (c := anc l p ++ [p]) (suf := []) rfl (v.pw p (by omega)) hm
      refine List.take_of_length_le ?_
      have := congrArg List.length hs
      rw [List.length_take, List.length_append, List.length_append, List.length_singleton, List.length_cons] at this
      rw [List.length_append, List.length_singleton]
      omega
    have h2 := ih2.2 e rfl p hp (by have := hk'.1; omega) hle hnx
    rw [List.append_assoc, ← h2, ← h1, G_at hx]
    have ht : Sp.toIx l[k].up (anc l p ++ [p]) (anc l p ++ [p]).length = (anc l p).length + 1 := by
      obtain ⟨j, b, h3, h4, h5⟩ := v.up k _ hx (by omega)
      have hr := v.rc k hkl
      rw [hup, List.reverse_append] at hr
      have hu := hr.1
      rw [hx] at hu
      simp only [Option.map_some, Option.some.injEq, List.reverse_singleton, List.singleton_append, hdI] at hu
      refine toIx_pos (l := l) (v.pw p (by omega)) (k := p) ?_ hu.symm
      rw [List.getElem?_append_right (Nat.le_refl _)]
      simp
    have hlen : (anc l p ++ [p]).length = (anc l p).length + 1 := by simp
    rw [ht, List.drop_eq_nil_of_le (by omega), List.take_of_length_le (by omega)]
    have hc0 : Sp.closes l [] = [] := rfl
    rw [hc0, List.nil_append]
/-- What the document writes is what tree.Write writes. -/
theorem rw_write {l : List Sp.EE} {s : List UInt8} (h0 : l ≠ []) (h1 : l.length ≤ 4096) (hv : (Sp.write l).isSome = true) (h : RW l none 0 s) : Sp.write l = some s := by
  have hok := hv
  rw [write_isSome h0 h1] at hok
  have v := Va.of hok h0
  have hl : 0 < l.length := List.length_pos_iff.2 h0
  have hx := List.getElem?_eq_getElem hl
  have hend : IsEnd l 0 l.length := by
    refine ⟨hl, Nat.le_refl _, fun k hk hkl => ?_, fun h => absurd h (Nat.lt_irrefl _)⟩
    clear h
    induction k with
    | zero => exact absurd hk (Nat.lt_irrefl _)
    | succ k ih =>
      obtain ⟨j, b, h3, h4, h5⟩ := v.up (k + 1) _ (List.getElem?_eq_getElem hkl) (by omega)
      rw [Nat.add_sub_cancel] at h3 h5
      rw [h5]
      by_cases hk0 : k = 0
      · subst hk0
        rw [v.hd]
        simp
      · have := ih (by omega) (by omega)
        obtain ⟨suf, hs⟩ := v.pre k (by omega) 0 this
        rw [hs, v.hd]
        simp
  have h2 := (v.rw h).1 rfl _ _ hx hend
  obtain ⟨T, hT⟩ := Option.isSome_iff_exists.1 hv
  have h3 := hT
  rw [write_rest l h0 h1] at h3
  rw [G_end (Nat.le_refl _), v.hd] at h2
  have hc0 : Sp.closes l [] = [] := rfl
  rw [hc0, List.append_nil, List.nil_append] at h2
  have hd : l = l[0] :: l.drop 1 := by
    have := List.drop_eq_getElem_cons hl
    rw [List.drop_zero] at this
    exact this
  have hr : restW l 0 (l[0] :: l.drop 1) [] = some T := by rw [← hd]; exact h3
  unfold restW at hr
  cases ho : outW l 0 l[0] [] with
  | none => rw [ho] at hr; cases hr
  | some s' =>
    rw [ho] at hr
    simp only at hr
    cases hr' : restW l (0 + 1) (l.drop 1) s'.2 with
    | none => rw [hr'] at hr; cases hr
    | some T' =>
      rw [hr'] at hr
      injection hr with hr
      have hr : s'.1 ++ T' = T := hr
      have h4 := rest_Rst l (l.drop 1) (0 + 1) _ _ rfl (by omega) hr'
      obtain ⟨_, ⟨_, _, hs⟩ | ⟨h, _⟩⟩ := out_cases ho
      · rw [hs] at hr h4
        simp only at hr h4
        rw [← bop_next (l := l) (i := 0) rfl] at h4
        rw [List.nil_append] at h4
        rw [hT, ← hr, h4, ← h2]
        rfl
      · exact absurd rfl h
end Go.Proofs.YtokdclmikllepaaGreatDoor
