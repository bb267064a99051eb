import Derived.Test.YtokdclmikllepaaGreatDoorKt40
namespace Go.Proofs.YtokdclmikllepaaGreatDoor
set_option linter.unusedVariables false
set_option linter.unusedSimpArgs false

theorem stA_st (l : List Sp.EA) : (l.map stA).map stA = l.map stA := by rw [List.map_map]; rfl
theorem may_st (x : Sp.EE) : Sp.may (stE x) = Sp.may x := by
  unfold Sp.may
  have e1 : Sp.twice (stE x).attrs = Sp.twice x.attrs := twice_st _ _ _ _ (stA_st _)
  have e2 : (stE x).attrs.all Sp.mayA = x.attrs.all Sp.mayA := by
    show (x.attrs.map stA).all Sp.mayA = _
    rw [List.all_map]; rfl
  rw [e1, e2]
  rfl
theorem tag_st (x : Sp.EE) : Sp.tag (stE x) = Sp.tag x := by
  have : (x.attrs.map stA).flatMap Sp.tagA = x.attrs.flatMap Sp.tagA := by rw [List.flatMap_map]; rfl
  show 60 :: x.name ++ (x.attrs.map stA).flatMap Sp.tagA = _
  rw [this]; rfl
theorem nameAt_st (l : List Sp.EE) (i : Nat) : Sp.nameAt (l.map stE) i = Sp.nameAt l i := by
  unfold Sp.nameAt; rw [List.map_map]; rfl
theorem closes_st (l : List Sp.EE) (op : List Nat) : Sp.closes (l.map stE) op = Sp.closes l op := by
  unfold Sp.closes; simp only [nameAt_st]
theorem inner_st (l : List Sp.EE) (i : Nat) : Sp.inner (l.map stE) i = Sp.inner l i := by
  unfold Sp.inner
  rw [List.getElem?_map, Option.map_map]; rfl
theorem body_st (l : List Sp.EE) (i : Nat) (x : Sp.EE) : Sp.body (l.map stE) i (stE x) = Sp.body l i x := by
  unfold Sp.body; rw [inner_st]; rfl
theorem stepW_st (l : List Sp.EE) (i : Nat) (x : Sp.EE) (s : Sp.Wr) : Sp.stepW (l.map stE) i (stE x) s = Sp.stepW l i x s := by
  unfold Sp.stepW
  rw [may_st, tag_st, body_st]
  simp only [closes_st]
  rfl
theorem runW_st (l : List Sp.EE) : ∀ (t : List Sp.EE) (i : Nat) (s : Sp.Wr), Sp.runW (l.map stE) i (t.map stE) s = Sp.runW l i t s := by
  intro t
  induction t with
  | nil => intro i s; rfl
  | cons x t ih =>
    intro i s
    rw [List.map_cons, Sp.runW, Sp.runW, stepW_st]
    cases Sp.stepW l i x s with
    | none => rfl
    | some s' => exact ih _ _
theorem write_st1 (l : List Sp.EE) : Sp.write (l.map stE) = Sp.write l := by
  unfold Sp.write
  rw [runW_st, List.length_map]
  simp only [closes_st, List.map_eq_nil_iff]
theorem write_st {l m : List Sp.EE} (h : SamL l m) : Sp.write l = Sp.write m := by
  rw [← write_st1 l, ← write_st1 m, h]

def okStep (i : Nat) (x : Sp.EE) (op : List Nat) : Option (List Nat) :=
  if Sp.may x = false then none
  else if i = 0 then (if x.up = -1 then some op else none)
  else if Sp.toIx x.up (Sp.openAt i x op) (Sp.openAt i x op).length = 0 ∨ 16 ≤ Sp.toIx x.up (Sp.openAt i x op) (Sp.openAt i x op).length then none
  else some ((Sp.openAt i x op).take (Sp.toIx x.up (Sp.openAt i x op) (Sp.openAt i x op).length))
def okRun : Nat → List Sp.EE → List Nat → Option (List Nat)
  | _, [], op => some op
  | i, x :: t, op => match okStep i x op with | none => none | some op' => okRun (i + 1) t op'
theorem out_ok (l : List Sp.EE) (i : Nat) (x : Sp.EE) (op : List Nat) : (outW l i x op).map Prod.snd = okStep i x op := by
  unfold outW okStep Sp.stepW
  split
  · rfl
  · split
    · split <;> rfl
    · split <;> rfl
theorem rest_ok (l : List Sp.EE) : ∀ (t : List Sp.EE) (i : Nat) (op : List Nat), (restW l i t op).isSome = (okRun i t op).isSome := by
  intro t
  induction t with
  | nil => intro i op; rfl
  | cons x t ih =>
    intro i op
    unfold restW okRun
    rw [← out_ok l]
    cases outW l i x op with
    | none => rfl
    | some s =>
      simp only [Option.map_some, Option.isSome_map]
      exact ih _ _
theorem okRun_snoc : ∀ (t : List Sp.EE) (i : Nat) (op : List Nat) (x : Sp.EE), okRun i (t ++ [x]) op = (okRun i t op).bind (okStep (i + t.length) x) := by
  intro t
  induction t with
  | nil =>
    intro i op x
    simp only [List.nil_append, okRun, List.length_nil, Nat.add_zero, Option.bind_some]
    cases okStep i x op <;> rfl
  | cons y t ih =>
    intro i op x
    rw [List.cons_append, okRun, okRun]
    cases okStep i y op with
    | none => rfl
    | some op' =>
      simp only
      rw [ih, List.length_cons, show i + 1 + t.length = i + (t.length + 1) by omega]
theorem okRun_congr : ∀ (l m : List Sp.EE) (i : Nat) (op : List Nat), l.map Sp.EE.up = m.map Sp.EE.up → (∀ x ∈ l, Sp.may x = true) → (∀ x ∈ m, Sp.may x = true) → okRun i l op = okRun i m op := by
  intro l
  induction l with
  | nil =>
    intro m i op h _ _
    cases m with
    | nil => rfl
    | cons => cases h
  | cons x t ih =>
    intro m i op h hl hm
    cases m with
    | nil => cases h
    | cons y u =>
      rw [List.map_cons, List.map_cons] at h
      injection h with h1 h2
      have : okStep i x op = okStep i y op := by
        unfold okStep Sp.openAt
        rw [hl x (List.mem_cons_self ..), hm y (List.mem_cons_self ..), h1]
      rw [okRun, okRun, this]
      cases okStep i y op with
      | none => rfl
      | some op' => exact ih u _ _ h2 (fun z hz => hl z (List.mem_cons_of_mem _ hz)) (fun z hz => hm z (List.mem_cons_of_mem _ hz))
theorem toIx_sorted (op : List Nat) (h : op.Pairwise (· < ·)) (j : Nat) (hj : 1 ≤ j) : ∀ n, j ≤ n → n ≤ op.length → Sp.toIx ((op.getD (j - 1) 0 : Nat) : Int) op n = j := by
  intro n
  induction n with
  | zero => intro h1 _; omega
  | succ n ih =>
    intro h1 h2
    unfold Sp.toIx
    rcases Nat.lt_or_ge n j with hn | hn
    · obtain rfl : n + 1 = j := by omega
      rw [if_pos (by simp)]
    · rw [if_neg, ih hn (by omega)]
      have := List.pairwise_iff_getElem.1 h (j - 1) n (by omega) (by omega) (by omega)
      rw [List.getD_eq_getElem?_getD, List.getD_eq_getElem?_getD, List.getElem?_eq_getElem (by omega), List.getElem?_eq_getElem (by omega)]
      simp only [Option.getD_some]
      omega

/-- What holds of the builder. -/
structure Jn (b : Sp.Bd) : Prop where
  may : ∀ x ∈ b.1, Sp.may x = true
  len : b.1.length ≤ 4096
  op : (b.1 = [] ∧ b.2 = []) ∨ (b.1 ≠ [] ∧ ∃ wop j, okRun 0 b.1 [] = some wop ∧ (wop ++ [b.1.length - 1]).Pairwise (· < ·) ∧ b.2 = (wop ++ [b.1.length - 1]).take j)

theorem goodA_may {a : Sp.At} (h : GoodA a) : Sp.mayA a.ea = true := by
  unfold Sp.mayA
  show (Sp.isName a.name && Sp.chars a.value) = true
  rw [h.1, h.2]; rfl
theorem Jn.start {b b' : Sp.Bd} {m : Sp.Mk} (h : Jn b) (hg : Sp.isName m.name = true ∧ ∀ a ∈ m.attrs, GoodA a) (hs : Sp.startB b m = .ok b') : Jn b' := by
  obtain ⟨h1, h2, h3, h4, rfl⟩ := startB_ok hs
  obtain ⟨E, bop⟩ := b
  simp only at h1 h2 h3 hs
  have hy : Sp.may ⟨m.name, m.attrs.map Sp.At.ea, [], Sp.upOf bop, m.at_⟩ = true := by
    unfold Sp.may
    simp only [Bool.and_eq_true, List.all_eq_true, Option.isNone_iff_eq_none]
    refine ⟨⟨⟨hg.1, rfl⟩, h4⟩, fun a ha => ?_⟩
    obtain ⟨a', ha', rfl⟩ := List.mem_map.1 ha
    exact goodA_may (hg.2 a' ha')
  generalize hyy : (⟨m.name, m.attrs.map Sp.At.ea, [], Sp.upOf bop, m.at_⟩ : Sp.EE) = y at *
  have hup : y.up = Sp.upOf bop := by rw [← hyy]
  have hmay : ∀ x ∈ E ++ [y], Sp.may x = true := fun x hx => by
    rcases List.mem_append.1 hx with hx | hx
    · exact h.may x hx
    · rw [List.mem_singleton.1 hx]; exact hy
  refine ⟨hmay, by simp only [List.length_append, List.length_singleton]; omega, .inr ⟨by simp, ?_⟩⟩
  simp only [List.length_append, List.length_singleton, Nat.add_sub_cancel]
  suffices hk : okRun 0 (E ++ [y]) [] = some bop ∧ (bop ++ [E.length]).Pairwise (· < ·) by
    refine ⟨bop, if m.empty = true then bop.length else bop.length + 1, hk.1, hk.2, ?_⟩
    split
    · rw [List.take_left' rfl]
    · rw [List.take_of_length_le (by simp)]
  rcases h.op with ⟨rfl, rfl⟩ | ⟨hE, wop, j, hw, hp, hb⟩
  · refine ⟨?_, by simp⟩
    show okRun 0 [y] [] = some []
    unfold okRun okStep
    rw [hy, if_neg (by simp), if_pos rfl, if_pos (by rw [hup]; rfl)]
    rfl
  · have hbne : bop ≠ [] := fun e => hE (h1 e)
    have hEl : 1 ≤ E.length := List.length_pos_iff.2 hE
    simp only at hw hp hb hE
    obtain ⟨n, hn⟩ : ∃ n, E.length = n + 1 := ⟨E.length - 1, by omega⟩
    rw [hn, Nat.add_sub_cancel] at hp hb
    -- j is bop's length
    obtain ⟨j, hj1, hj2, hb⟩ : ∃ j, 1 ≤ j ∧ j ≤ wop.length + 1 ∧ bop = (wop ++ [n]).take j := by
      refine ⟨bop.length, List.length_pos_iff.2 hbne, ?_, ?_⟩
      · rw [hb, List.length_take, List.length_append, List.length_singleton]; omega
      · conv => lhs; rw [hb]
        rw [hb, List.length_take, List.take_eq_take_iff, List.length_append, List.length_singleton]
        omega
    have hbl : bop.length = j := by rw [hb, List.length_take, List.length_append, List.length_singleton]; omega
    have hlast : ∀ k ∈ wop ++ [n], k ≤ n := fun k hk => by
      rcases List.mem_append.1 hk with hk | hk
      · exact Nat.le_of_lt ((List.pairwise_append.1 hp).2.2 k hk n (by simp))
      · rw [List.mem_singleton.1 hk]; exact Nat.le_refl _
    have hupj : Sp.upOf bop = (((wop ++ [n]).getD (j - 1) 0 : Nat) : Int) := by
      rw [hb]; exact upOf_take _ _ (by omega) (by simp; omega)
    refine ⟨?_, ?_⟩
    · rw [okRun_snoc, hw, Option.bind_some, hn, Nat.zero_add]
      -- the places that are open when y comes
      obtain ⟨op1, ho1, ho2, ho3, ho4, ho5⟩ : ∃ op1, Sp.openAt (n + 1) y wop = op1 ∧ op1.Pairwise (· < ·) ∧ j ≤ op1.length ∧ op1.take j = bop ∧ y.up = ((op1.getD (j - 1) 0 : Nat) : Int) := by
        rcases Nat.lt_or_ge wop.length j with hjl | hjl
        · obtain rfl : j = wop.length + 1 := by omega
          have hu : y.up = (n : Int) := by
            rw [hup, hupj, List.getD_eq_getElem?_getD, List.getElem?_append_right (by omega)]
            simp
          refine ⟨wop ++ [n], ?_, hp, by simp, by rw [hb], by rw [hup, hupj]⟩
          unfold Sp.openAt
          rw [if_pos (by rw [hu]; omega), Nat.add_sub_cancel]
        · have hlt : (wop ++ [n]).getD (j - 1) 0 = wop.getD (j - 1) 0 := by
            rw [List.getD_eq_getElem?_getD, List.getD_eq_getElem?_getD, List.getElem?_append_left (by omega)]
          have hin : wop.getD (j - 1) 0 < n := by
            rw [List.getD_eq_getElem?_getD, List.getElem?_eq_getElem (by omega)]
            exact (List.pairwise_append.1 hp).2.2 _ (List.getElem_mem _) n (by simp)
          refine ⟨wop, ?_, (List.pairwise_append.1 hp).1, hjl, ?_, by rw [hup, hupj, hlt]⟩
          · unfold Sp.openAt
            rw [if_neg]
            rw [hup, hupj, hlt]
            omega
          · rw [hb, List.take_append_of_le_length hjl]
      have ht : Sp.toIx y.up op1 op1.length = j := by rw [ho5]; exact toIx_sorted op1 ho2 j hj1 _ ho3 (Nat.le_refl _)
      unfold okStep
      rw [hy, if_neg (by simp), if_neg (by omega), ho1, ht, if_neg (by omega), ho4]
    · rw [List.pairwise_append]
      refine ⟨?_, by simp, fun a ha b hb' => ?_⟩
      · rw [hb]; exact hp.sublist (List.take_sublist _ _)
      · rw [List.mem_singleton.1 hb', hn]
        rw [hb] at ha
        have := hlast a (List.mem_of_mem_take ha)
        omega
theorem Jn.ends {b b' : Sp.Bd} {m : Sp.Mk} (h : Jn b) (hs : Sp.endB b m = .ok b') : Jn b' := by
  unfold Sp.endB at hs
  split at hs
  · cases hs
  · rename_i i hi
    split at hs
    · injection hs with hs
      subst hs
      refine ⟨h.may, h.len, ?_⟩
      rcases h.op with ⟨h1, h2⟩ | ⟨hE, wop, j, hw, hp, hb⟩
      · rw [h2] at hi; cases hi
      · refine .inr ⟨hE, wop, b.2.length - 1, hw, hp, ?_⟩
        show b.2.dropLast = _
        rw [List.dropLast_eq_take]
        conv => lhs; rw [hb]
        rw [List.take_take]
        have : b.2.length ≤ j := by rw [hb, List.length_take]; omega
        rw [Nat.min_eq_left]
        · rw [hb]
        · rw [← hb]; omega
    · cases hs
theorem modify_up (E : List Sp.EE) (i : Nat) (t : List UInt8) : (E.modify i (Sp.EE.more t)).map Sp.EE.up = E.map Sp.EE.up := by
  apply List.ext_getElem?
  intro k
  rw [List.getElem?_map, List.getElem?_map, List.getElem?_modify]
  cases E[k]? with
  | none => rfl
  | some x => simp only [Option.map_some]; split <;> rfl
theorem chars_app {a b : List UInt8} (ha : Sp.chars a = true) (hb : Sp.chars b = true) : Sp.chars (a ++ b) = true := cs_chars (cs_append (chars_cs ha) (chars_cs hb))
theorem modify_may {E : List Sp.EE} {i : Nat} {t : List UInt8} (h : ∀ x ∈ E, Sp.may x = true) (ht : Sp.chars t = true) : ∀ x ∈ E.modify i (Sp.EE.more t), Sp.may x = true := by
  intro x hx
  obtain ⟨k, hk⟩ := List.mem_iff_getElem?.1 hx
  rw [List.getElem?_modify] at hk
  cases he : E[k]? with
  | none => rw [he] at hk; cases hk
  | some y =>
    rw [he] at hk
    have hy := h y (List.mem_of_getElem? he)
    injection hk with hk
    split at hk
    · rw [← hk]
      unfold Sp.may at hy ⊢
      simp only [Bool.and_eq_true] at hy ⊢
      exact ⟨⟨⟨hy.1.1.1, chars_app hy.1.1.2 ht⟩, hy.1.2⟩, hy.2⟩
    · rw [← hk]; exact hy
theorem Jn.text {b b' : Sp.Bd} {m : Sp.Mk} (h : Jn b) (ht : Sp.chars m.text = true) (hs : Sp.textB b m = .ok b') : Jn b' := by
  unfold Sp.textB at hs
  split at hs
  · rename_i i hi
    injection hs with hs
    subst hs
    have hm := modify_may (i := i) h.may ht
    refine ⟨hm, by simp only [List.length_modify]; exact h.len, ?_⟩
    rcases h.op with ⟨h1, h2⟩ | ⟨hE, wop, j, hw, hp, hb⟩
    · rw [h2] at hi; cases hi
    · refine .inr ⟨?_, wop, j, ?_, ?_, ?_⟩
      · intro he
        have := congrArg List.length he
        simp only [List.length_modify, List.length_nil] at this
        exact hE (List.eq_nil_of_length_eq_zero this)
      · rw [← hw]; exact okRun_congr _ _ _ _ (modify_up _ _ _) hm h.may
      · simp only [List.length_modify]; exact hp
      · simp only [List.length_modify]; exact hb
  · split at hs
    · injection hs with hs
      subst hs
      exact h
    · cases hs
theorem Jn.run : ∀ (ms : List Sp.Mk) (b b' : Sp.Bd), Jn b → (∀ m ∈ ms, GoodM m) → Sp.runB b ms = .ok b' → Jn b' := by
  intro ms
  induction ms with
  | nil => intro b b' h _ hr; injection hr with hr; rw [← hr]; exact h
  | cons m t ih =>
    intro b b' h hg hr
    rw [Sp.runB] at hr
    have hgm := hg m (List.mem_cons_self ..)
    cases hs : Sp.stepB b m with
    | error f => rw [hs] at hr; cases hr
    | ok b1 =>
      rw [hs] at hr
      refine ih b1 b' ?_ (fun x hx => hg x (List.mem_cons_of_mem _ hx)) hr
      unfold Sp.stepB at hs
      split at hs
      · rename_i hk
        exact h.start (hgm.1 hk) hs
      · split at hs
        · exact h.ends hs
        · exact h.text hgm.2 hs
theorem parse_ok {s : List UInt8} {l : List Sp.EE} (h : Sp.parse s = .ok l) : ∃ ms b, Sp.marks s = .ok ms ∧ Sp.runB ([], []) ms = .ok b ∧ b.1 = l ∧ b.2 = [] ∧ l ≠ [] := by
  unfold Sp.parse at h
  split at h
  · cases h
  · rename_i ms hm
    split at h
    · cases h
    · rename_i b hb
      unfold Sp.endOf at h
      split at h
      · cases h
      · rename_i hg
        split at h
        · cases h
        · rename_i hne
          injection h with h
          exact ⟨ms, b, hm, hb, h, List.getLast?_eq_none_iff.1 hg, by rw [← h]; exact hne⟩
theorem parse_write (s : List UInt8) (l : List Sp.EE) (h : Sp.parse s = .ok l) : ∃ T, Sp.write l = some T := by
  obtain ⟨ms, b, hm, hb, rfl, hop, hne⟩ := parse_ok h
  have hj := Jn.run ms ([], []) b ⟨fun x hx => (nomatch hx), Nat.zero_le _, .inl ⟨rfl, rfl⟩⟩ (marks_good s ms hm) hb
  rw [write_rest _ hne hj.len]
  rcases hj.op with ⟨h1, _⟩ | ⟨_, wop, j, hw, _, _⟩
  · exact absurd h1 hne
  · have := rest_ok b.1 b.1 0 []
    rw [hw] at this
    exact Option.isSome_iff_exists.1 this
/-- What was read, written, and read again. -/
theorem again_law (s : List UInt8) (l : List Sp.EE) (h : Sp.parse s = .ok l) : ∃ T, Sp.write l = some T ∧ (65536 < T.length → Sp.parse T = .error (0, 3)) ∧ (T.length ≤ 65536 → ∃ m, Sp.parse T = .ok m ∧ SamL m l ∧ Sp.write m = some T) := by
  obtain ⟨T, hT⟩ := parse_write s l h
  refine ⟨T, hT, fun hl => ?_, fun hl => ?_⟩
  · unfold Sp.parse Sp.marks
    rw [if_pos hl]
  · obtain ⟨m, h1, h2⟩ := write_parse l T hT hl
    exact ⟨m, h1, h2, by rw [write_st h2]; exact hT⟩
end Go.Proofs.YtokdclmikllepaaGreatDoor
