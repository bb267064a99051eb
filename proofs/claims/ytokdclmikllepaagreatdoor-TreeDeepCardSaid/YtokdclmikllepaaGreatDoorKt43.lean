import Derived.Test.YtokdclmikllepaaGreatDoorKt41
namespace Go.Proofs.YtokdclmikllepaaGreatDoor
set_option linter.unusedVariables false
set_option linter.unusedSimpArgs false

theorem find_ext (sub : List UInt8) (b : List UInt8) : ∀ (a : List UInt8) (i : Nat), Sp.find sub a = some i → Sp.find sub (a ++ b) = some i := by
  intro a
  induction a with
  | nil =>
    intro i h
    unfold Sp.find at h
    split at h
    · rename_i hs
      injection h with h
      subst hs h
      cases b <;> simp [Sp.find]
    · cases h
  | cons c t ih =>
    intro i h
    have hb := find_bound _ _ _ h
    unfold Sp.find at h
    rw [List.cons_append, Sp.find]
    split at h
    · rename_i hp
      injection h with h
      rw [← List.cons_append, if_pos (prefix_more b hp), h]
    · rename_i hp
      have hp' : ¬ sub.isPrefixOf (c :: (t ++ b)) = true := fun hp2 => hp (prefix_cut (a := c :: t) (b := b) hp2 (by omega))
      rw [if_neg hp']
      cases hf : Sp.find sub t with
      | none => rw [hf] at h; cases h
      | some j =>
        rw [hf] at h
        rw [ih j hf]
        exact h
theorem ref_ext (p : Nat) (a b x : List UInt8) (m : Nat) (h : Sp.reference p a = .ok (x, m)) : Sp.reference p (a ++ b) = .ok (x, m) := by
  obtain ⟨hf, hm, e, he, h1, h2⟩ := ref_far _ _ _ _ h
  have hle := hf.1
  have hfe : Sp.find [59] ((a ++ b).take 12) = some e := by
    rw [List.take_append]
    exact find_ext _ _ _ _ he
  unfold Sp.reference
  rw [hfe]
  simp only
  have e2 : ((a ++ b).drop 1).take (e - 1) = (a.drop 1).take (e - 1) := by
    rw [List.drop_append_of_le_length (by omega), List.take_append_of_le_length (by rw [List.length_drop]; omega)]
  rw [e2, h2, h1]
theorem tw_ext (q : UInt8 → Bool) : ∀ (l b : List UInt8), (l.dropWhile q ≠ [] ∨ ∃ y u, b = y :: u ∧ q y = false) → (l ++ b).takeWhile q = l.takeWhile q ∧ (l ++ b).dropWhile q = l.dropWhile q ++ b := by
  intro l
  induction l with
  | nil =>
    intro b h
    rcases h with h | ⟨y, u, rfl, hy⟩
    · exact absurd rfl h
    · simp [hy]
  | cons c t ih =>
    intro b h
    rw [List.cons_append, List.takeWhile_cons, List.takeWhile_cons, List.dropWhile_cons, List.dropWhile_cons]
    cases hq : q c with
    | false => simp
    | true =>
      rw [List.dropWhile_cons, hq] at h
      simp only [if_true] at h ⊢
      have := ih b h
      exact ⟨by rw [this.1], this.2⟩
theorem text_ext (e : UInt8) (bb : Bool) (fr : Nat) (b : List UInt8) : ∀ (k k' p : Nat) (a acc : List UInt8) (n : Nat) (x : List UInt8) (m : Nat), a.length < k → a.length < k' → Sp.text e bb fr k p a acc n = .ok (x, m) → (m < n + a.length ∨ b.head? = some e) →
    Sp.text e bb fr k' p (a ++ b) acc n = .ok (x, m) := by
  intro k
  induction k with
  | zero => intro k' p a acc n x m h; omega
  | succ k ih =>
    intro k' p a acc n x m hk hk' h hd
    obtain ⟨k', rfl⟩ : ∃ j, k' = j + 1 := ⟨k' - 1, by omega⟩
    cases a with
    | nil =>
      injection h with h; injection h with h1 h2
      subst h1 h2
      rcases hd with hd | hd
      · simp at hd
      · obtain ⟨t, ht⟩ := sp_head_cons hd
        rw [List.nil_append, ht, text_end]
    | cons c t =>
      rw [List.length_cons] at hk hk'
      unfold Sp.text at h
      rw [List.cons_append, Sp.text]
      split at h
      · rename_i hc
        rw [if_pos hc]; exact h
      · rename_i hc
        rw [if_neg hc]
        split at h
        · rename_i hc38
          rw [if_pos hc38]
          split at h
          · cases h
          · rename_i y q hr
            have hq1 := sp_reference_pos _ _ _ _ hr
            have hq := (ref_far _ _ _ _ hr).1.1
            rw [List.length_cons] at hq
            rw [← List.cons_append, ref_ext _ _ _ _ _ hr]
            simp only
            rw [List.drop_append_of_le_length (by rw [List.length_cons]; omega)]
            exact ih k' _ _ _ _ _ _ (by rw [List.length_drop, List.length_cons]; omega) (by rw [List.length_drop, List.length_cons]; omega) h (by
              rcases hd with hd | hd
              · rw [List.length_cons] at hd
                rw [List.length_drop, List.length_cons]; left; omega
              · exact .inr hd)
        · rename_i hc38
          rw [if_neg hc38]
          split at h
          · cases h
          · rename_i hc60
            rw [if_neg hc60]
            have hpl : Sp.plainB e c = true := by simp [Sp.plainB, hc, hc38, hc60]
            have hrun : 1 ≤ ((c :: t).takeWhile (Sp.plainB e)).length := by rw [List.takeWhile_cons, hpl]; simp
            have hle := (List.takeWhile_prefix (l := c :: t) (Sp.plainB e)).length_le
            rw [List.length_cons] at hle
            have htw : (c :: (t ++ b)).takeWhile (Sp.plainB e) = (c :: t).takeWhile (Sp.plainB e) ∧ (c :: (t ++ b)).dropWhile (Sp.plainB e) = (c :: t).dropWhile (Sp.plainB e) ++ b := by
              rw [← List.cons_append]
              refine tw_ext _ _ _ ?_
              cases hdw : (c :: t).dropWhile (Sp.plainB e) with
              | cons y r => exact .inl (by simp)
              | nil =>
                have e1 : (c :: t).takeWhile (Sp.plainB e) = c :: t := by
                  have := List.takeWhile_append_dropWhile (p := Sp.plainB e) (l := c :: t)
                  rwa [hdw, List.append_nil] at this
                rw [hdw, e1] at h
                have hm : m = n + (c :: t).length := by
                  rw [text_nil] at h
                  injection h with h; injection h with _ h; exact h.symm
                rcases hd with hd | hd
                · omega
                · obtain ⟨u, hu⟩ := sp_head_cons hd
                  exact .inr ⟨e, u, hu, by simp [Sp.plainB]⟩
            rw [htw.1, htw.2]
            have hdl : ((c :: t).dropWhile (Sp.plainB e)).length + ((c :: t).takeWhile (Sp.plainB e)).length = t.length + 1 := by
              have := congrArg List.length (List.takeWhile_append_dropWhile (p := Sp.plainB e) (l := c :: t))
              rw [List.length_append, List.length_cons] at this
              omega
            exact ih k' _ _ _ _ _ _ (by omega) (by omega) h (by
              rcases hd with hd | hd
              · rw [List.length_cons] at hd; left; omega
              · exact .inr hd)

theorem name_ext {a b : List UInt8} (hal : Al a b) (h : Sp.nameN (a.length + 1) true a < a.length) : Sp.nameN ((a ++ b).length + 1) true (a ++ b) = Sp.nameN (a.length + 1) true a := by
  have := cut_name b (a.length + 1) ((a ++ b).length + 1) true a hal (Nat.lt_succ_self _) (Nat.lt_succ_self _)
  omega
theorem blanks_ext {a b : List UInt8} (h : Sp.blanksN a < a.length) : Sp.blanksN (a ++ b) = Sp.blanksN a := by
  have := cut_blanks a b
  omega
theorem lt_of_drop {a t : List UInt8} {c : UInt8} {i : Nat} (h : a.drop i = c :: t) : i < a.length := by
  rcases Nat.lt_or_ge i a.length with h1 | h1
  · exact h1
  · rw [List.drop_eq_nil_of_le h1] at h; cases h
theorem attr_ext {a b : List UInt8} (hal : Al a b) (fr p : Nat) (x : Sp.At) (m : Nat) (h : Sp.attr fr p a = .ok (x, m)) : Sp.attr fr p (a ++ b) = .ok (x, m) := by
  by_cases h0 : Sp.nameN (a.length + 1) true a = 0
  · rw [attr_zero h0] at h; cases h
  · by_cases hh : ((a.drop (Sp.nameN (a.length + 1) true a)).drop (Sp.blanksN (a.drop (Sp.nameN (a.length + 1) true a)))).head? = some 61
    · obtain ⟨l3, h3⟩ := sp_head_cons hh
      rw [attr_more rfl h0 rfl h3 rfl rfl] at h
      have hb1 := lt_of_drop h3
      have hn1 : Sp.nameN (a.length + 1) true a < a.length := by rw [List.length_drop] at hb1; omega
      have e1 := name_ext hal hn1
      have e2 := blanks_ext (b := b) hb1
      generalize Sp.nameN (a.length + 1) true a = n at *
      have hd : (a ++ b).drop n = a.drop n ++ b := dap b (by omega)
      generalize hb : Sp.blanksN (a.drop n) = k at *
      have hd2 : ((a ++ b).drop n).drop k = 61 :: (l3 ++ b) := by rw [hd, dap b (by omega), h3, List.cons_append]
      generalize hb2 : Sp.blanksN l3 = k2 at *
      cases h4 : l3.drop k2 with
      | nil => rw [h4] at h; cases h
      | cons e l5 =>
        have hk2 := lt_of_drop h4
        have e3 : Sp.blanksN (l3 ++ b) = k2 := by rw [blanks_ext (by omega)]; exact hb2
        have h4' : (l3 ++ b).drop k2 = e :: (l5 ++ b) := by rw [dap b (by omega), h4, List.cons_append]
        rw [attr_more e1 h0 (by rw [hd]; exact e2) hd2 e3 h4', List.take_append_of_le_length (by omega)]
        rw [h4] at h
        unfold attrTail at h ⊢
        simp only at h ⊢
        split at h
        · rename_i he
          rw [if_pos he]
          split at h
          · cases h
          · rename_i y q ht
            split at h
            · cases h
            · rename_i hne
              have hq : q < l5.length := by
                rcases Nat.lt_or_ge q l5.length with h | h
                · exact h
                · exact absurd (List.drop_eq_nil_of_le h) hne
              rw [text_ext e true fr b _ ((l5 ++ b).length + 1) _ l5 [] 0 y q (Nat.lt_succ_self _) (by rw [List.length_append]; omega) ht (.inl (by omega))]
              simp only
              rw [dap b (by omega), if_neg (by simp [hne])]
              exact h
        · cases h
    · rw [attr_none rfl h0 rfl rfl hh] at h; cases h
theorem attrs_ext (fr : Nat) (b : List UInt8) : ∀ (k k' p : Nat) (a : List UInt8) (acc : List Sp.At) (n : Nat) (az : List Sp.At) (e : Bool) (m : Nat), Al a b → a.length < k → a.length < k' → Sp.attrs fr k p a acc n = .ok (az, e, m) →
    Sp.attrs fr k' p (a ++ b) acc n = .ok (az, e, m) := by
  intro k
  induction k with
  | zero => intro k' p a acc n az e m _ h; omega
  | succ k ih =>
    intro k' p a acc n az e m hal hk hk' h
    obtain ⟨k', rfl⟩ : ∃ j, k' = j + 1 := ⟨k' - 1, by omega⟩
    rw [attrs_in] at h
    rw [attrs_in]
    cases hd : a.drop (Sp.blanksN a) with
    | nil =>
      rw [hd] at h
      by_cases hb0 : Sp.blanksN a = 0
      · rw [hb0, in_gap _ _ _ _ _ _ _ (by simp) (by simp)] at h; cases h
      · rw [in_attr _ _ _ _ _ _ _ _ (by simp) (by simp) hb0, attr_zero rfl] at h; cases h
    | cons c t =>
      have hb := lt_of_drop hd
      rw [blanks_ext hb]
      have hda : (a ++ b).drop (Sp.blanksN a) = c :: (t ++ b) := by rw [dap b (by omega), hd, List.cons_append]
      rw [hda]
      rw [hd] at h
      by_cases h62 : c = 62
      · subst h62
        rw [in_gt] at h ⊢
        exact h
      · by_cases h47 : c = 47
        · subst h47
          by_cases h2 : t.head? = some 62
          · obtain ⟨t2, rfl⟩ := sp_head_cons h2
            rw [in_sl_gt] at h
            rw [List.cons_append, in_sl_gt]
            exact h
          · rw [in_sl_no _ _ _ _ _ _ _ _ h2] at h; cases h
        · by_cases hb0 : Sp.blanksN a = 0
          · rw [hb0, in_gap _ _ _ _ _ _ _ (by simp [h62]) (by simp [h47])] at h; cases h
          · rw [in_attr _ _ _ _ _ _ _ _ (by simp [h62]) (by simp [h47]) hb0] at h
            rw [in_attr _ _ _ _ _ _ _ _ (by simp [h62]) (by simp [h47]) hb0]
            cases hat : Sp.attr fr (p + Sp.blanksN a) (c :: t) with
            | error f => rw [hat] at h; cases h
            | ok r =>
              obtain ⟨x, m0⟩ := r
              rw [hat] at h
              have hfd := (attr_fd fr (p + Sp.blanksN a) (c :: t)).2 x m0 hat
              have hle := hfd.1.1
              have hct : Al (c :: t) b := by rw [← hd]; exact hal.drop _
              have hlen := congrArg List.length hd
              rw [List.length_drop, List.length_cons] at hlen
              rw [List.length_cons] at hle
              rw [← List.cons_append, attr_ext hct _ _ _ _ hat]
              simp only
              rw [dap b (by rw [List.length_cons]; omega)]
              exact ih k' _ _ _ _ _ _ _ (hct.drop _) (by rw [List.length_drop, List.length_cons]; omega) (by rw [List.length_drop, List.length_cons]; omega) h
theorem closing_ext {a b : List UInt8} (hal : Al a b) (p : Nat) (x : Sp.Mk) (m : Nat) (h : Sp.closing p (60 :: 47 :: a) = .ok (x, m)) : Sp.closing p (60 :: 47 :: (a ++ b)) = .ok (x, m) := by
  by_cases h0 : Sp.nameN (a.length + 1) true a = 0
  · have : Sp.closing p (60 :: 47 :: a) = .error (Sp.stop p (p + 2) a) := by
      unfold Sp.closing
      simp only [List.drop_succ_cons, List.drop_zero, h0, if_pos]
    rw [this] at h; cases h
  · have hc := closing_eq p a _ _ rfl h0 rfl
    by_cases hh : ((a.drop (Sp.nameN (a.length + 1) true a)).drop (Sp.blanksN (a.drop (Sp.nameN (a.length + 1) true a)))).head? = some 62
    · rw [hc.1 hh] at h
      obtain ⟨l3, h3⟩ := sp_head_cons hh
      have hb1 := lt_of_drop h3
      have hn1 : Sp.nameN (a.length + 1) true a < a.length := by rw [List.length_drop] at hb1; omega
      have e1 := name_ext hal hn1
      have e2 := blanks_ext (b := b) hb1
      generalize Sp.nameN (a.length + 1) true a = n at *
      have hd : (a ++ b).drop n = a.drop n ++ b := dap b (by omega)
      generalize hb : Sp.blanksN (a.drop n) = k at *
      have hd2 : ((a ++ b).drop n).drop k = 62 :: (l3 ++ b) := by rw [hd, dap b (by omega), h3, List.cons_append]
      rw [(closing_eq p (a ++ b) n k e1 h0 (by rw [hd]; exact e2)).1 (by rw [hd2]; rfl), List.take_append_of_le_length (by omega)]
      exact h
    · rw [hc.2 hh] at h; cases h
theorem opening_eq (p : Nat) (a : List UInt8) : Sp.opening p (60 :: a) = if Sp.nameN (a.length + 1) true a = 0 then .error (Sp.stop p (p + 1) a) else
    match Sp.attrs p (a.length + 1 + 1) (p + 1 + Sp.nameN (a.length + 1) true a) (a.drop (Sp.nameN (a.length + 1) true a)) [] (1 + Sp.nameN (a.length + 1) true a) with
    | .error f => .error f
    | .ok (az, e, m) => .ok (⟨1, a.take (Sp.nameN (a.length + 1) true a), az, e, [], p⟩, m) := rfl
theorem attrs_nil (fr k p : Nat) (acc : List Sp.At) (n : Nat) : ∃ f, Sp.attrs fr (k + 1) p [] acc n = .error f := by
  rw [attrs_in]
  exact ⟨_, in_gap _ _ _ _ _ _ _ (by simp) (by simp)⟩
theorem opening_ext {a b : List UInt8} (hal : Al a b) (p : Nat) (x : Sp.Mk) (m : Nat) (h : Sp.opening p (60 :: a) = .ok (x, m)) : Sp.opening p (60 :: (a ++ b)) = .ok (x, m) := by
  rw [opening_eq] at h
  split at h
  · cases h
  · rename_i h0
    have hle := name_le (a.length + 1) true a
    have hlt : Sp.nameN (a.length + 1) true a < a.length := by
      rcases Nat.lt_or_ge (Sp.nameN (a.length + 1) true a) a.length with h1 | h1
      · exact h1
      · rw [List.drop_eq_nil_of_le h1] at h
        obtain ⟨f, hf⟩ := attrs_nil p (a.length + 1) (p + 1 + Sp.nameN (a.length + 1) true a) [] (1 + Sp.nameN (a.length + 1) true a)
        rw [hf] at h; cases h
    have e1 := name_ext hal hlt
    rw [opening_eq, e1, if_neg h0]
    generalize Sp.nameN (a.length + 1) true a = n at *
    split at h
    · cases h
    · rename_i az e m' hat
      rw [dap b (by omega), attrs_ext p b _ ((a ++ b).length + 1 + 1) _ _ _ _ az e m' (hal.drop n) (by rw [List.length_drop]; omega) (by rw [List.length_drop, List.length_append]; omega) hat]
      simp only
      rw [List.take_append_of_le_length (by omega)]
      exact h
theorem name_c {a : List UInt8} (h0 : Sp.nameN (a.length + 1) true a ≠ 0) : ∃ c t, a = c :: t ∧ c ≠ 33 ∧ c ≠ 47 := by
  cases a with
  | nil => exact absurd rfl h0
  | cons c t =>
    refine ⟨c, t, rfl, ?_, ?_⟩
    · rintro rfl
      rw [sp_nameN _ _ _ (by simp), if_neg (by simp [Sp.next]; decide)] at h0
      exact h0 rfl
    · rintro rfl
      rw [sp_nameN _ _ _ (by simp), if_neg (by simp [Sp.next]; decide)] at h0
      exact h0 rfl
theorem piece_ext {a b : List UInt8} (hal : Al a b) (hne : a ≠ []) (hb : b.head? = some 60) (p : Nat) (ms : List Sp.Mk) (n : Nat) (h : Sp.piece p a = .ok (ms, n)) : Sp.piece p (a ++ b) = .ok (ms, n) := by
  unfold Sp.piece at h
  by_cases h1 : [60, 33, 45, 45].isPrefixOf a = true
  · rw [if_pos h1] at h
    unfold Sp.piece
    rw [if_pos (prefix_more b h1)]
    split at h
    · cases h
    · rename_i i hi
      have h4 : 4 ≤ a.length := by
        have := (List.isPrefixOf_iff_prefix.1 h1).length_le
        simpa using this
      rw [dap b h4, find_ext _ _ _ _ hi]
      exact h
  · rw [if_neg h1] at h
    by_cases h2 : Sp.cdata9.isPrefixOf a = true
    · rw [if_pos h2] at h
      have h2' := prefix_more b h2
      have h1' : [60, 33, 45, 45].isPrefixOf (a ++ b) = true → False := fun hh => by
        obtain ⟨r, hr⟩ := List.isPrefixOf_iff_prefix.1 h2'
        rw [← hr] at hh
        simp [Sp.cdata9, List.isPrefixOf] at hh
      unfold Sp.piece
      rw [if_neg (fun hh => h1' hh), if_pos h2']
      split at h
      · cases h
      · rename_i i hi
        have h9 : 9 ≤ a.length := by
          have := (List.isPrefixOf_iff_prefix.1 h2).length_le
          simpa [Sp.cdata9] using this
        have hbd := find_bound _ _ _ hi
        rw [dap b h9, find_ext _ _ _ _ hi]
        simp only
        rw [List.take_append_of_le_length (by omega)]
        exact h
    · rw [if_neg h2] at h
      by_cases h3 : [60, 47].isPrefixOf a = true
      · rw [if_pos h3] at h
        obtain ⟨t, rfl⟩ := prefix_cons2 h3
        obtain ⟨y, hy1, hy2⟩ := map_ok h
        have hp : Sp.piece p (60 :: 47 :: t ++ b) = (Sp.closing p (60 :: 47 :: (t ++ b))).map fun r => ([r.1], r.2) := rfl
        rw [hp, closing_ext (a := t) (b := b) (hal.drop 2) p y.1 y.2 hy1]
        exact congrArg Except.ok hy2
      · rw [if_neg h3] at h
        by_cases h4 : [60].isPrefixOf a = true
        · rw [if_pos h4] at h
          obtain ⟨t, rfl⟩ := prefix_cons h4
          obtain ⟨y, hy1, hy2⟩ := map_ok h
          have h0 : Sp.nameN (t.length + 1) true t ≠ 0 := fun h0 => by
            rw [opening_eq, if_pos h0] at hy1; cases hy1
          obtain ⟨c, u, rfl, h33, h47⟩ := name_c h0
          have b33 : (33 == c) = false := by rw [beq_eq_false_iff_ne]; exact fun e => h33 e.symm
          have b47 : (47 == c) = false := by rw [beq_eq_false_iff_ne]; exact fun e => h47 e.symm
          have hp : Sp.piece p (60 :: c :: u ++ b) = (Sp.opening p (60 :: (c :: u ++ b))).map fun r => ([r.1], r.2) := by
            unfold Sp.piece Sp.cdata9
            rw [if_neg (by simp [List.isPrefixOf, b33]), if_neg (by simp [List.isPrefixOf, b33]), if_neg (by simp [List.isPrefixOf, b47]), if_pos (by simp [List.isPrefixOf])]
            rfl
          rw [hp, opening_ext (a := c :: u) (b := b) (hal.drop 1) p y.1 y.2 hy1]
          exact congrArg Except.ok hy2
        · rw [if_neg h4] at h
          obtain ⟨y, hy1, hy2⟩ := map_ok h
          cases a with
          | nil => exact absurd rfl hne
          | cons c t =>
            have hc : c ≠ 60 := by rintro rfl; exact h4 (by simp [List.isPrefixOf])
            rw [List.cons_append, piece_text p c (t ++ b) hc, ← List.cons_append]
            have := text_ext 60 false p b _ ((c :: t ++ b).length + 1) p (c :: t) [] 0 y.1 y.2 (Nat.lt_succ_self _) (by rw [List.length_append]; omega) hy1 (.inr hb)
            rw [this]
            exact congrArg Except.ok hy2
theorem pieces_ext (b : List UInt8) (hb : b.head? = some 60) : ∀ (k k' p : Nat) (a : List UInt8) (acc r : List Sp.Mk), Cs a → a.length < k → (a ++ b).length < k' → Sp.pieces k p a acc = .ok r →
    Sp.pieces k' p (a ++ b) acc = Sp.pieces k' (p + a.length) b r := by
  intro k
  induction k with
  | zero => intro k' p a acc r _ h; omega
  | succ k ih =>
    intro k' p a acc r hc hk hk' h
    cases a with
    | nil => injection h with h; subst h; rfl
    | cons c t =>
      obtain ⟨k', rfl⟩ : ∃ j, k' = j + 1 := ⟨k' - 1, by omega⟩
      unfold Sp.pieces at h
      cases hp : Sp.piece p (c :: t) with
      | error f => rw [hp] at h; cases h
      | ok x =>
        obtain ⟨ms, n⟩ := x
        rw [hp] at h
        simp only at h
        have hpos := sp_piece_pos _ _ _ _ _ hp
        have hfar := (piece_fd p c t).2 ms n hp
        have hle := hfar.1
        have hpe := piece_ext (hc.al b) (by simp) hb p ms n hp
        rw [List.length_append] at hk'
        rw [List.length_cons] at hk hk' hle
        have hih := ih k' (p + n) ((c :: t).drop n) (acc ++ ms) r (hc.side (hfar.2 hc)).2 (by rw [List.length_drop, List.length_cons]; omega) (by rw [List.length_append, List.length_drop, List.length_cons]; omega) h
        rw [List.cons_append] at hpe ⊢
        rw [Sp.pieces, hpe]
        simp only
        rw [← List.cons_append, dap b (by rw [List.length_cons]; omega), hih, List.length_drop, List.length_cons, show p + n + (t.length + 1 - n) = p + (t.length + 1) by omega]
        exact sp_pieces_fuel _ _ _ _ _ (by omega) (by omega)
end Go.Proofs.YtokdclmikllepaaGreatDoor
namespace Go.Proofs.YtokdclmikllepaaGreatDoor
set_option linter.unusedVariables false
set_option linter.unusedSimpArgs false

def zhead : List UInt8 := [60, 122, 32, 107, 61, 39, 49, 39, 62]
def ztail : List UInt8 := [60, 47, 122, 62]
def zmark : Sp.Mk := ⟨1, [122], [⟨[107], [49], 3⟩], false, [], 0⟩
theorem pieces_acc : ∀ (k p : Nat) (l : List UInt8) (acc : List Sp.Mk), Sp.pieces k p l acc = (Sp.pieces k p l []).map (acc ++ ·) := by
  intro k
  induction k with
  | zero => intro p l acc; cases l <;> simp [Sp.pieces, Except.map]
  | succ k ih =>
    intro p l acc
    cases l with
    | nil => simp [Sp.pieces, Except.map]
    | cons c t =>
      rw [Sp.pieces, Sp.pieces]
      cases Sp.piece p (c :: t) with
      | error f => rfl
      | ok x =>
        obtain ⟨ms, n⟩ := x
        simp only
        rw [ih, ih _ _ ([] ++ ms)]
        cases Sp.pieces k (p + n) ((c :: t).drop n) [] with
        | error f => rfl
        | ok r => simp [Except.map]
theorem piece_zhead (R : List UInt8) : Sp.piece 0 (zhead ++ R) = .ok ([zmark], 9) := by rfl
theorem piece_ztail (p : Nat) : Sp.piece p ztail = .ok ([⟨2, [122], [], false, [], p⟩], 4) := by rfl

/-- The marks of a document within a root. -/
theorem marks_turned (s : List UInt8) (ms : List Sp.Mk) (h : Sp.marks s = .ok ms) (hl : s.length ≤ 60000) (hx : ¬ (4 < s.length ∧ s.take 5 = Sp.xml5)) :
    ∃ p, Sp.marks (zhead ++ s ++ ztail) = .ok (zmark :: ms.map (shM 9) ++ [⟨2, [122], [], false, [], p⟩]) := by
  have hcs : Cs s := by
    unfold Sp.marks at h
    split at h
    · cases h
    · split at h
      · cases h
      · rename_i hb
        split at h
        · cases h
        · rename_i hc
          exact Cs.of_none _ _ _ _ hb hc
  rw [marks_cs s hcs (by omega) (prolog_none s hx)] at h
  have hcd : Cs (zhead ++ s ++ ztail) := cs_append (cs_append (cs_asc _ (by decide)) hcs) (cs_asc _ (by decide))
  have hpz : Sp.prolog (zhead ++ s ++ ztail) = .ok 0 := prolog_none _ (fun hh => by
    have := hh.2
    unfold Sp.xml5 zhead at this
    simp only [List.cons_append] at this
    rw [show (5 : Nat) = 3 + 1 + 1 from rfl, List.take_succ_cons, List.take_succ_cons] at this
    injection this with _ h1
    injection h1 with h1 _
    exact absurd h1 (by decide))
  have hlen : (zhead ++ s ++ ztail).length = s.length + 13 := by simp [zhead, ztail]
  refine ⟨9 + s.length, ?_⟩
  rw [marks_cs _ hcd (by omega) hpz, hlen]
  have e1 : Sp.pieces (s.length + 13 + 1) 0 (zhead ++ s ++ ztail) [] = Sp.pieces (s.length + 13) 9 (s ++ ztail) [zmark] := by
    have hz : zhead ++ s ++ ztail = 60 :: ([122, 32, 107, 61, 39, 49, 39, 62] ++ (s ++ ztail)) := by simp [zhead]
    have hp := piece_zhead (s ++ ztail)
    rw [show zhead ++ (s ++ ztail) = 60 :: ([122, 32, 107, 61, 39, 49, 39, 62] ++ (s ++ ztail)) from rfl] at hp
    rw [hz, Sp.pieces, hp]
    rfl
  have hsh := sh_pieces 9 (s.length + 1) 0 s []
  rw [h] at hsh
  have h9 : Sp.pieces (s.length + 1) 9 s [zmark] = .ok (zmark :: ms.map (shM 9)) := by
    rw [pieces_acc]
    have : Sp.pieces (s.length + 1) 9 s [] = .ok (ms.map (shM 9)) := by
      have := hsh
      simp only [List.map_nil, Nat.zero_add, shE] at this
      exact this
    rw [this]; rfl
  rw [e1, pieces_ext ztail rfl (s.length + 1) _ 9 s [zmark] _ hcs (by omega) (by rw [List.length_append]; simp [ztail]) h9]
  have hp := piece_ztail (9 + s.length)
  unfold ztail at hp ⊢
  rw [show s.length + 13 = s.length + 12 + 1 from rfl, Sp.pieces, hp]
  simp only
  rw [show ([60, 47, 122, 62] : List UInt8).drop 4 = [] from rfl, pieces_nil]

def shAE (a : Sp.EA) : Sp.EA := ⟨a.name, a.value, a.at_ + 9⟩
def shEl (x : Sp.EE) : Sp.EE := ⟨x.name, x.attrs.map shAE, x.text, x.up + 1, x.at_ + 9⟩
structure Zr (b c : Sp.Bd) : Prop where
  els : ∃ z : Sp.EE, c.1 = z :: b.1.map shEl ∧ z.name = [122] ∧ z.attrs.length = 1
  op : c.2 = 0 :: b.2.map (· + 1)
theorem last_map {op : List Nat} : (0 :: op.map (· + 1)).getLast? = some (match op.getLast? with | some i => i + 1 | none => 0) := by
  rcases List.eq_nil_or_concat op with rfl | ⟨o, k, rfl⟩
  · rfl
  · simp only [List.concat_eq_append, List.map_append, List.map_singleton, List.getLast?_concat]
    rw [← List.cons_append, List.getLast?_concat]
theorem upOf_map (op : List Nat) : Sp.upOf (0 :: op.map (· + 1)) = Sp.upOf op + 1 := by
  unfold Sp.upOf
  rw [last_map]
  cases op.getLast? <;> simp
theorem ea_sh (l : List Sp.At) : (l.map (shA 9)).map Sp.At.ea = (l.map Sp.At.ea).map shAE := by
  rw [List.map_map, List.map_map]
  congr 1
theorem twice_sh (l : List Sp.EA) : Sp.twice (l.map shAE) = Sp.twice l := twice_st _ _ _ _ (by rw [List.map_map]; rfl)
theorem modify_cons (z : Sp.EE) (l : List Sp.EE) (i : Nat) (t : List UInt8) : (z :: l.map shEl).modify (i + 1) (Sp.EE.more t) = z :: (l.modify i (Sp.EE.more t)).map shEl := by
  apply List.ext_getElem?
  intro k
  rw [List.getElem?_modify]
  cases k with
  | zero => simp
  | succ k =>
    rw [List.getElem?_cons_succ, List.getElem?_cons_succ, List.getElem?_map, List.getElem?_map, List.getElem?_modify]
    cases l[k]? with
    | none => rfl
    | some x =>
      simp only [Option.map_some, Nat.add_right_cancel_iff]
      split <;> rfl
theorem step_turned {b b' c : Sp.Bd} {m : Sp.Mk} (hz : Zr b c) (h : Sp.stepB b m = .ok b') :
    (∃ c', Sp.stepB c (shM 9 m) = .ok c' ∧ Zr b' c') ∨ ∃ p e, Sp.stepB c (shM 9 m) = .error (p, e) ∧ (e = 93 ∨ e = 94) := by
  obtain ⟨⟨z, hc1, hz1, hz2⟩, hc2⟩ := hz
  obtain ⟨C, D⟩ := c
  simp only at hc1 hc2
  subst hc1 hc2
  unfold Sp.stepB at h ⊢
  have hk : (shM 9 m).kind = m.kind := rfl
  rw [hk]
  split at h
  · rename_i h1
    rw [if_pos h1]
    obtain ⟨g1, g2, g3, g4, rfl⟩ := startB_ok h
    unfold Sp.startB
    rw [if_neg (by simp)]
    simp only
    split
    · exact .inr ⟨_, _, rfl, .inl rfl⟩
    · split
      · exact .inr ⟨_, _, rfl, .inr rfl⟩
      · have ht : Sp.twice ((shM 9 m).attrs.map Sp.At.ea) = none := by
          show Sp.twice ((m.attrs.map (shA 9)).map Sp.At.ea) = none
          rw [ea_sh, twice_sh, g4]
        rw [ht]
        refine .inl ⟨_, rfl, ⟨z, ?_, hz1, hz2⟩, ?_⟩
        · simp only [List.map_append, List.map_singleton, List.cons_append]
          congr 2
          show [_] = [_]
          congr 1
          show (⟨m.name, (m.attrs.map (shA 9)).map Sp.At.ea, [], _, ((m.at_ + 9 : Nat) : Int)⟩ : Sp.EE) = _
          rw [ea_sh, upOf_map]
          rfl
        · show (if m.empty = true then _ else _) = _
          simp only
          split
          · rfl
          · simp
  · rename_i h1
    rw [if_neg h1]
    split at h
    · rename_i h2
      rw [if_pos h2]
      unfold Sp.endB at h
      cases hl : b.2.getLast? with
      | none => rw [hl] at h; cases h
      | some i =>
        rw [hl] at h
        simp only at h
        split at h
        · rename_i hn
          injection h with h
          subst h
          refine .inl ⟨(z :: b.1.map shEl, (0 :: b.2.map (· + 1)).dropLast), ?_, ⟨z, rfl, hz1, hz2⟩, ?_⟩
          · unfold Sp.endB
            simp only
            rw [last_map, hl]
            simp only
            rw [if_pos]
            rw [List.getElem?_cons_succ, List.getElem?_map, Option.map_map]
            exact hn
          · rcases List.eq_nil_or_concat b.2 with hb | ⟨o, k, hb⟩
            · rw [hb] at hl; cases hl
            · simp only
              rw [hb]
              simp only [List.concat_eq_append, List.map_append, List.map_singleton, List.dropLast_concat]
              rw [← List.cons_append, List.dropLast_concat]
        · cases h
    · rename_i h2
      rw [if_neg h2]
      unfold Sp.textB at h
      have hmt : (shM 9 m).text = m.text := rfl
      cases hl : b.2.getLast? with
      | some i =>
        rw [hl] at h
        simp only at h
        injection h with h
        subst h
        refine .inl ⟨((z :: b.1.map shEl).modify (i + 1) (Sp.EE.more m.text), 0 :: b.2.map (· + 1)), ?_, ⟨z, ?_, hz1, hz2⟩, rfl⟩
        · unfold Sp.textB
          simp only
          rw [last_map, hl, hmt]
        · simp only
          rw [modify_cons]
      | none =>
        rw [hl] at h
        simp only at h
        split at h
        · injection h with h
          subst h
          refine .inl ⟨((z :: b.1.map shEl).modify 0 (Sp.EE.more m.text), 0 :: b.2.map (· + 1)), ?_, ⟨Sp.EE.more m.text z, ?_, hz1, hz2⟩, rfl⟩
          · unfold Sp.textB
            simp only
            rw [last_map, hl, hmt]
          · simp
        · cases h
theorem run_turned : ∀ (ms : List Sp.Mk) (b b' c : Sp.Bd), Zr b c → Sp.runB b ms = .ok b' → ∀ rest,
    (∃ c', Sp.runB c (ms.map (shM 9) ++ rest) = Sp.runB c' rest ∧ Zr b' c') ∨ ∃ p e, Sp.runB c (ms.map (shM 9) ++ rest) = .error (p, e) ∧ (e = 93 ∨ e = 94) := by
  intro ms
  induction ms with
  | nil => intro b b' c hz h rest; injection h with h; subst h; exact .inl ⟨c, rfl, hz⟩
  | cons m t ih =>
    intro b b' c hz h rest
    rw [Sp.runB] at h
    rw [List.map_cons, List.cons_append, Sp.runB]
    cases hs : Sp.stepB b m with
    | error f => rw [hs] at h; cases h
    | ok b1 =>
      rw [hs] at h
      rcases step_turned hz hs with ⟨c1, h1, h2⟩ | ⟨p, e, h1, h2⟩
      · rw [h1]
        exact ih b1 b' c1 h2 h rest
      · rw [h1]
        exact .inr ⟨p, e, rfl, h2⟩
/-- A document that is read, within another root. -/
theorem turned_law (s : List UInt8) (l : List Sp.EE) (h : Sp.parse s = .ok l) (hl : s.length ≤ 60000) (hx : ¬ (4 < s.length ∧ s.take 5 = Sp.xml5)) :
    (∃ z : Sp.EE, Sp.parse (zhead ++ s ++ ztail) = .ok (z :: l.map shEl) ∧ z.name = [122] ∧ z.attrs.length = 1) ∨ ∃ p e, Sp.parse (zhead ++ s ++ ztail) = .error (p, e) ∧ (e = 93 ∨ e = 94) := by
  obtain ⟨ms, b, hm, hb, rfl, hop, hne⟩ := parse_ok h
  obtain ⟨p, hmk⟩ := marks_turned s ms hm hl hx
  unfold Sp.parse
  rw [hmk]
  simp only
  have h0 : Sp.runB ([], []) (zmark :: ms.map (shM 9) ++ [⟨2, [122], [], false, [], p⟩]) = Sp.runB ([⟨[122], [⟨[107], [49], 3⟩], [], -1, 0⟩], [0]) (ms.map (shM 9) ++ [⟨2, [122], [], false, [], p⟩]) := rfl
  rw [h0]
  have hz0 : Zr ([], []) ([⟨[122], [⟨[107], [49], 3⟩], [], -1, 0⟩], [0]) := ⟨⟨_, rfl, rfl, rfl⟩, rfl⟩
  rcases run_turned ms _ b _ hz0 hb [⟨2, [122], [], false, [], p⟩] with ⟨c', h1, ⟨z, hc1, hz1, hz2⟩, hc2⟩ | ⟨q, e, h1, h2⟩
  · left
    rw [h1]
    obtain ⟨C, D⟩ := c'
    simp only at hc1 hc2
    rw [hop] at hc2
    subst hc1 hc2
    refine ⟨z, ?_, hz1, hz2⟩
    have hs : Sp.runB (z :: b.1.map shEl, 0 :: List.map (· + 1) []) [⟨2, [122], [], false, [], p⟩] = .ok (z :: b.1.map shEl, []) := by
      have := runB_end (E := z :: b.1.map shEl) (base := []) (k := 0) (p := p) (nm := [122]) [] (by simp [hz1])
      exact this
    rw [hs]
    rfl
  · right
    rw [h1]
    exact ⟨q, e, rfl, h2⟩
end Go.Proofs.YtokdclmikllepaaGreatDoor
namespace Go.Proofs.YtokdclmikllepaaGreatDoor
set_option linter.unusedVariables false
set_option linter.unusedSimpArgs false

def rept (w : List UInt8) : Nat → List UInt8
  | 0 => []
  | n + 1 => rept w n ++ w
def lvl (d : Nat) : List UInt8 := rept [60, 97, 62] d ++ rept [60, 47, 97, 62] d
/-- How a document's reading ends: how many elements, or the fault. -/
def lenOf : Except Sp.Flt (List Sp.EE) → Bool × Nat × Nat
  | .error f => (false, f.1, f.2)
  | .ok l => (true, l.length, 0)
theorem lenOf_ok {x : Except Sp.Flt (List Sp.EE)} {n : Nat} (h : lenOf x = (true, n, 0)) : ∃ l, x = .ok l ∧ l.length = n := by
  cases x with
  | error f => injection h with h _; cases h
  | ok l => injection h with _ h; injection h with h _; exact ⟨l, rfl, h⟩
theorem lenOf_error {x : Except Sp.Flt (List Sp.EE)} {p c : Nat} (h : lenOf x = (false, p, c)) : x = .error (p, c) := by
  cases x with
  | error f => injection h with _ h; injection h with h1 h2; subst h1 h2; rfl
  | ok l => injection h with h _; cases h
set_option maxRecDepth 100000 in
theorem deep_levels : ∀ d, d < 20 → lenOf (Sp.parse (lvl d)) = if d = 0 then (false, 0, 95) else if 16 < d then (false, 48, 93) else (true, d, 0) := by decide +kernel

theorem rept_cons (w : List UInt8) : ∀ n, rept w (n + 1) = w ++ rept w n := by
  intro n
  induction n with
  | zero => simp [rept]
  | succ n ih =>
    have : rept w (n + 1 + 1) = rept w (n + 1) ++ w := rfl
    rw [this, ih, List.append_assoc, ← rept, ih]
theorem rept_len (w : List UInt8) : ∀ n, (rept w n).length = n * w.length := by
  intro n
  induction n with
  | zero => simp [rept]
  | succ n ih => rw [rept, List.length_append, ih, Nat.succ_mul]
def me (p : Nat) : Sp.Mk := ⟨1, [101], [], true, [], p⟩
def mes : Nat → Nat → List Sp.Mk
  | _, 0 => []
  | p, n + 1 => me p :: mes (p + 4) n
theorem piece_e (p : Nat) (R : List UInt8) : Sp.piece p ([60, 101, 47, 62] ++ R) = .ok ([me p], 4) := by rfl
theorem piece_r (R : List UInt8) : Sp.piece 0 ([60, 114, 62] ++ R) = .ok ([⟨1, [114], [], false, [], 0⟩], 3) := by rfl
theorem piece_rr (p : Nat) (R : List UInt8) : Sp.piece p ([60, 47, 114, 62] ++ R) = .ok ([⟨2, [114], [], false, [], p⟩], 4) := by rfl
theorem mes_go (R : List UInt8) : ∀ n p, Goes p (rept [60, 101, 47, 62] n) R (mes p n) := by
  intro n
  induction n with
  | zero => intro p; exact Goes.nil _ _
  | succ n ih =>
    intro p
    rw [rept_cons]
    have h1 : Goes p [60, 101, 47, 62] (rept [60, 101, 47, 62] n ++ R) [me p] := Goes.piece (by simp) (piece_e p _)
    exact h1.trans (ih (p + 4))
theorem run_mes : ∀ (n p : Nat) (E : List Sp.EE) (rest : List Sp.Mk), E ≠ [] →
    (E.length + n ≤ 4096 → ∃ F : List Sp.EE, F.length = n ∧ Sp.runB (E, [0]) (mes p n ++ rest) = Sp.runB (E ++ F, [0]) rest) ∧
    (4096 < E.length + n → E.length ≤ 4096 → Sp.runB (E, [0]) (mes p n ++ rest) = .error (p + 4 * (4096 - E.length), 94)) := by
  intro n
  induction n with
  | zero => intro p E rest hE; exact ⟨fun _ => ⟨[], rfl, by rw [List.append_nil]; rfl⟩, fun h1 h2 => by omega⟩
  | succ n ih =>
    intro p E rest hE
    have hs : E.length < 4096 → Sp.stepB (E, [0]) (me p) = .ok (E ++ [⟨[101], [], [], 0, p⟩], [0]) := fun h => by
      unfold Sp.stepB me
      rw [if_pos rfl]
      unfold Sp.startB
      rw [if_neg (by simp), if_neg (by simp), if_neg (by simp only; omega)]
      rfl
    have hf : 4096 ≤ E.length → Sp.stepB (E, [0]) (me p) = .error (p, 94) := fun h => by
      unfold Sp.stepB me
      rw [if_pos rfl]
      unfold Sp.startB
      rw [if_neg (by simp), if_neg (by simp), if_pos (by simp only; omega)]
    obtain ⟨i1, i2⟩ := ih (p + 4) (E ++ [⟨[101], [], [], 0, p⟩]) rest (by simp)
    rw [List.length_append, List.length_singleton] at i1 i2
    rw [mes, List.cons_append, Sp.runB]
    refine ⟨fun h => ?_, fun h1 h2 => ?_⟩
    · rw [hs (by omega)]
      obtain ⟨F, hF, hr⟩ := i1 (by omega)
      exact ⟨⟨[101], [], [], 0, p⟩ :: F, by rw [List.length_cons, hF], by rw [← List.append_cons] at hr; exact hr⟩
    · rcases Nat.lt_or_ge E.length 4096 with hlt | hge
      · rw [hs hlt]
        simp only
        rw [i2 (by omega) (by omega)]
        congr 2
        omega
      · rw [hf hge]
        simp only
        congr 2
        omega
def manyD (k : Nat) : List UInt8 := [60, 114, 62] ++ rept [60, 101, 47, 62] (k - 1) ++ [60, 47, 114, 62]
theorem cs_rept : ∀ n, Cs (rept [60, 101, 47, 62] n) := by
  intro n
  induction n with
  | zero => exact .nil
  | succ n ih => exact cs_append ih (cs_asc _ (by decide))
theorem deep_many (k : Nat) (h1 : 4090 ≤ k) (h2 : k ≤ 4097) : lenOf (Sp.parse (manyD k)) = if 4096 < k then (false, 3 + 4 * 4095, 94) else (true, k, 0) := by
  have hcs : Cs (manyD k) := cs_append (cs_append (cs_asc _ (by decide)) (cs_rept _)) (cs_asc _ (by decide))
  have hlen : (manyD k).length = 3 + (k - 1) * 4 + 4 := by
    unfold manyD
    rw [List.length_append, List.length_append, rept_len]; rfl
  have hpro : Sp.prolog (manyD k) = .ok 0 := prolog_none _ (fun hh => by
    have := hh.2
    unfold Sp.xml5 manyD at this
    simp only [List.cons_append] at this
    rw [show (5 : Nat) = 3 + 1 + 1 from rfl, List.take_succ_cons, List.take_succ_cons] at this
    injection this with _ h1
    injection h1 with h1 _
    exact absurd h1 (by decide))
  have hgo : Goes 0 (manyD k) [] (([⟨1, [114], [], false, [], 0⟩] ++ mes 3 (k - 1)) ++ [⟨2, [114], [], false, [], 3 + (k - 1) * 4⟩]) := by
    unfold manyD
    have g1 : Goes 0 [60, 114, 62] (rept [60, 101, 47, 62] (k - 1) ++ ([60, 47, 114, 62] ++ [])) [⟨1, [114], [], false, [], 0⟩] := Goes.piece (by simp) (piece_r _)
    have g2 := g1.trans (mes_go ([60, 47, 114, 62] ++ []) (k - 1) _)
    refine g2.trans (Goes.piece (by simp) ?_)
    have := piece_rr (3 + (k - 1) * 4) []
    rw [Nat.zero_add, List.length_append, rept_len]
    exact this
  have hmk : Sp.marks (manyD k) = .ok (⟨1, [114], [], false, [], 0⟩ :: (mes 3 (k - 1) ++ [⟨2, [114], [], false, [], 3 + (k - 1) * 4⟩])) := by
    rw [marks_cs _ hcs (by omega) hpro]
    have := hgo ((manyD k).length + 1) [] (by simp)
    rw [List.append_nil] at this
    rw [this, pieces_nil]
    simp
  unfold Sp.parse
  rw [hmk]
  simp only
  have h0 : Sp.runB ([], []) (⟨1, [114], [], false, [], 0⟩ :: (mes 3 (k - 1) ++ [⟨2, [114], [], false, [], 3 + (k - 1) * 4⟩])) = Sp.runB ([⟨[114], [], [], -1, 0⟩], [0]) (mes 3 (k - 1) ++ [⟨2, [114], [], false, [], 3 + (k - 1) * 4⟩]) := rfl
  rw [h0]
  have hb1 : ¬ 4096 < k → 1 + (k - 1) ≤ 4096 := fun h => by omega
  have hb2 : 4096 < k → 4096 < 1 + (k - 1) := fun h => by omega
  have hb3 : ¬ 4096 < k → 1 + (k - 1) = k := fun h => by omega
  clear h2
  obtain ⟨r1, r2⟩ := run_mes (k - 1) 3 [⟨[114], [], [], -1, 0⟩] [⟨2, [114], [], false, [], 3 + (k - 1) * 4⟩] (by simp)
  rw [List.length_singleton] at r1 r2
  by_cases hk : 4096 < k
  · rw [if_pos hk, r2 (hb2 hk) (by decide)]
    rfl
  · rw [if_neg hk]
    obtain ⟨F, hF, hr⟩ := r1 (hb1 hk)
    rw [hr]
    have hs : Sp.runB ([⟨[114], [], [], -1, 0⟩] ++ F, [0]) [⟨2, [114], [], false, [], 3 + (k - 1) * 4⟩] = .ok ([⟨[114], [], [], -1, 0⟩] ++ F, []) := by
      have := runB_end (E := [⟨[114], [], [], -1, 0⟩] ++ F) (base := []) (k := 0) (p := 3 + (k - 1) * 4) (nm := [114]) [] (by simp)
      exact this
    rw [hs]
    show lenOf (.ok ([⟨[114], [], [], -1, 0⟩] ++ F)) = _
    simp only [lenOf, List.length_append, List.length_singleton, hF]
    rw [hb3 hk]
end Go.Proofs.YtokdclmikllepaaGreatDoor
