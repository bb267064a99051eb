import Derived.Test.YtokdclmikllepaaDoorPx
/-
  Plain laws of Sp: the document up to a fault's place has no fault but one that isn't ended.
-/
namespace Go.Proofs.YtokdclmikllepaaDoor
set_option linter.unusedVariables false
set_option linter.unusedSimpArgs false

theorem stop_at {fr q r c : Nat} {l : List UInt8} (h : Sp.stop fr q l = (r, c)) (hc : c ≠ 84) : q = r := by
  unfold Sp.stop at h
  split at h
  · injection h with h1 h2; exact absurd h2.symm hc
  · injection h with h1 h2
theorem dap {a : List UInt8} (b : List UInt8) {i : Nat} (h : i ≤ a.length) : (a ++ b).drop i = a.drop i ++ b := List.drop_append_of_le_length h
theorem head_app {u b : List UInt8} {c : UInt8} (h : (u ++ b).head? ≠ some c) : u.head? ≠ some c := by
  cases u with
  | nil => simp
  | cons x u => exact h
theorem cons_app {u b t : List UInt8} {c : UInt8} (h : u ++ b = c :: t) (hu : 0 < u.length) : ∃ t', u = c :: t' ∧ t = t' ++ b := by
  cases u with
  | nil => exact absurd hu (by simp)
  | cons x u => injection h with h1 h2; exact ⟨u, by rw [h1], h2.symm⟩
theorem nil_of_len {a : List UInt8} (h : a.length = 0) : a = [] := List.eq_nil_of_length_eq_zero h

theorem cut_attr {a b : List UInt8} (hal : Al a b) (fr p : Nat) :
    (∀ c, c ≠ 84 → Sp.attr fr p (a ++ b) = .error (p + a.length, c) → Sp.attr fr p a = .error (fr, 84)) ∧
    (∀ x m, Sp.attr fr p (a ++ b) = .ok (x, m) → m ≤ a.length → Sp.attr fr p a = .ok (x, m)) := by
  obtain ⟨n, hn⟩ : ∃ n, Sp.nameN ((a ++ b).length + 1) true (a ++ b) = n := ⟨_, rfl⟩
  have hna := cut_name b (a.length + 1) ((a ++ b).length + 1) true a hal (by omega) (by omega)
  rw [hn] at hna
  by_cases h0 : n = 0
  · rw [attr_zero (h0 ▸ hn)]
    refine ⟨fun c hc h => ?_, fun x m h => (nomatch h)⟩
    injection h with h
    have := stop_at h hc
    have := nil_of_len (show a.length = 0 by omega)
    subst this
    rfl
  · obtain ⟨b1, hb1⟩ : ∃ x, Sp.blanksN ((a ++ b).drop n) = x := ⟨_, rfl⟩
    -- the name and the white behind it, cut
    have key : n + b1 ≤ a.length → Sp.nameN (a.length + 1) true a = n ∧ Sp.blanksN (a.drop n) = b1 ∧ (a.drop n).drop b1 ++ b = ((a ++ b).drop n).drop b1 := fun h => by
      have h1 : Sp.nameN (a.length + 1) true a = n := by rw [hna]; omega
      have h2 := cut_blanks (a.drop n) b
      rw [← dap b (show n ≤ a.length by omega), hb1, List.length_drop] at h2
      refine ⟨h1, by omega, ?_⟩
      rw [dap b (show n ≤ a.length by omega), dap b (by rw [List.length_drop]; omega)]
    by_cases hh : (((a ++ b).drop n).drop b1).head? = some 61
    · obtain ⟨l3, h3⟩ := sp_head_cons hh
      obtain ⟨b2, hb2⟩ : ∃ x, Sp.blanksN l3 = x := ⟨_, rfl⟩
      obtain ⟨l4, h4⟩ : ∃ x, l3.drop b2 = x := ⟨_, rfl⟩
      rw [attr_more hn h0 hb1 h3 hb2 h4]
      -- the equals sign, cut
      have key2 : n + b1 + 1 ≤ a.length → ∃ u, (a.drop n).drop b1 = 61 :: u ∧ l3 = u ++ b ∧ u.length = a.length - (n + b1 + 1) := fun h => by
        obtain ⟨k1, k2, k3⟩ := key (by omega)
        rw [h3] at k3
        obtain ⟨u, hu, hu2⟩ := cons_app k3 (by rw [List.length_drop, List.length_drop]; omega)
        refine ⟨u, hu, hu2, ?_⟩
        have := congrArg List.length hu
        rw [List.length_drop, List.length_drop, List.length_cons] at this; omega
      have key3 : n + b1 + 1 + b2 ≤ a.length → ∃ u, (a.drop n).drop b1 = 61 :: u ∧ Sp.blanksN u = b2 ∧ u.drop b2 ++ b = l4 ∧ u.length = a.length - (n + b1 + 1) := fun h => by
        obtain ⟨u, hu, hu2, hu3⟩ := key2 (by omega)
        have h2 := cut_blanks u b
        rw [← hu2, hb2] at h2
        refine ⟨u, hu, by omega, ?_, hu3⟩
        rw [← h4, hu2, dap b (by omega)]
      cases l4 with
      | nil =>
        refine ⟨fun c hc h => ?_, fun x m h => (nomatch h)⟩
        injection h with h
        injection h with h1 h2
        exact absurd h2.symm hc
      | cons e l5 =>
        unfold attrTail
        simp only
        by_cases he : e = 34 ∨ e = 39
        · rw [if_pos he]
          have he128 : e.toNat < 128 := by rcases he with rfl | rfl <;> decide
          have key4 : n + b1 + 1 + b2 + 1 ≤ a.length → ∃ v, Sp.attr fr p a = attrTail fr p n (n + b1 + 1 + b2) (a.take n) (p + n + b1 + 1 + b2) (e :: v) ∧ l5 = v ++ b ∧ v.length = a.length - (n + b1 + 1 + b2 + 1) := fun h => by
            obtain ⟨k1, k2, k3⟩ := key (by omega)
            obtain ⟨u, hu, hu2, hu3, hu4⟩ := key3 (by omega)
            obtain ⟨v, hv, hv2⟩ := cons_app hu3 (by rw [List.length_drop]; omega)
            refine ⟨v, attr_more k1 h0 k2 hu hu2 hv, hv2, ?_⟩
            have := congrArg List.length hv
            rw [List.length_drop, List.length_cons] at this; omega
          cases ht : Sp.text e true fr (l5.length + 1) (p + n + b1 + 1 + b2 + 1) l5 [] 0 with
          | error f0 =>
            refine ⟨fun c hc h => ?_, fun x m h => (nomatch h)⟩
            injection h with h
            subst h
            have hb := (text_fd e true fr he128 _ _ _ _ _).1 _ ht
            rcases hb.1 with h5 | h5
            · exact absurd (congrArg Prod.snd h5) hb.2
            · have h6 := h5.1
              simp only at h6
              obtain ⟨v, hv, hv2, hv3⟩ := key4 (by omega)
              have := (cut_text e true fr fr he128 b (l5.length + 1) (v.length + 1) (p + n + b1 + 1 + b2 + 1) v [] 0 (by omega)).1 c (by
                rw [← hv2, hv3, show p + n + b1 + 1 + b2 + 1 + (a.length - (n + b1 + 1 + b2 + 1)) = p + a.length by omega]; exact ht)
              obtain ⟨x, hx⟩ := this
              rw [hv]
              unfold attrTail
              simp only
              rw [if_pos he, hx]
              simp only
              rw [if_pos (by rw [Nat.zero_add]; exact List.drop_length)]
          | ok r =>
            obtain ⟨x0, m0⟩ := r
            simp only
            by_cases hd : l5.drop m0 = []
            · rw [if_pos hd]
              refine ⟨fun c hc h => ?_, fun x m h => (nomatch h)⟩
              injection h with h
              injection h with h1 h2
              exact absurd h2.symm hc
            · rw [if_neg hd]
              refine ⟨fun c hc h => (nomatch h), fun x m h hm => ?_⟩
              injection h with h
              injection h with h1 h2
              obtain ⟨v, hv, hv2, hv3⟩ := key4 (by omega)
              have := (cut_text e true fr fr he128 b (l5.length + 1) (v.length + 1) (p + n + b1 + 1 + b2 + 1) v [] 0 (by omega)).2 x0 m0 (by
                rw [← hv2, Nat.zero_add]; exact ht) (by omega) (by rw [← hv2]; omega)
              rw [Nat.zero_add] at this
              rw [hv]
              unfold attrTail
              simp only
              rw [if_pos he, this]
              simp only
              rw [if_neg, ← h1, ← h2, List.take_append_of_le_length (by omega)]
              intro h6
              have := List.drop_eq_nil_iff.1 h6
              omega
        · rw [if_neg he]
          refine ⟨fun c hc h => ?_, fun x m h => (nomatch h)⟩
          injection h with h
          injection h with h1 h2
          obtain ⟨k1, k2, k3⟩ := key (by omega)
          obtain ⟨u, hu, hu2, hu3, hu4⟩ := key3 (by omega)
          rw [attr_more k1 h0 k2 hu hu2 rfl]
          have : u.drop b2 = [] := List.drop_eq_nil_of_le (by omega)
          rw [this]
          rfl
    · rw [attr_none hn h0 hb1 rfl hh]
      refine ⟨fun c hc h => ?_, fun x m h => (nomatch h)⟩
      injection h with h
      have := stop_at h hc
      obtain ⟨k1, k2, k3⟩ := key (by omega)
      have hnil : (a.drop n).drop b1 = [] := List.drop_eq_nil_of_le (by rw [List.length_drop]; omega)
      rw [attr_none k1 h0 k2 hnil (by simp)]
      rfl

theorem cut_attrs (fr : Nat) (b : List UInt8) : ∀ (k k' p : Nat) (a : List UInt8) (acc : List Sp.At) (n : Nat), Al a b → a.length < k' →
    (∀ c, c ≠ 84 → Sp.attrs fr k p (a ++ b) acc n = .error (p + a.length, c) → Sp.attrs fr k' p a acc n = .error (fr, 84)) ∧
    (∀ as e j, Sp.attrs fr k p (a ++ b) acc n = .ok (as, e, n + j) → j ≤ a.length → (a ++ b).length < k → Sp.attrs fr k' p a acc n = .ok (as, e, n + j)) := by
  intro k
  induction k with
  | zero => intro k' p a acc n _ _; exact ⟨fun c hc h => (nomatch h), fun as e j h _ hk => absurd hk (by omega)⟩
  | succ k ih =>
    intro k' p a acc n hal hk'
    cases k' with
    | zero => omega
    | succ k' =>
      rw [attrs_in, attrs_in]
      have hba := cut_blanks a b
      obtain ⟨b1, hb1⟩ : ∃ x, Sp.blanksN (a ++ b) = x := ⟨_, rfl⟩
      rw [hb1] at hba ⊢
      have key : b1 ≤ a.length → Sp.blanksN a = b1 ∧ (a ++ b).drop b1 = a.drop b1 ++ b := fun h => ⟨by omega, dap b h⟩
      by_cases h62 : ((a ++ b).drop b1).head? = some 62
      · obtain ⟨t, ht⟩ := sp_head_cons h62
        rw [ht, in_gt]
        refine ⟨fun c hc h => (nomatch h), fun as e j h hj hk => ?_⟩
        injection h with h; injection h with h1 h2; injection h2 with h2 h3
        obtain ⟨k1, k2⟩ := key (by omega)
        rw [k2] at ht
        obtain ⟨t', hu, _⟩ := cons_app ht (by rw [List.length_drop]; omega)
        rw [k1, hu, in_gt, ← h1, ← h2, ← h3]
      · by_cases h47 : ((a ++ b).drop b1).head? = some 47
        · obtain ⟨t, ht⟩ := sp_head_cons h47
          have key2 : b1 + 1 ≤ a.length → ∃ u, a.drop b1 = 47 :: u ∧ t = u ++ b ∧ u.length = a.length - (b1 + 1) := fun h => by
            obtain ⟨k1, k2⟩ := key (by omega)
            have ht := ht
            rw [k2] at ht
            obtain ⟨u, hu, hu2⟩ := cons_app ht (by rw [List.length_drop]; omega)
            refine ⟨u, hu, hu2, ?_⟩
            have := congrArg List.length hu
            rw [List.length_drop, List.length_cons] at this; omega
          rw [ht]
          by_cases h2 : t.head? = some 62
          · obtain ⟨t2, h22⟩ := sp_head_cons h2
            rw [h22, in_sl_gt]
            refine ⟨fun c hc h => (nomatch h), fun as e j h hj hk => ?_⟩
            injection h with h; injection h with h1 h3; injection h3 with h3 h4
            obtain ⟨u, hu, hu2, hu3⟩ := key2 (by omega)
            rw [h22] at hu2
            obtain ⟨v, hv, _⟩ := cons_app hu2.symm (by omega)
            rw [(key (by omega)).1, hu, hv, in_sl_gt, ← h1, ← h3, ← h4]
          · rw [in_sl_no _ _ _ _ _ _ _ _ h2]
            refine ⟨fun c hc h => ?_, fun as e j h => (nomatch h)⟩
            injection h with h
            have := stop_at h hc
            obtain ⟨u, hu, hu2, hu3⟩ := key2 (by omega)
            have := nil_of_len (show u.length = 0 by omega)
            subst this
            rw [(key (by omega)).1, hu, in_sl_no _ _ _ _ _ _ _ _ (by simp)]
            rfl
        · by_cases hb0 : b1 = 0
          · subst hb0
            rw [in_gap _ _ _ _ _ _ _ h62 h47]
            refine ⟨fun c hc h => ?_, fun as e j h => (nomatch h)⟩
            injection h with h
            have := stop_at h hc
            have := nil_of_len (show a.length = 0 by omega)
            subst this
            rfl
          · rw [in_attr _ _ _ _ _ _ _ _ h62 h47 hb0]
            have hfd := attr_fd fr (p + b1) ((a ++ b).drop b1)
            have key2 : b1 ≤ a.length → attrsIn fr k' p a acc n (Sp.blanksN a) (a.drop (Sp.blanksN a)) = match Sp.attr fr (p + b1) (a.drop b1) with
                | .error f => .error f
                | .ok (x, m) => Sp.attrs fr k' (p + b1 + m) ((a.drop b1).drop m) (acc ++ [x]) (n + b1 + m) := fun h => by
              obtain ⟨k1, k2⟩ := key h
              rw [k2] at h62 h47
              rw [k1, in_attr _ _ _ _ _ _ _ _ (head_app h62) (head_app h47) hb0]
              rfl
            cases hat : Sp.attr fr (p + b1) ((a ++ b).drop b1) with
            | error f0 =>
              refine ⟨fun c hc h => ?_, fun as e j h => (nomatch h)⟩
              injection h with h
              subst h
              rcases hfd.1 _ hat with h5 | h5
              · exact absurd (congrArg Prod.snd h5) hc
              · have h6 := h5.1
                simp only at h6
                rw [key2 (by omega)]
                rw [(key (by omega)).2] at hat
                have := (cut_attr (hal.drop b1) fr (p + b1)).1 c hc (by rw [List.length_drop, show p + b1 + (a.length - b1) = p + a.length by omega]; exact hat)
                rw [this]
            | ok r =>
              obtain ⟨x0, m0⟩ := r
              have hm0 := hfd.2 _ _ hat
              have hm1 := hm0.1.1
              rw [List.length_drop] at hm1
              simp only
              have hdd : b1 + m0 ≤ a.length → ((a ++ b).drop b1).drop m0 = (a.drop b1).drop m0 ++ b := fun h => by
                rw [(key (by omega)).2, dap b (by rw [List.length_drop]; omega)]
              refine ⟨fun c hc h => ?_, fun as e j h hj hk => ?_⟩
              · rcases (attrs_fd fr k _ _ _ _).1 _ h with h5 | h5
                · exact absurd (congrArg Prod.snd h5) hc
                · have h6 := h5.1
                  simp only at h6
                  rw [key2 (by omega)]
                  rw [(key (by omega)).2] at hat
                  rw [(cut_attr (hal.drop b1) fr (p + b1)).2 x0 m0 hat (by rw [List.length_drop]; omega)]
                  simp only
                  rw [hdd (by omega)] at h
                  refine (ih k' _ _ _ _ ((hal.drop b1).drop m0) (by rw [List.length_drop, List.length_drop]; omega)).1 c hc ?_
                  rw [List.length_drop, List.length_drop, show p + b1 + m0 + (a.length - b1 - m0) = p + a.length by omega]
                  exact h
              · obtain ⟨j', h1, h2⟩ := (attrs_fd fr k _ _ _ _).2 _ _ _ h
                rw [key2 (by omega)]
                rw [(key (by omega)).2] at hat
                rw [(cut_attr (hal.drop b1) fr (p + b1)).2 x0 m0 hat (by rw [List.length_drop]; omega)]
                simp only
                rw [hdd (by omega)] at h
                have := (ih k' _ _ _ _ ((hal.drop b1).drop m0) (by rw [List.length_drop, List.length_drop]; omega)).2 as e j' (h1 ▸ h) (by rw [List.length_drop, List.length_drop]; omega) (by
                  rw [List.length_append] at hk
                  rw [List.length_append, List.length_drop, List.length_drop]; omega)
                rw [h1]; exact this

theorem cut_opening {t b : List UInt8} (hal : Al (60 :: t) b) (p : Nat) :
    (∀ c, c ≠ 84 → Sp.opening p (60 :: t ++ b) = .error (p + (60 :: t).length, c) → Sp.opening p (60 :: t) = .error (p, 84)) ∧
    (∀ x m, Sp.opening p (60 :: t ++ b) = .ok (x, m) → m ≤ (60 :: t).length → Sp.opening p (60 :: t) = .ok (x, m)) := by
  have hal1 : Al t b := hal.drop 1
  have hna := cut_name b (t.length + 1) ((t ++ b).length + 1) true t hal1 (by omega) (by omega)
  unfold Sp.opening
  simp only [List.cons_append, List.drop_succ_cons, List.drop_zero, List.length_cons]
  obtain ⟨n, hn⟩ : ∃ n, Sp.nameN ((t ++ b).length + 1) true (t ++ b) = n := ⟨_, rfl⟩
  rw [hn] at hna ⊢
  by_cases h0 : n = 0
  · rw [if_pos h0]
    refine ⟨fun c hc h => ?_, fun x m h => (nomatch h)⟩
    injection h with h
    have := stop_at h hc
    have := nil_of_len (show t.length = 0 by omega)
    subst this
    rfl
  · rw [if_neg h0]
    cases ha : Sp.attrs p ((t ++ b).length + 1 + 1) (p + 1 + n) ((t ++ b).drop n) [] (1 + n) with
    | error f0 =>
      refine ⟨fun c hc h => ?_, fun x m h => (nomatch h)⟩
      injection h with h
      subst h
      rcases (attrs_fd p _ _ _ _ _).1 _ ha with h5 | h5
      · exact absurd (congrArg Prod.snd h5) hc
      · have h6 := h5.1
        simp only at h6
        have hna2 : Sp.nameN (t.length + 1) true t = n := by omega
        rw [hna2, if_neg h0]
        rw [dap b (show n ≤ t.length by omega)] at ha
        have := (cut_attrs p b _ (t.length + 1 + 1) (p + 1 + n) (t.drop n) [] (1 + n) (hal1.drop n) (by rw [List.length_drop]; omega)).1 c hc (by
          rw [List.length_drop, show p + 1 + n + (t.length - n) = p + (t.length + 1) by omega]; exact ha)
        rw [this]
    | ok r =>
      obtain ⟨as, e, m0⟩ := r
      simp only
      refine ⟨fun c hc h => (nomatch h), fun x m h hm => ?_⟩
      injection h with h
      injection h with h1 h2
      obtain ⟨j, h3, h4⟩ := (attrs_fd p _ _ _ _ _).2 _ _ _ ha
      have hna2 : Sp.nameN (t.length + 1) true t = n := by omega
      rw [hna2, if_neg h0]
      rw [dap b (show n ≤ t.length by omega), h3] at ha
      have := (cut_attrs p b _ (t.length + 1 + 1) (p + 1 + n) (t.drop n) [] (1 + n) (hal1.drop n) (by rw [List.length_drop]; omega)).2 as e j ha (by rw [List.length_drop]; omega) (by
        rw [List.length_append, List.length_drop, List.length_append]; omega)
      rw [this, ← h3]
      simp only
      rw [← h1, ← h2, List.take_append_of_le_length (by omega)]

theorem closing_eq (p : Nat) (t : List UInt8) (n b : Nat) (hn : Sp.nameN (t.length + 1) true t = n) (h0 : n ≠ 0) (hb : Sp.blanksN (t.drop n) = b) :
    (((t.drop n).drop b).head? = some 62 → Sp.closing p (60 :: 47 :: t) = .ok (⟨2, t.take n, [], false, [], p⟩, 2 + n + b + 1)) ∧
    (((t.drop n).drop b).head? ≠ some 62 → Sp.closing p (60 :: 47 :: t) = .error (Sp.stop p (p + 2 + n + b) ((t.drop n).drop b))) := by
  unfold Sp.closing
  simp only [List.drop_succ_cons, List.drop_zero, hn, if_neg h0, hb]
  constructor
  · intro h
    obtain ⟨u, hu⟩ := sp_head_cons h
    rw [hu]
    rfl
  · intro h
    split
    · rename_i u hu; rw [hu] at h; exact absurd rfl h
    · rfl
theorem cut_closing {t b : List UInt8} (hal : Al (60 :: 47 :: t) b) (p : Nat) :
    (∀ c, c ≠ 84 → Sp.closing p (60 :: 47 :: t ++ b) = .error (p + (60 :: 47 :: t).length, c) → Sp.closing p (60 :: 47 :: t) = .error (p, 84)) ∧
    (∀ x m, Sp.closing p (60 :: 47 :: t ++ b) = .ok (x, m) → m ≤ (60 :: 47 :: t).length → Sp.closing p (60 :: 47 :: t) = .ok (x, m)) := by
  have hal1 : Al t b := hal.drop 2
  have hna := cut_name b (t.length + 1) ((t ++ b).length + 1) true t hal1 (by omega) (by omega)
  simp only [List.cons_append, List.length_cons]
  obtain ⟨n, hn⟩ : ∃ n, Sp.nameN ((t ++ b).length + 1) true (t ++ b) = n := ⟨_, rfl⟩
  rw [hn] at hna
  by_cases h0 : n = 0
  · have hz : Sp.closing p (60 :: 47 :: (t ++ b)) = .error (Sp.stop p (p + 2) (t ++ b)) := by
      unfold Sp.closing
      simp only [List.drop_succ_cons, List.drop_zero, hn, if_pos h0]
    rw [hz]
    refine ⟨fun c hc h => ?_, fun x m h => (nomatch h)⟩
    injection h with h
    have := stop_at h hc
    have := nil_of_len (show t.length = 0 by omega)
    subst this
    rfl
  · obtain ⟨b1, hb1⟩ : ∃ x, Sp.blanksN ((t ++ b).drop n) = x := ⟨_, rfl⟩
    have key : n + b1 ≤ t.length → Sp.nameN (t.length + 1) true t = n ∧ Sp.blanksN (t.drop n) = b1 ∧ (t.drop n).drop b1 ++ b = ((t ++ b).drop n).drop b1 := fun h => by
      have h1 : Sp.nameN (t.length + 1) true t = n := by omega
      have h2 := cut_blanks (t.drop n) b
      rw [← dap b (show n ≤ t.length by omega), hb1, List.length_drop] at h2
      refine ⟨h1, by omega, ?_⟩
      rw [dap b (show n ≤ t.length by omega), dap b (by rw [List.length_drop]; omega)]
    have eq1 := closing_eq p (t ++ b) n b1 hn h0 hb1
    by_cases hh : (((t ++ b).drop n).drop b1).head? = some 62
    · rw [eq1.1 hh]
      refine ⟨fun c hc h => (nomatch h), fun x m h hm => ?_⟩
      injection h with h
      injection h with h1 h2
      obtain ⟨k1, k2, k3⟩ := key (by omega)
      obtain ⟨u, hu⟩ := sp_head_cons hh
      rw [hu] at k3
      obtain ⟨v, hv, _⟩ := cons_app k3 (by rw [List.length_drop, List.length_drop]; omega)
      rw [(closing_eq p t n b1 k1 h0 k2).1 (by rw [hv]; rfl), ← h1, ← h2, List.take_append_of_le_length (by omega)]
    · rw [eq1.2 hh]
      refine ⟨fun c hc h => ?_, fun x m h => (nomatch h)⟩
      injection h with h
      have := stop_at h hc
      obtain ⟨k1, k2, k3⟩ := key (by omega)
      have hnil : (t.drop n).drop b1 = [] := List.drop_eq_nil_of_le (by rw [List.length_drop]; omega)
      rw [(closing_eq p t n b1 k1 h0 k2).2 (by rw [hnil]; simp), hnil]
      rfl
theorem closing_ge (p : Nat) (l : List UInt8) (q c : Nat) (hc : c ≠ 84) (h : Sp.closing p l = .error (q, c)) : p + 2 ≤ q := by
  unfold Sp.closing at h
  simp only at h
  split at h
  · injection h with h
    have := stop_at h hc; omega
  · split at h
    · cases h
    · injection h with h
      have := stop_at h hc; omega

theorem cut_piece {a b : List UInt8} (hal : Al a b) (ha : 0 < a.length) (p : Nat) :
    (∀ c, c ≠ 84 → Sp.piece p (a ++ b) = .error (p + a.length, c) → Sp.piece p a = .error (p, 84) ∨ ∃ ms, Sp.piece p a = .ok (ms, a.length)) ∧
    (∀ ms m, Sp.piece p (a ++ b) = .ok (ms, m) → m ≤ a.length → Sp.piece p a = .ok (ms, m)) := by
  have hlen : (a ++ b).length = a.length + b.length := List.length_append
  unfold Sp.piece
  by_cases h1 : ([60, 33, 45, 45] : List UInt8).isPrefixOf (a ++ b) = true
  · rw [if_pos h1]
    have hpl := (List.isPrefixOf_iff_prefix.1 h1).length_le
    split
    · refine ⟨fun c hc h => ?_, fun x m h => (nomatch h)⟩
      injection h with h
      injection h with h2 h3
      exact absurd h3.symm hc
    · rename_i i hi
      refine ⟨fun c hc h => (nomatch h), fun ms m h hm => ?_⟩
      injection h with h
      injection h with h2 h3
      rw [dap b (show 4 ≤ a.length by omega)] at hi
      have hi2 := find_cut _ _ _ _ hi (by rw [List.length_drop]; simp; omega)
      rw [if_pos (prefix_cut h1 (by simp; omega)), hi2, ← h2, ← h3]
  · have h1' : ¬ ([60, 33, 45, 45] : List UInt8).isPrefixOf a = true := fun h => h1 (prefix_more b h)
    rw [if_neg h1, if_neg h1']
    by_cases h2 : Sp.cdata9.isPrefixOf (a ++ b) = true
    · rw [if_pos h2]
      have hpl := (List.isPrefixOf_iff_prefix.1 h2).length_le
      split
      · refine ⟨fun c hc h => ?_, fun x m h => (nomatch h)⟩
        injection h with h
        injection h with h3 h4
        exact absurd h4.symm hc
      · rename_i i hi
        refine ⟨fun c hc h => (nomatch h), fun ms m h hm => ?_⟩
        injection h with h
        injection h with h3 h4
        rw [dap b (show 9 ≤ a.length by omega)] at hi h3
        have hi2 := find_cut _ _ _ _ hi (by rw [List.length_drop]; simp; omega)
        rw [if_pos (prefix_cut h2 (by simp [Sp.cdata9]; omega)), hi2, ← h3, ← h4]
        simp only
        rw [List.take_append_of_le_length (by rw [List.length_drop]; omega)]
    · have h2' : ¬ Sp.cdata9.isPrefixOf a = true := fun h => h2 (prefix_more b h)
      rw [if_neg h2, if_neg h2']
      by_cases h3 : ([60, 47] : List UInt8).isPrefixOf (a ++ b) = true
      · rw [if_pos h3]
        have ha2 : 2 ≤ a.length → ∃ t, a = 60 :: 47 :: t := fun h => prefix_cons2 (prefix_cut h3 (by simp; omega))
        refine ⟨fun c hc h => ?_, fun ms m h hm => ?_⟩
        · have he := map_error h
          have := closing_ge _ _ _ _ hc he
          obtain ⟨t, rfl⟩ := ha2 (by omega)
          left
          rw [if_pos (by rfl), (cut_closing hal p).1 c hc he]
          rfl
        · obtain ⟨y, h4, h5⟩ := map_ok h
          injection h5 with h5 h6
          have h7 : 2 ≤ y.2 := by
            have h4' : Sp.closing p (a ++ b) = .ok (y.1, y.2) := h4
            unfold Sp.closing at h4'
            simp only at h4'
            split at h4'
            · cases h4'
            · split at h4'
              · injection h4' with h4'; injection h4' with h8 h9; omega
              · cases h4'
          obtain ⟨t, rfl⟩ := ha2 (by omega)
          rw [if_pos (by rfl), (cut_closing hal p).2 y.1 y.2 h4 (by omega), ← h5, ← h6]
          rfl
      · have h3' : ¬ ([60, 47] : List UInt8).isPrefixOf a = true := fun h => h3 (prefix_more b h)
        rw [if_neg h3, if_neg h3']
        by_cases h4 : ([60] : List UInt8).isPrefixOf (a ++ b) = true
        · rw [if_pos h4, if_pos (prefix_cut h4 (by simp; omega))]
          obtain ⟨t, rfl⟩ := prefix_cons (prefix_cut h4 (by simp; omega))
          refine ⟨fun c hc h => ?_, fun ms m h hm => ?_⟩
          · left
            rw [(cut_opening hal p).1 c hc (map_error h)]
            rfl
          · obtain ⟨y, h5, h6⟩ := map_ok h
            injection h6 with h6 h7
            rw [(cut_opening hal p).2 y.1 y.2 h5 (by omega), ← h6, ← h7]
            rfl
        · have h4' : ¬ ([60] : List UInt8).isPrefixOf a = true := fun h => h4 (prefix_more b h)
          rw [if_neg h4, if_neg h4']
          have k := cut_text 60 false p p (by decide) b ((a ++ b).length + 1) (a.length + 1) p a [] 0 (by omega)
          refine ⟨fun c hc h => ?_, fun ms m h hm => ?_⟩
          · right
            obtain ⟨x, hx⟩ := k.1 c (map_error h)
            rw [hx, Nat.zero_add]
            exact ⟨_, rfl⟩
          · obtain ⟨y, h5, h6⟩ := map_ok h
            injection h6 with h6 h7
            have := k.2 y.1 y.2 (by rw [Nat.zero_add]; exact h5) (by omega) (by omega)
            rw [this, ← h6, ← h7, Nat.zero_add]
            rfl

theorem pieces_nil (k p : Nat) (acc : List Sp.Mk) : Sp.pieces k p [] acc = .ok acc := by cases k <;> rfl
theorem cut_pieces (b : List UInt8) : ∀ (k k' p : Nat) (a : List UInt8) (acc : List Sp.Mk), Al a b → a.length < k' → ∀ c, c ≠ 84 → Sp.pieces k p (a ++ b) acc = .error (p + a.length, c) →
    (∃ r, Sp.pieces k' p a acc = .ok r) ∨ ∃ q, Sp.pieces k' p a acc = .error (q, 84) := by
  intro k
  induction k with
  | zero => intro k' p a acc _ _ c _ h; cases hab : a ++ b <;> rw [hab] at h <;> cases h
  | succ k ih =>
    intro k' p a acc hal hk' c hc h
    cases a with
    | nil => exact .inl ⟨acc, pieces_nil _ _ _⟩
    | cons d t =>
      cases k' with
      | zero => omega
      | succ k' =>
        have hcut := cut_piece hal (by simp) p
        have hu : Sp.pieces (k + 1) p (d :: t ++ b) acc = match Sp.piece p (d :: t ++ b) with
          | .error f => .error f
          | .ok (ms, n) => Sp.pieces k (p + n) ((d :: t ++ b).drop n) (acc ++ ms) := rfl
        have hu2 : Sp.pieces (k' + 1) p (d :: t) acc = match Sp.piece p (d :: t) with
          | .error f => .error f
          | .ok (ms, n) => Sp.pieces k' (p + n) ((d :: t).drop n) (acc ++ ms) := rfl
        rw [hu] at h
        rw [hu2]
        have hfd := piece_fd p d (t ++ b)
        cases hp : Sp.piece p (d :: t ++ b) with
        | error f0 =>
          rw [hp] at h
          injection h with h
          subst h
          rcases hcut.1 c hc hp with h2 | ⟨ms, h2⟩
          · right; exact ⟨p, by rw [h2]⟩
          · left
            rw [h2]
            simp only
            rw [List.drop_length, pieces_nil]
            exact ⟨_, rfl⟩
        | ok r =>
          obtain ⟨ms, n⟩ := r
          rw [hp] at h
          simp only at h
          have hpos := sp_piece_pos _ _ _ _ _ hp
          have hb := pieces_fd _ _ _ _ _ h
          have h1 := hb.1
          simp only at h1
          rw [hcut.2 ms n hp (by omega)]
          simp only
          rw [dap b (by omega)] at h
          refine ih k' _ _ _ (hal.drop n) (by rw [List.length_drop]; omega) c hc ?_
          rw [List.length_drop, show p + n + ((d :: t).length - n) = p + (d :: t).length by omega]
          exact h

theorem bad_lt : ∀ (k p : Nat) (l : List UInt8) (i : Nat), Sp.bad k p l = some i → i < p + l.length := by
  intro k
  induction k with
  | zero => intro p l i h; cases l with
    | nil => cases h
    | cons => injection h with h; simp; omega
  | succ k ih =>
    intro p l i h
    cases l with
    | nil => cases h
    | cons c t =>
      unfold Sp.bad at h
      have hle := sp_next_le (c :: t)
      split at h
      · injection h with h; simp; omega
      · have := ih _ _ _ h
        rw [List.length_drop] at this; omega
theorem badChar_lt : ∀ (k p : Nat) (l : List UInt8) (i : Nat), Sp.badChar k p l = some i → i < p + l.length := by
  intro k
  induction k with
  | zero => intro p l i h; cases l with
    | nil => cases h
    | cons => injection h with h; simp; omega
  | succ k ih =>
    intro p l i h
    cases l with
    | nil => cases h
    | cons c t =>
      unfold Sp.badChar at h
      have hle := sp_next_le (c :: t)
      split at h
      · have := ih _ _ _ h
        rw [List.length_drop] at this; omega
      · injection h with h; simp; omega
theorem prolog_fd (l : List UInt8) : (∀ f, Sp.prolog l = .error f → f = (0, 84) ∧ 0 < l.length) ∧ (∀ n, Sp.prolog l = .ok n → Far l n) := by
  unfold Sp.prolog
  split
  · rename_i c t hd
    have hl := congrArg List.length hd
    rw [List.length_drop, List.length_cons] at hl
    split
    · split
      · exact ⟨fun f h => by injection h with h; exact ⟨h.symm, by omega⟩, fun n h => (nomatch h)⟩
      · rename_i i hi
        refine ⟨fun f h => (nomatch h), fun n h => ?_⟩
        injection h with h
        subst h
        exact find_far [63, 62] 62 ⟨[63], rfl⟩ (by decide) l 5 i hi (by omega)
    · exact ⟨fun f h => (nomatch h), fun n h => by injection h with h; subst h; exact .zero _⟩
  · exact ⟨fun f h => (nomatch h), fun n h => by injection h with h; subst h; exact .zero _⟩
theorem prolog_cut (a b : List UInt8) (n : Nat) (h : Sp.prolog (a ++ b) = .ok n) (hn : n ≤ a.length) : Sp.prolog a = .ok n := by
  unfold Sp.prolog at h ⊢
  split
  · rename_i c t hd
    have hl := congrArg List.length hd
    rw [List.length_drop, List.length_cons] at hl
    have hd2 : (a ++ b).drop 5 = c :: (t ++ b) := by rw [dap b (by omega), hd]; rfl
    rw [hd2] at h
    simp only at h
    by_cases hx : Sp.xml5.isPrefixOf (a ++ b) = true ∧ Sp.white c = true
    · rw [if_pos hx] at h
      rw [if_pos ⟨prefix_cut hx.1 (by simp [Sp.xml5]; omega), hx.2⟩]
      split at h
      · cases h
      · rename_i i hi
        injection h with h
        rw [show c :: (t ++ b) = c :: t ++ b from rfl] at hi
        have hb := find_bound _ _ _ (show Sp.find [63, 62] ((a ++ b).drop 5) = some i by rw [hd2]; exact hi)
        rw [hd, find_cut _ _ _ _ hi (by simp; omega)]
        simp only
        rw [h]
    · rw [if_neg hx] at h
      rw [if_neg]
      · exact h
      · rintro ⟨h1, h2⟩; exact hx ⟨prefix_more b h1, h2⟩
  · rename_i hd
    have hl : a.length ≤ 5 := List.drop_eq_nil_iff.1 hd
    split at h
    · split at h
      · split at h
        · cases h
        · injection h with h; omega
      · exact h
    · exact h

/-- A document's fault lies in it. -/
theorem marks_place (l : List UInt8) (f : Sp.Flt) (h : Sp.marks l = .error f) : f.1 < l.length := by
  unfold Sp.marks at h
  split at h
  · injection h with h; subst h; simp only; omega
  · split at h
    · rename_i i hi
      injection h with h
      subst h
      have := bad_lt _ _ _ _ hi
      simp only; omega
    · split at h
      · rename_i i hi
        injection h with h
        subst h
        have := badChar_lt _ _ _ _ hi
        simp only; omega
      · split at h
        · rename_i f0 hp
          injection h with h
          subst h
          have := (prolog_fd l).1 _ hp
          rw [this.1]
          exact this.2
        · rename_i n hp
          have hn := ((prolog_fd l).2 _ hp).1
          have := pieces_fd _ _ _ _ _ h
          rw [List.length_drop] at this
          omega
/-- The document up to a fault of its form has no fault but one that isn't ended. -/
theorem marks_cut (l : List UInt8) (i c : Nat) (h : Sp.marks l = .error (i, c)) (hc : c = 82 ∨ c = 83) :
    (∃ r, Sp.marks (l.take i) = .ok r) ∨ ∃ q, Sp.marks (l.take i) = .error (q, 84) := by
  have hpl := marks_place l _ h
  simp only at hpl
  unfold Sp.marks at h
  split at h
  · injection h with h; injection h with h1 h2; omega
  · rename_i hlen
    split at h
    · injection h with h; injection h with h1 h2; omega
    · rename_i hbad
      split at h
      · injection h with h; injection h with h1 h2; omega
      · rename_i hbc
        have hcs := Cs.of_none _ _ _ _ hbad hbc
        split at h
        · rename_i f0 hp
          injection h with h
          subst h
          have := ((prolog_fd l).1 _ hp).1
          injection this with h1 h2; omega
        · rename_i n hp
          have hn := (prolog_fd l).2 _ hp
          obtain ⟨h1, h2, h3⟩ := pieces_fd _ _ _ _ _ h
          simp only at h1 h2 h3
          rw [List.length_drop] at h2
          have hside : Side l i := by
            rcases h3 with h3 | ⟨_, h3⟩
            · omega
            · have := (hn.2 hcs).drop (h3 (hcs.side (hn.2 hcs)).2)
              rwa [show n + (i - n) = i by omega] at this
          have hcs2 := (hcs.side hside).1
          have htl : (l.take i).length = i := by rw [List.length_take]; omega
          have hsplit : l = l.take i ++ l.drop i := (List.take_append_drop i l).symm
          have hno := hcs2.none (i + 1) 0 (by omega)
          unfold Sp.marks
          rw [htl, if_neg (by omega), hno.1]
          simp only
          rw [hno.2]
          simp only
          rw [prolog_cut (l.take i) (l.drop i) n (by rw [← hsplit]; exact hp) (by omega)]
          simp only
          have hd : l.drop n = (l.take i).drop n ++ l.drop i := by
            conv => lhs; rw [hsplit]
            rw [dap _ (by omega)]
          refine cut_pieces (l.drop i) (l.length + 1) (i + 1) n ((l.take i).drop n) [] ((hcs2.al _).drop n) (by rw [List.length_drop]; omega) c (by omega) ?_
          rw [← hd, List.length_drop, htl, show n + (i - n) = i by omega]
          exact h
end Go.Proofs.YtokdclmikllepaaDoor
