import Derived.Test.YtokdclmikllepaaDoorPz
/-
  Plain laws of Sp: a document cut where its fault lies.
-/
namespace Go.Proofs.YtokdclmikllepaaDoor
set_option linter.unusedVariables false
set_option linter.unusedSimpArgs false

/-- Behind a, b stands; no character lies across. -/
def Al (a b : List UInt8) : Prop := ∀ j, j < a.length → Sp.next (a.drop j ++ b) = Sp.next (a.drop j)
theorem Al.drop {a b : List UInt8} (h : Al a b) (i : Nat) : Al (a.drop i) b := by
  intro j hj
  rw [List.length_drop] at hj
  rw [List.drop_drop]
  exact h (i + j) (by omega)
theorem next_cont {c : UInt8} (t : List UInt8) (h1 : 128 ≤ c.toNat) (h2 : c.toNat < 192) : Sp.next (c :: t) = (0, 0) := by
  simp only [Sp.next, if_neg (show ¬ c.toNat < 128 by omega), if_pos h2]
theorem Cs.al {a : List UInt8} (h : Cs a) (b : List UInt8) : Al a b := by
  induction h with
  | nil => intro j hj; exact absurd hj (by simp)
  | cons u t r hu ht ih =>
    intro j hj
    rcases Nat.lt_or_ge j u.length with hju | hju
    · cases j with
      | zero => rw [List.drop_zero, List.append_assoc, hu.nx, hu.nx]
      | succ j =>
        cases u with
        | nil => exact absurd hju (by simp)
        | cons x u =>
          rw [List.length_cons] at hju
          have hd : (x :: u ++ t).drop (j + 1) = u.drop j ++ t := by
            show (u ++ t).drop j = _
            rw [List.drop_append_of_le_length (by omega)]
          rw [hd]
          cases hdj : u.drop j with
          | nil =>
            have := congrArg List.length hdj
            rw [List.length_drop, List.length_nil] at this; omega
          | cons y v =>
            have hy : y ∈ u := by
              have : y ∈ u.drop j := by rw [hdj]; simp
              exact List.mem_of_mem_drop this
            have := hu.cont y hy
            simp only [List.cons_append]
            rw [next_cont _ this.1 this.2, next_cont _ this.1 this.2]
    · have hd : (u ++ t).drop j = t.drop (j - u.length) := by
        rw [List.drop_append, List.drop_eq_nil_of_le hju]; rfl
      rw [hd]
      rw [List.length_append] at hj
      exact ih _ (by omega)

theorem cut_name (b : List UInt8) : ∀ (k k' : Nat) (first : Bool) (a : List UInt8), Al a b → a.length < k → (a ++ b).length < k' → Sp.nameN k first a = min (Sp.nameN k' first (a ++ b)) a.length := by
  intro k
  induction k with
  | zero => intro k' first a _ h; omega
  | succ k ih =>
    intro k' first a hal hk hk'
    cases k' with
    | zero => omega
    | succ k' =>
      cases a with
      | nil => simp [Sp.nameN]
      | cons c t =>
        have hx := hal 0 (by simp)
        rw [List.drop_zero] at hx
        rw [sp_nameN _ _ _ (by simp), sp_nameN _ _ (c :: t ++ b) (by simp), hx]
        have hle := sp_next_le (c :: t)
        have hpos := sp_next_pos (c :: t)
        generalize Sp.next (c :: t) = r at *
        split
        · rename_i hc
          have h1 : 0 < r.2 := hpos (by rcases hc with h | ⟨_, h⟩ | h <;> simp_all)
          rw [List.drop_append_of_le_length hle]
          have hl := List.length_drop (i := r.2) (l := c :: t)
          rw [List.length_append] at hk'
          have := ih k' false ((c :: t).drop r.2) (hal.drop _) (by omega) (by rw [List.length_append]; omega)
          rw [this, hl]
          omega
        · simp
theorem cut_while (q : UInt8 → Bool) (b : List UInt8) : ∀ a : List UInt8, (a.takeWhile q).length = min ((a ++ b).takeWhile q).length a.length := by
  intro a
  induction a with
  | nil => simp
  | cons c t ih =>
    rw [List.cons_append, List.takeWhile_cons, List.takeWhile_cons]
    split
    · simp only [List.length_cons, ih]; omega
    · simp
theorem cut_blanks (a b : List UInt8) : Sp.blanksN a = min (Sp.blanksN (a ++ b)) a.length := cut_while Sp.white b a
theorem sp_takeWhile (q : UInt8 → Bool) (l : List UInt8) : l.takeWhile q = l.take (l.takeWhile q).length :=
  List.prefix_iff_eq_take.1 (List.takeWhile_prefix q)
theorem cut_takeWhile (q : UInt8 → Bool) (a b : List UInt8) (h : ((a ++ b).takeWhile q).length ≤ a.length) : a.takeWhile q = (a ++ b).takeWhile q := by
  have h1 := cut_while q b a
  rw [sp_takeWhile q a, sp_takeWhile q (a ++ b), h1, Nat.min_eq_left h, List.take_append_of_le_length h]
theorem find_cut (sub : List UInt8) (b : List UInt8) : ∀ (a : List UInt8) (i : Nat), Sp.find sub (a ++ b) = some i → i + sub.length ≤ a.length → Sp.find sub a = some i := by
  intro a
  induction a with
  | nil =>
    intro i h hi
    rw [List.length_nil] at hi
    have : sub = [] := List.eq_nil_of_length_eq_zero (by omega)
    have : i = 0 := by omega
    subst sub i
    rfl
  | cons c t ih =>
    intro i h hi
    rw [List.cons_append] at h
    unfold Sp.find at h ⊢
    rw [List.length_cons] at hi
    split at h
    · rename_i hp
      injection h with h
      subst h
      rw [if_pos]
      have := List.isPrefixOf_iff_prefix.1 hp
      rw [← List.cons_append] at this
      exact List.isPrefixOf_iff_prefix.2 (List.prefix_of_prefix_length_le this (List.prefix_append _ _) (by rw [List.length_cons]; omega))
    · rename_i hp
      rw [if_neg]
      · cases hf : Sp.find sub (t ++ b) with
        | none => rw [hf] at h; cases h
        | some j =>
          rw [hf] at h
          injection h with h
          have h : j + 1 = i := h
          rw [ih j hf (by omega)]
          exact congrArg some h
      · intro hq
        apply hp
        have := List.isPrefixOf_iff_prefix.1 hq
        rw [← List.cons_append]
        exact List.isPrefixOf_iff_prefix.2 (this.trans (List.prefix_append _ _))
theorem prefix_cut {w a b : List UInt8} (h : w.isPrefixOf (a ++ b) = true) (hl : w.length ≤ a.length) : w.isPrefixOf a = true :=
  List.isPrefixOf_iff_prefix.2 (List.prefix_of_prefix_length_le (List.isPrefixOf_iff_prefix.1 h) (List.prefix_append _ _) hl)
theorem prefix_more {w a : List UInt8} (b : List UInt8) (h : w.isPrefixOf a = true) : w.isPrefixOf (a ++ b) = true :=
  List.isPrefixOf_iff_prefix.2 ((List.isPrefixOf_iff_prefix.1 h).trans (List.prefix_append _ _))

theorem cut_ref (p : Nat) (a b x : List UInt8) (m : Nat) (h : Sp.reference p (a ++ b) = .ok (x, m)) (hm : m ≤ a.length) : Sp.reference p a = .ok (x, m) := by
  obtain ⟨_, h12, e, he, rfl, ht⟩ := ref_far _ _ _ _ h
  have hf : Sp.find [59] (a.take 12) = some e := by
    rw [List.take_append] at he
    exact find_cut _ _ _ _ he (by rw [List.length_take]; simp; omega)
  have hx : ((a ++ b).drop 1).take (e - 1) = (a.drop 1).take (e - 1) := by
    rw [List.drop_append_of_le_length (by omega), List.take_append_of_le_length (by rw [List.length_drop]; omega)]
  rw [hx] at ht
  unfold Sp.reference
  rw [hf]
  simp only
  rw [ht]

theorem cut_text (e : UInt8) (bb : Bool) (fr fr' : Nat) (he : e.toNat < 128) (b : List UInt8) : ∀ (k k' p : Nat) (a acc : List UInt8) (n : Nat), a.length < k' →
    (∀ c, Sp.text e bb fr k p (a ++ b) acc n = .error (p + a.length, c) → ∃ x, Sp.text e bb fr' k' p a acc n = .ok (x, n + a.length)) ∧
    (∀ x j, Sp.text e bb fr k p (a ++ b) acc n = .ok (x, n + j) → j ≤ a.length → (a ++ b).length < k → Sp.text e bb fr' k' p a acc n = .ok (x, n + j)) := by
  intro k
  induction k with
  | zero => intro k' p a acc n _; exact ⟨fun c h => (nomatch h), fun x j h _ hk => absurd hk (by omega)⟩
  | succ k ih =>
    intro k' p a acc n hk'
    cases k' with
    | zero => omega
    | succ k' =>
      cases a with
      | nil =>
        refine ⟨fun c h => ⟨acc, rfl⟩, fun x j h hj hk => ?_⟩
        have hj : j = 0 := by simpa using hj
        subst hj
        show Except.ok (acc, n) = _
        rw [List.nil_append] at h
        cases b with
        | nil => exact h
        | cons c t =>
          by_cases hce : c = e
          · unfold Sp.text at h
            rw [if_pos hce] at h
            exact h
          · exfalso
            have k2 := text_fd e bb fr he (k + 1) p (c :: t) acc n
            obtain ⟨j, h1, h2, h3⟩ := k2.2 x _ h hk
            have : j = 0 := by omega
            subst this
            rcases h3 with h3 | ⟨t', h3⟩
            · cases h3
            · injection h3 with h3 _
              exact hce h3
      | cons c t =>
        rw [List.cons_append]
        unfold Sp.text
        by_cases hce : c = e
        · rw [if_pos hce, if_pos hce]
          exact ⟨fun c h => (nomatch h), fun x j h _ _ => h⟩
        · rw [if_neg hce, if_neg hce]
          by_cases h38 : c = 38
          · rw [if_pos h38, if_pos h38]
            cases hr : Sp.reference p (c :: (t ++ b)) with
            | error f0 =>
              have := ref_fd _ _ _ hr
              subst this
              refine ⟨fun c h => ?_, fun x j h => (nomatch h)⟩
              injection h with h
              injection h with h1 h2
              simp at h1
            | ok r =>
              obtain ⟨y, m0⟩ := r
              have hf := ref_far _ _ _ _ hr
              have hp := sp_reference_pos _ _ _ _ hr
              simp only
              have hle : m0 ≤ (c :: t).length → Sp.reference p (c :: t) = .ok (y, m0) := fun h => cut_ref p (c :: t) b y m0 hr h
              have hd : m0 ≤ (c :: t).length → (c :: (t ++ b)).drop m0 = (c :: t).drop m0 ++ b := fun h => by
                rw [← List.cons_append, List.drop_append_of_le_length h]
              refine ⟨fun c' h => ?_, fun x j h hj hk => ?_⟩
              · have hb := (text_fd e bb fr he k (p + m0) ((c :: (t ++ b)).drop m0) (acc ++ y) (n + m0)).1 _ h
                have hm : m0 ≤ (c :: t).length := by
                  rcases hb.1 with h5 | h5
                  · exact absurd (congrArg Prod.snd h5) hb.2
                  · have := h5.1
                    simp only at this; omega
                rw [hle hm]
                rw [hd hm] at h
                have := (ih k' (p + m0) ((c :: t).drop m0) (acc ++ y) (n + m0) (by rw [List.length_drop]; omega)).1 c' (by
                  rw [List.length_drop, show p + m0 + ((c :: t).length - m0) = p + (c :: t).length by omega]; exact h)
                rwa [List.length_drop, show n + m0 + ((c :: t).length - m0) = n + (c :: t).length by omega] at this
              · have hlen : (c :: (t ++ b)).length = (c :: t).length + b.length := by simp only [List.length_cons, List.length_append]; omega
                have hge := sp_text_ge _ _ _ _ _ _ _ _ _ _ h
                have hm : m0 ≤ (c :: t).length := by omega
                rw [hle hm]
                rw [hd hm] at h
                have hx : (c :: (t ++ b)).length < k + 1 := hk
                have := (ih k' (p + m0) ((c :: t).drop m0) (acc ++ y) (n + m0) (by rw [List.length_drop]; omega)).2 x (j - m0) (by
                  rw [show n + m0 + (j - m0) = n + j by omega]; exact h) (by rw [List.length_drop]; omega) (by rw [List.length_append, List.length_drop]; omega)
                rwa [show n + m0 + (j - m0) = n + j by omega] at this
          · rw [if_neg h38, if_neg h38]
            by_cases h60 : c = 60
            · rw [if_pos h60, if_pos h60]
              refine ⟨fun c h => ?_, fun x j h => (nomatch h)⟩
              injection h with h
              injection h with h1 h2
              simp at h1
            · rw [if_neg h60, if_neg h60]
              have hpl : Sp.plainB e c = true := by simp [Sp.plainB, hce, h38, h60]
              have hpos : 1 ≤ ((c :: (t ++ b)).takeWhile (Sp.plainB e)).length := by rw [List.takeWhile_cons, hpl, if_pos rfl, List.length_cons]; omega
              have hcut : ((c :: (t ++ b)).takeWhile (Sp.plainB e)).length ≤ (c :: t).length → (c :: t).takeWhile (Sp.plainB e) = (c :: (t ++ b)).takeWhile (Sp.plainB e) := fun h => cut_takeWhile _ (c :: t) b h
              rw [sp_dropWhile, sp_dropWhile]
              generalize hm0 : ((c :: (t ++ b)).takeWhile (Sp.plainB e)).length = m0 at *
              have hd : m0 ≤ (c :: t).length → (c :: (t ++ b)).drop m0 = (c :: t).drop m0 ++ b := fun h => by
                rw [← List.cons_append, List.drop_append_of_le_length h]
              refine ⟨fun c' h => ?_, fun x j h hj hk => ?_⟩
              · have hb := (text_fd e bb fr he k (p + m0) ((c :: (t ++ b)).drop m0) _ (n + m0)).1 _ h
                have hm : m0 ≤ (c :: t).length := by
                  rcases hb.1 with h5 | h5
                  · exact absurd (congrArg Prod.snd h5) hb.2
                  · have := h5.1
                    simp only at this; omega
                rw [hcut hm, hm0]
                rw [hd hm] at h
                have := (ih k' (p + m0) ((c :: t).drop m0) _ (n + m0) (by rw [List.length_drop]; omega)).1 c' (by
                  rw [List.length_drop, show p + m0 + ((c :: t).length - m0) = p + (c :: t).length by omega]; exact h)
                rwa [List.length_drop, show n + m0 + ((c :: t).length - m0) = n + (c :: t).length by omega] at this
              · have hlen : (c :: (t ++ b)).length = (c :: t).length + b.length := by simp only [List.length_cons, List.length_append]; omega
                have hge := sp_text_ge _ _ _ _ _ _ _ _ _ _ h
                have hm : m0 ≤ (c :: t).length := by omega
                rw [hcut hm, hm0]
                rw [hd hm] at h
                have hx : (c :: (t ++ b)).length < k + 1 := hk
                have := (ih k' (p + m0) ((c :: t).drop m0) _ (n + m0) (by rw [List.length_drop]; omega)).2 x (j - m0) (by
                  rw [show n + m0 + (j - m0) = n + j by omega]; exact h) (by rw [List.length_drop]; omega) (by rw [List.length_append, List.length_drop]; omega)
                rwa [show n + m0 + (j - m0) = n + j by omega] at this
end Go.Proofs.YtokdclmikllepaaDoor
