import Derived.Test.YtokdclmikllepaaGreatDoorKt30
import Derived.Test.YtokdclmikllepaaGreatDoorKt39
import Derived.Test.YtokdclmikllepaaGreatDoorKt13
namespace Go.Proofs.YtokdclmikllepaaGreatDoor
set_option linter.unusedVariables false
set_option linter.unusedSimpArgs false

theorem letter_ch {r : Int} (h : Sp.letter r = true) : Sp.isChar r = true := by
  unfold Sp.letter at h
  simp only [Bool.or_eq_true, Bool.and_eq_true, decide_eq_true_eq] at h
  rcases h with ((h | h) | h) | h
  · unfold Sp.isChar Sp.isRune; simp; omega
  · unfold Sp.isChar Sp.isRune; simp; omega
  · unfold Sp.isChar Sp.isRune; simp; omega
  · exact h.2
theorem nm_ch {r : Int} (h : r = 58 ∨ Sp.nameRune r = true ∨ Sp.letter r = true) : Sp.isChar r = true := by
  rcases h with rfl | h | h
  · rfl
  · unfold Sp.nameRune at h
    simp only [Bool.or_eq_true, Bool.and_eq_true, decide_eq_true_eq] at h
    rcases h with ((h | h) | h) | h
    · exact letter_ch h
    · unfold Sp.isChar Sp.isRune; simp; omega
    · unfold Sp.isChar Sp.isRune; simp; omega
    · unfold Sp.isChar Sp.isRune; simp; omega
  · exact letter_ch h
theorem nm_none : ∀ (k p : Nat) (first : Bool) (l : List UInt8), Sp.nameN k first l = l.length → l.length < k → Sp.bad k p l = none ∧ Sp.badChar k p l = none := by
  intro k
  induction k with
  | zero => intro p first l _ h; omega
  | succ k ih =>
    intro p first l h hk
    cases l with
    | nil => exact ⟨rfl, rfl⟩
    | cons c t =>
      rw [sp_nameN _ _ _ (by simp)] at h
      split at h
      · rename_i hc
        have hc2 : (Sp.next (c :: t)).1 = 58 ∨ Sp.nameRune (Sp.next (c :: t)).1 = true ∨ Sp.letter (Sp.next (c :: t)).1 = true := by
          rcases hc with h | ⟨_, h⟩ | h
          · exact .inl h
          · exact .inr (.inl h)
          · exact .inr (.inr h)
        have hpos := sp_next_pos (c :: t) hc2
        have hle := sp_next_le (c :: t)
        have hch := nm_ch hc2
        have hd := List.length_drop (i := (Sp.next (c :: t)).2) (l := c :: t)
        have := ih (p + (Sp.next (c :: t)).2) false ((c :: t).drop (Sp.next (c :: t)).2) (by omega) (by omega)
        unfold Sp.bad Sp.badChar
        rw [if_neg (by omega), if_pos hch]
        exact this
      · simp at h
theorem isName_is {l : List UInt8} (h : Sp.isName l = true) : l ≠ [] ∧ Sp.nameN (l.length + 1) true l = l.length := by
  unfold Sp.isName at h
  simpa using h
theorem isName_cs {l : List UInt8} (h : Sp.isName l = true) : Cs l := by
  have := nm_none _ 0 _ _ (isName_is h).2 (Nat.lt_succ_self _)
  exact Cs.of_none _ _ _ _ this.1 this.2
theorem chars_cs {l : List UInt8} (h : Sp.chars l = true) : Cs l := by
  unfold Sp.chars at h
  rw [Option.isNone_iff_eq_none] at h
  refine Cs.of_none (l.length + 1) 0 0 l ?_ h
  have key : ∀ (k p q : Nat) (l : List UInt8), Sp.badChar k p l = none → Sp.bad k q l = none := by
    intro k
    induction k with
    | zero => intro p q l h; cases l with
      | nil => rfl
      | cons => cases h
    | succ k ih =>
      intro p q l h
      cases l with
      | nil => rfl
      | cons c t =>
        unfold Sp.badChar at h
        unfold Sp.bad
        split at h
        · rename_i hc
          rw [if_neg (fun h0 => by
            have := sp_next_zero _ h0
            rw [this] at hc
            exact absurd hc (by decide))]
          exact ih _ _ _ h
        · cases h
  exact key _ _ _ _ h
/-- What no name goes on with. -/
def NoN (b : List UInt8) : Prop := ∀ k first, Sp.nameN k first b = 0
theorem noN_asc {c : UInt8} (t : List UInt8) (h : c = 32 ∨ c = 61 ∨ c = 62 ∨ c = 47) : NoN (c :: t) := by
  intro k first
  cases k with
  | zero => rfl
  | succ k =>
    rw [sp_nameN _ _ _ (by simp)]
    rcases h with rfl | rfl | rfl | rfl
    all_goals
      rw [if_neg]
      simp [Sp.next]
      first | decide | (cases first <;> decide)
theorem name_app (b : List UInt8) (hb : NoN b) : ∀ (k k' : Nat) (first : Bool) (a : List UInt8), Al a b → Sp.nameN k first a = a.length → a.length < k' → Sp.nameN k' first (a ++ b) = a.length := by
  intro k
  induction k with
  | zero =>
    intro k' first a _ h _
    have : a = [] := List.eq_nil_of_length_eq_zero h.symm
    subst this
    exact hb _ _
  | succ k ih =>
    intro k' first a hal h hk'
    cases a with
    | nil => exact hb _ _
    | cons c t =>
      cases k' with
      | zero => omega
      | succ k' =>
        have hx := hal 0 (by simp)
        rw [List.drop_zero] at hx
        rw [sp_nameN _ _ _ (by simp)] at h
        rw [sp_nameN _ _ (c :: t ++ b) (by simp), hx]
        split at h
        · rename_i hc
          have hpos := sp_next_pos (c :: t) (by rcases hc with h | ⟨_, h⟩ | h <;> simp_all)
          have hle := sp_next_le (c :: t)
          have hd := List.length_drop (i := (Sp.next (c :: t)).2) (l := c :: t)
          rw [if_pos hc, List.drop_append_of_le_length hle, ih k' false _ (hal.drop _) (by omega) (by omega)]
          omega
        · simp at h
theorem name_w {nm b : List UInt8} (h : Sp.isName nm = true) (hb : NoN b) : Sp.nameN ((nm ++ b).length + 1) true (nm ++ b) = nm.length :=
  name_app b hb _ _ _ _ ((isName_cs h).al b) (isName_is h).2 (by rw [List.length_append]; omega)
/-- How a name begins. -/
theorem name_hd {nm : List UInt8} (h : Sp.isName nm = true) : ∃ c t, nm = c :: t ∧ Sp.white c = false ∧ c ≠ 62 ∧ c ≠ 47 ∧ c ≠ 33 ∧ c ≠ 63 := by
  obtain ⟨h1, h2⟩ := isName_is h
  cases nm with
  | nil => exact absurd rfl h1
  | cons c t =>
    refine ⟨c, t, rfl, ?_⟩
    rw [sp_nameN _ _ _ (by simp)] at h2
    split at h2
    · rename_i hc
      rcases Nat.lt_or_ge c.toNat 128 with h128 | h128
      · have e : (Sp.next (c :: t)).1 = c.toNat := by simp [Sp.next, h128]
        rw [e] at hc
        have hr : c.toNat = 58 ∨ 65 ≤ c.toNat := by
          rcases hc with h | ⟨h, _⟩ | h
          · omega
          · cases h
          · unfold Sp.letter at h
            simp only [Bool.or_eq_true, Bool.and_eq_true, decide_eq_true_eq] at h
            omega
        refine ⟨?_, ?_, ?_, ?_, ?_⟩
        · unfold Sp.white; simp; omega
        all_goals (rintro rfl; revert hr; decide)
      · refine ⟨?_, ?_, ?_, ?_, ?_⟩
        · unfold Sp.white; simp; omega
        all_goals (rintro rfl; revert h128; decide)
    · simp at h2

theorem quote_is (v : List UInt8) : Sp.quote v = 34 :: (v.flatMap (swp true) ++ [34]) := rfl
theorem blanks_no {c : UInt8} (t : List UInt8) (h : Sp.white c = false) : Sp.blanksN (c :: t) = 0 := by rw [blanks_cons, if_neg (by rw [h]; simp)]
theorem attr_w (fr p : Nat) (nm v rest : List UInt8) (hn : Sp.isName nm = true) :
    Sp.attr fr p (nm ++ 61 :: (Sp.quote v ++ rest)) = .ok (⟨nm, v, p⟩, nm.length + 1 + (Sp.quote v).length) := by
  obtain ⟨c, t, hct, _⟩ := name_hd hn
  have hnn := name_w (b := 61 :: (Sp.quote v ++ rest)) hn (noN_asc _ (by simp))
  have h0 : nm.length ≠ 0 := by rw [hct]; simp
  have hd : (nm ++ 61 :: (Sp.quote v ++ rest)).drop nm.length = 61 :: (Sp.quote v ++ rest) := List.drop_left' rfl
  rw [attr_more (n := nm.length) (b := 0) (b2 := 0) (l3 := Sp.quote v ++ rest) (l4 := Sp.quote v ++ rest) hnn h0 (by rw [hd]; exact blanks_no _ (by decide)) (by rw [hd]; rfl) (by rw [quote_is]; exact blanks_no _ (by decide)) rfl, quote_is]
  have htx := esc_text true fr (34 :: rest) (.inr ⟨rest, rfl⟩) v.length v (Nat.le_refl _) ((v.flatMap (swp true) ++ 34 :: rest).length + 1) (p + nm.length + 0 + 1 + 0 + 1) 0 [] (by have := swps_ge true v; rw [List.length_append]; omega)
  rw [show eQ true = 34 from rfl] at htx
  unfold attrTail
  simp only [List.cons_append, List.append_assoc, List.nil_append]
  rw [if_pos (.inl trivial), htx]
  simp only [List.nil_append, Nat.zero_add]
  rw [List.drop_left' rfl, if_neg (by simp)]
  rw [List.take_left' rfl]
  simp only [List.length_cons, List.length_append, List.length_nil]
  congr 2
  omega
/-- Attributes with their places. -/
def atsOf : Nat → List Sp.EA → List Sp.At
  | _, [] => []
  | p, a :: t => ⟨a.name, a.value, p + 1⟩ :: atsOf (p + (Sp.tagA a).length) t
theorem tagA_is (a : Sp.EA) (r : List UInt8) : Sp.tagA a ++ r = 32 :: (a.name ++ 61 :: (Sp.quote a.value ++ r)) := by simp [Sp.tagA]
theorem tagA_len (a : Sp.EA) : (Sp.tagA a).length = a.name.length + (Sp.quote a.value).length + 2 := by simp [Sp.tagA]; omega
theorem mayA_is {a : Sp.EA} (h : Sp.mayA a = true) : Sp.isName a.name = true ∧ Sp.chars a.value = true := by
  unfold Sp.mayA at h
  simpa using h
theorem tags_len (l : List Sp.EA) : l.length ≤ (l.flatMap Sp.tagA).length := by
  induction l with
  | nil => exact Nat.zero_le _
  | cons a t ih => rw [List.flatMap_cons, List.length_append, List.length_cons, tagA_len]; omega
theorem attrs_w (fr : Nat) (e : Bool) (rest : List UInt8) : ∀ (l : List Sp.EA) (k p n : Nat) (acc : List Sp.At), (∀ a ∈ l, Sp.mayA a = true) → l.length < k →
    Sp.attrs fr k p (l.flatMap Sp.tagA ++ (if e then 47 :: 62 :: rest else 62 :: rest)) acc n = .ok (acc ++ atsOf p l, e, n + (l.flatMap Sp.tagA).length + (if e then 2 else 1)) := by
  intro l
  induction l with
  | nil =>
    intro k p n acc _ hk
    obtain ⟨k, rfl⟩ : ∃ m, k = m + 1 := ⟨k - 1, by simp at hk; omega⟩
    rw [List.flatMap_nil, List.nil_append, attrs_in]
    cases e with
    | true =>
      simp only [if_true]
      rw [blanks_no _ (by decide)]
      show attrsIn fr k p _ acc n 0 (47 :: 62 :: rest) = _
      rw [in_sl_gt]
      simp [atsOf]
    | false =>
      simp only [Bool.false_eq_true, if_false]
      rw [blanks_no _ (by decide)]
      show attrsIn fr k p _ acc n 0 (62 :: rest) = _
      rw [in_gt]
      simp [atsOf]
  | cons a t ih =>
    intro k p n acc hm hk
    obtain ⟨k, rfl⟩ : ∃ m, k = m + 1 := ⟨k - 1, by simp at hk; omega⟩
    obtain ⟨hn, hv⟩ := mayA_is (hm a (List.mem_cons_self ..))
    obtain ⟨c, u, hcu, hw, h62, h47, -, -⟩ := name_hd hn
    generalize hR : (if e = true then 47 :: 62 :: rest else 62 :: rest) = R at *
    rw [List.flatMap_cons, List.append_assoc, tagA_is, attrs_in]
    have hb : Sp.blanksN (32 :: (a.name ++ 61 :: (Sp.quote a.value ++ (t.flatMap Sp.tagA ++ R)))) = 1 := by
      rw [blanks_cons, if_pos (by decide), hcu, List.cons_append, blanks_no _ hw]
    rw [hb]
    show attrsIn fr k p _ acc n 1 (a.name ++ 61 :: (Sp.quote a.value ++ (t.flatMap Sp.tagA ++ R))) = _
    rw [in_attr _ _ _ _ _ _ _ _ (by rw [hcu]; simp [h62]) (by rw [hcu]; simp [h47]) (by decide), attr_w _ _ _ _ _ hn]
    simp only
    have hd : (a.name ++ 61 :: (Sp.quote a.value ++ (t.flatMap Sp.tagA ++ R))).drop (a.name.length + 1 + (Sp.quote a.value).length) = t.flatMap Sp.tagA ++ R := by
      rw [show a.name ++ 61 :: (Sp.quote a.value ++ (t.flatMap Sp.tagA ++ R)) = (a.name ++ 61 :: Sp.quote a.value) ++ (t.flatMap Sp.tagA ++ R) by simp]
      exact List.drop_left' (by simp; omega)
    rw [hd, ih k _ _ _ (fun x hx => hm x (List.mem_cons_of_mem _ hx)) (by simp at hk; omega)]
    have e1 : p + 1 + (a.name.length + 1 + (Sp.quote a.value).length) = p + (Sp.tagA a).length := by rw [tagA_len]; omega
    rw [e1]
    simp only [atsOf, List.append_assoc, List.singleton_append, List.length_append]
    rw [tagA_len]
    congr 4
    omega

def mkOf (p : Nat) (x : Sp.EE) (e : Bool) : Sp.Mk := ⟨1, x.name, atsOf (p + 1 + x.name.length) x.attrs, e, [], p⟩
theorem noN_attrs (l : List Sp.EA) (e : Bool) (rest : List UInt8) : NoN (l.flatMap Sp.tagA ++ (if e then 47 :: 62 :: rest else 62 :: rest)) := by
  cases l with
  | nil => cases e <;> exact noN_asc _ (by simp)
  | cons a t => rw [List.flatMap_cons, List.append_assoc, tagA_is]; exact noN_asc _ (by simp)
theorem tag_w (p : Nat) (x : Sp.EE) (e : Bool) (rest : List UInt8) (hn : Sp.isName x.name = true) (ha : ∀ a ∈ x.attrs, Sp.mayA a = true) :
    Sp.piece p (Sp.tag x ++ (if e then 47 :: 62 :: rest else 62 :: rest)) = .ok ([mkOf p x e], (Sp.tag x).length + (if e then 2 else 1)) := by
  obtain ⟨c, t, hct, _, h62, h47, h33, h63⟩ := name_hd hn
  have hnn := name_w (b := x.attrs.flatMap Sp.tagA ++ (if e then 47 :: 62 :: rest else 62 :: rest)) hn (noN_attrs _ _ _)
  have has := attrs_w p e rest x.attrs
  generalize hR : (if e = true then 47 :: 62 :: rest else 62 :: rest) = R at *
  have ht : Sp.tag x ++ R = 60 :: (x.name ++ (x.attrs.flatMap Sp.tagA ++ R)) := by simp [Sp.tag]
  rw [ht]
  have b33 : (33 == c) = false := by rw [beq_eq_false_iff_ne]; exact fun e => h33 e.symm
  have b47 : (47 == c) = false := by rw [beq_eq_false_iff_ne]; exact fun e => h47 e.symm
  have hp : Sp.piece p (60 :: (x.name ++ (x.attrs.flatMap Sp.tagA ++ R))) = (Sp.opening p (60 :: (x.name ++ (x.attrs.flatMap Sp.tagA ++ R)))).map fun r => ([r.1], r.2) := by
    unfold Sp.piece Sp.cdata9
    rw [hct, if_neg (by simp [List.isPrefixOf, b33]), if_neg (by simp [List.isPrefixOf, b33]), if_neg (by simp [List.isPrefixOf, b47]), if_pos (by simp [List.isPrefixOf])]
  rw [hp]
  have h0 : x.name.length ≠ 0 := by rw [hct]; simp
  unfold Sp.opening
  simp only [List.drop_succ_cons, List.drop_zero]
  rw [hnn]
  simp only [if_neg h0]
  rw [List.drop_left' rfl, has _ _ _ _ ha (by
    have := tags_len x.attrs
    simp only [List.length_cons, List.length_append]
    omega)]
  show Except.ok ([(⟨1, (x.name ++ (x.attrs.flatMap Sp.tagA ++ R)).take x.name.length, [] ++ atsOf (p + 1 + x.name.length) x.attrs, e, [], p⟩ : Sp.Mk)], 1 + x.name.length + (x.attrs.flatMap Sp.tagA).length + (if e = true then 2 else 1)) = _
  rw [List.take_left' rfl]
  unfold mkOf Sp.tag
  simp only [List.length_cons, List.length_append, List.cons_append, List.nil_append]
  congr 2
  omega
theorem close_w (p : Nat) (nm rest : List UInt8) (hn : Sp.isName nm = true) :
    Sp.piece p (Sp.closeT nm ++ rest) = .ok ([⟨2, nm, [], false, [], p⟩], (Sp.closeT nm).length) := by
  obtain ⟨c, t, hct, _⟩ := name_hd hn
  have ht : Sp.closeT nm ++ rest = 60 :: 47 :: (nm ++ 62 :: rest) := by simp [Sp.closeT]
  rw [ht]
  have hp : Sp.piece p (60 :: 47 :: (nm ++ 62 :: rest)) = (Sp.closing p (60 :: 47 :: (nm ++ 62 :: rest))).map fun r => ([r.1], r.2) := rfl
  rw [hp]
  have h0 : nm.length ≠ 0 := by rw [hct]; simp
  have hd : (nm ++ 62 :: rest).drop nm.length = 62 :: rest := List.drop_left' rfl
  rw [(closing_eq p (nm ++ 62 :: rest) nm.length 0 (name_w hn (noN_asc _ (by simp))) h0 (by rw [hd]; exact blanks_no _ (by decide))).1 (by rw [hd]; rfl), List.take_left' rfl]
  simp only [Except.map, Sp.closeT, List.length_cons, List.length_append, List.length_nil]
  congr 2
  omega
theorem escape_is (t : List UInt8) : Sp.escape t = t.flatMap (swp false) := rfl
theorem text_w (p : Nat) (t rest : List UInt8) (hne : t ≠ []) :
    Sp.piece p (Sp.escape t ++ 60 :: rest) = .ok ([⟨3, [], [], false, t, p⟩], (Sp.escape t).length) := by
  rw [escape_is]
  obtain ⟨c, u, rfl⟩ : ∃ c u, t = c :: u := by
    cases t with
    | nil => exact absurd rfl hne
    | cons c t => exact ⟨c, t, rfl⟩
  have hge := swps_ge false (c :: u)
  have htx := esc_text false p (60 :: rest) (.inr ⟨rest, rfl⟩) (c :: u).length (c :: u) (Nat.le_refl _) (((c :: u).flatMap (swp false) ++ 60 :: rest).length + 1) p 0 [] (by rw [List.length_append]; omega)
  rw [show eQ false = 60 from rfl] at htx
  obtain ⟨d, m, hdm, hd⟩ := swps_head c u
  rw [hdm] at htx ⊢
  rw [List.cons_append, piece_text p d _ hd]
  rw [List.cons_append] at htx
  rw [htx]
  simp only [Except.map, List.nil_append, Nat.zero_add]
  rfl
end Go.Proofs.YtokdclmikllepaaGreatDoor
namespace Go.Proofs.YtokdclmikllepaaGreatDoor
set_option linter.unusedVariables false
set_option linter.unusedSimpArgs false

def stA (a : Sp.EA) : Sp.EA := ⟨a.name, a.value, 0⟩
def stE (x : Sp.EE) : Sp.EE := ⟨x.name, x.attrs.map stA, x.text, x.up, 0⟩
def SamL (l m : List Sp.EE) : Prop := l.map stE = m.map stE
theorem atsOf_st : ∀ (l : List Sp.EA) (p : Nat), ((atsOf p l).map Sp.At.ea).map stA = l.map stA := by
  intro l
  induction l with
  | nil => intro p; rfl
  | cons a t ih => intro p; simp only [atsOf, List.map_cons]; rw [ih]; rfl
theorem twice_st : ∀ (l m : List Sp.EA) (seen : List (List UInt8)) (i : Nat), l.map stA = m.map stA → Sp.twiceN seen i l = Sp.twiceN seen i m := by
  intro l
  induction l with
  | nil =>
    intro m seen i h
    cases m with
    | nil => rfl
    | cons => cases h
  | cons a t ih =>
    intro m seen i h
    cases m with
    | nil => cases h
    | cons b u =>
      rw [List.map_cons, List.map_cons] at h
      injection h with h1 h2
      have hn : a.name = b.name := by injection h1
      unfold Sp.twiceN
      rw [hn, ih u _ _ h2]

def Goes (p : Nat) (a R : List UInt8) (M : List Sp.Mk) : Prop :=
  ∀ k acc, (a ++ R).length < k → Sp.pieces k p (a ++ R) acc = Sp.pieces k (p + a.length) R (acc ++ M)
theorem Goes.nil (p : Nat) (R : List UInt8) : Goes p [] R [] := by
  intro k acc h
  simp
theorem Goes.trans {p : Nat} {a b R : List UInt8} {M M' : List Sp.Mk} (h : Goes p a (b ++ R) M) (h' : Goes (p + a.length) b R M') : Goes p (a ++ b) R (M ++ M') := by
  intro k acc hk
  rw [List.append_assoc] at hk ⊢
  rw [h k acc hk, h' k _ (by rw [List.length_append] at hk; omega), List.length_append, List.append_assoc, Nat.add_assoc]
theorem Goes.piece {p : Nat} {a R : List UInt8} {M : List Sp.Mk} (hne : a ≠ []) (h : Sp.piece p (a ++ R) = .ok (M, a.length)) : Goes p a R M := by
  intro k acc hk
  cases a with
  | nil => exact absurd rfl hne
  | cons c t =>
    obtain ⟨k, rfl⟩ : ∃ m, k = m + 1 := ⟨k - 1, by omega⟩
    rw [List.cons_append] at h hk ⊢
    rw [Sp.pieces, h]
    simp only
    have hd : (c :: (t ++ R)).drop (c :: t).length = R := by
      rw [← List.cons_append]; exact List.drop_left' rfl
    rw [hd]
    rw [List.length_cons, List.length_append] at hk
    exact sp_pieces_fuel _ _ _ _ _ (by omega) (by omega)

theorem runB_end {E : List Sp.EE} {base : List Nat} {k p : Nat} {nm : List UInt8} (rest : List Sp.Mk) (h : (E[k]?.map Sp.EE.name) = some nm) :
    Sp.runB (E, base ++ [k]) (⟨2, nm, [], false, [], p⟩ :: rest) = Sp.runB (E, base) rest := by
  have hs : Sp.stepB (E, base ++ [k]) ⟨2, nm, [], false, [], p⟩ = .ok (E, base) := by
    unfold Sp.stepB Sp.endB
    simp only [List.getLast?_concat, h, List.dropLast_concat]
    simp
  rw [Sp.runB, hs]
theorem runB_text {E : List Sp.EE} {base : List Nat} {k p : Nat} {t : List UInt8} (rest : List Sp.Mk) :
    Sp.runB (E, base ++ [k]) (⟨3, [], [], false, t, p⟩ :: rest) = Sp.runB (E.modify k (Sp.EE.more t), base ++ [k]) rest := by
  have hs : Sp.stepB (E, base ++ [k]) ⟨3, [], [], false, t, p⟩ = .ok (E.modify k (Sp.EE.more t), base ++ [k]) := by
    unfold Sp.stepB Sp.textB
    simp only [List.getLast?_concat]
    simp
  rw [Sp.runB, hs]
theorem runB_start {E : List Sp.EE} {base : List Nat} {p : Nat} {x : Sp.EE} {e : Bool} (rest : List Sp.Mk) (h1 : base = [] → E = []) (h2 : base.length < 16) (h3 : E.length < 4096) (h4 : Sp.twice x.attrs = none) :
    Sp.runB (E, base) (mkOf p x e :: rest) = Sp.runB (E ++ [⟨x.name, (atsOf (p + 1 + x.name.length) x.attrs).map Sp.At.ea, [], Sp.upOf base, p⟩], if e = true then base else base ++ [E.length]) rest := by
  have hs : Sp.stepB (E, base) (mkOf p x e) = .ok (E ++ [⟨x.name, (atsOf (p + 1 + x.name.length) x.attrs).map Sp.At.ea, [], Sp.upOf base, p⟩], if e = true then base else base ++ [E.length]) := by
    unfold Sp.stepB mkOf
    rw [if_pos rfl]
    unfold Sp.startB
    have ht : Sp.twice ((atsOf (p + 1 + x.name.length) x.attrs).map Sp.At.ea) = none := by
      rw [← h4]; exact twice_st _ _ _ _ (atsOf_st _ _)
    simp only [ht]
    rw [if_neg (fun h => h.2 (h1 h.1)), if_neg (by omega), if_neg (by omega)]
  rw [Sp.runB, hs]

theorem closes_snoc (l : List Sp.EE) (op : List Nat) (k : Nat) : Sp.closes l (op ++ [k]) = Sp.closeT (Sp.nameAt l k) ++ Sp.closes l op := by
  simp [Sp.closes]
theorem closeT_ne (nm : List UInt8) : Sp.closeT nm ≠ [] := by simp [Sp.closeT]
/-- The ends of open elements, read. -/
theorem closes_go (l : List Sp.EE) : ∀ (n : Nat) (op : List Nat) (p : Nat), op.length = n → (∀ k ∈ op, Sp.isName (Sp.nameAt l k) = true) →
    ∃ M, (∀ R, Goes p (Sp.closes l op) R M) ∧ ∀ (E : List Sp.EE) (base : List Nat), (∀ k ∈ op, (E[k]?.map Sp.EE.name) = some (Sp.nameAt l k)) → ∀ rest, Sp.runB (E, base ++ op) (M ++ rest) = Sp.runB (E, base) rest := by
  intro n
  induction n with
  | zero =>
    intro op p hl _
    have : op = [] := List.eq_nil_of_length_eq_zero hl
    subst this
    exact ⟨[], fun R => Goes.nil _ _, fun E base _ rest => by rw [List.append_nil]; rfl⟩
  | succ n ih =>
    intro op p hl hn
    obtain ⟨op, k, rfl⟩ : ∃ o k, op = o ++ [k] := by
      rcases List.eq_nil_or_concat op with h | ⟨o, k, h⟩
      · rw [h] at hl; cases hl
      · exact ⟨o, k, by simpa using h⟩
    rw [List.length_append, List.length_singleton] at hl
    obtain ⟨M, h1, h2⟩ := ih op (p + (Sp.closeT (Sp.nameAt l k)).length) (by omega) (fun j hj => hn j (by simp [hj]))
    refine ⟨⟨2, Sp.nameAt l k, [], false, [], p⟩ :: M, fun R => ?_, fun E base hE rest => ?_⟩
    · rw [closes_snoc]
      have := (Goes.piece (closeT_ne _) (close_w p (Sp.nameAt l k) (Sp.closes l op ++ R) (hn k (by simp)))).trans (h1 R)
      simpa using this
    · rw [← List.append_assoc, List.cons_append, runB_end _ (hE k (by simp))]
      exact h2 E base (fun j hj => hE j (by simp [hj])) rest

theorem toIx_is (u : Int) (op : List Nat) : ∀ n, Sp.toIx u op n ≤ n ∧ (Sp.toIx u op n ≠ 0 → ((op.getD (Sp.toIx u op n - 1) 0 : Nat) : Int) = u) := by
  intro n
  induction n with
  | zero => exact ⟨Nat.le_refl _, fun h => absurd rfl h⟩
  | succ n ih =>
    unfold Sp.toIx
    split
    · rename_i h; exact ⟨Nat.le_refl _, fun _ => h⟩
    · exact ⟨by omega, ih.2⟩
theorem upOf_take (op : List Nat) (t : Nat) (h0 : t ≠ 0) (ht : t ≤ op.length) : Sp.upOf (op.take t) = ((op.getD (t - 1) 0 : Nat) : Int) := by
  unfold Sp.upOf
  have hl : (op.take t).length = t := by rw [List.length_take]; omega
  rw [List.getLast?_eq_getElem?, hl, List.getElem?_take, if_pos (by omega), List.getD_eq_getElem?_getD]
  rw [List.getElem?_eq_getElem (by omega)]
  rfl

def outW (l : List Sp.EE) (i : Nat) (x : Sp.EE) (op : List Nat) : Option (List UInt8 × List Nat) := Sp.stepW l i x ([], op)
theorem stepW_out (l : List Sp.EE) (i : Nat) (x : Sp.EE) (o : List UInt8) (op : List Nat) : Sp.stepW l i x (o, op) = (outW l i x op).map fun s => (o ++ s.1, s.2) := by
  unfold outW Sp.stepW
  simp only [List.nil_append]
  split
  · rfl
  · split
    · split
      · simp
      · rfl
    · split
      · rfl
      · simp
def restW (l : List Sp.EE) : Nat → List Sp.EE → List Nat → Option (List UInt8)
  | _, [], op => some (Sp.closes l op)
  | i, x :: t, op => match outW l i x op with | none => none | some s => (restW l (i + 1) t s.2).map (s.1 ++ ·)
theorem runW_rest (l : List Sp.EE) : ∀ (t : List Sp.EE) (i : Nat) (o : List UInt8) (op : List Nat), ((Sp.runW l i t (o, op)).map fun s => s.1 ++ Sp.closes l s.2) = (restW l i t op).map (o ++ ·) := by
  intro t
  induction t with
  | nil => intro i o op; rfl
  | cons x t ih =>
    intro i o op
    unfold Sp.runW restW
    rw [stepW_out]
    cases outW l i x op with
    | none => rfl
    | some s =>
      simp only [Option.map_some]
      rw [ih]
      cases restW l (i + 1) t s.2 with
      | none => rfl
      | some T => simp
theorem write_rest (l : List Sp.EE) (h1 : l ≠ []) (h2 : l.length ≤ 4096) : Sp.write l = restW l 0 l [] := by
  unfold Sp.write
  rw [if_neg (by rintro (h | h); exact h1 h; omega)]
  have := runW_rest l l 0 [] []
  cases h : Sp.runW l 0 l ([], []) with
  | none =>
    rw [h] at this
    cases hr : restW l 0 l [] with
    | none => rfl
    | some T => rw [hr] at this; cases this
  | some s =>
    rw [h] at this
    cases hr : restW l 0 l [] with
    | none => rw [hr] at this; cases this
    | some T =>
      rw [hr] at this
      simp only [Option.map_some, List.nil_append, Option.some.injEq] at this
      simp only [this]
end Go.Proofs.YtokdclmikllepaaGreatDoor
namespace Go.Proofs.YtokdclmikllepaaGreatDoor
set_option linter.unusedVariables false
set_option linter.unusedSimpArgs false

theorem out_cases {l : List Sp.EE} {i : Nat} {x : Sp.EE} {op : List Nat} {s : List UInt8 × List Nat} (h : outW l i x op = some s) :
    Sp.may x = true ∧ ((i = 0 ∧ x.up = -1 ∧ s = (Sp.tag x ++ Sp.body l 0 x, op)) ∨
      (i ≠ 0 ∧ ∃ tz, tz ≠ 0 ∧ tz < 16 ∧ tz ≤ (Sp.openAt i x op).length ∧ Sp.upOf ((Sp.openAt i x op).take tz) = x.up ∧
        s = (Sp.closes l ((Sp.openAt i x op).drop tz) ++ (Sp.tag x ++ Sp.body l i x), (Sp.openAt i x op).take tz))) := by
  unfold outW Sp.stepW at h
  split at h
  · cases h
  · rename_i hm
    refine ⟨by simpa using hm, ?_⟩
    split at h
    · rename_i h0
      split at h
      · rename_i hu
        injection h with h
        subst h0
        exact .inl ⟨rfl, hu, by rw [← h]; simp⟩
      · cases h
    · rename_i h0
      split at h
      · cases h
      · rename_i ht
        injection h with h
        have hi := toIx_is x.up (Sp.openAt i x op) (Sp.openAt i x op).length
        generalize Sp.toIx x.up (Sp.openAt i x op) (Sp.openAt i x op).length = tz at *
        refine .inr ⟨h0, tz, by omega, by omega, hi.1, ?_, ?_⟩
        · rw [upOf_take _ _ (by omega) hi.1]; exact hi.2 (by omega)
        · rw [← h]; simp

theorem may_is {x : Sp.EE} (h : Sp.may x = true) : Sp.isName x.name = true ∧ Sp.chars x.text = true ∧ Sp.twice x.attrs = none ∧ ∀ a ∈ x.attrs, Sp.mayA a = true := by
  unfold Sp.may at h
  simp only [Bool.and_eq_true, List.all_eq_true, Option.isNone_iff_eq_none] at h
  exact ⟨h.1.1.1, h.1.1.2, h.1.2, h.2⟩
theorem modify_last {E : List Sp.EE} {y : Sp.EE} (f : Sp.EE → Sp.EE) : (E ++ [y]).modify E.length f = E ++ [f y] := by
  induction E with
  | nil => rfl
  | cons a t ih => rw [List.cons_append, List.length_cons, List.modify_succ_cons, ih]; rfl

/-- An element read: its beginning, its text, and its end if nothing stands in it. -/
theorem elem_go (l : List Sp.EE) (i p : Nat) (x : Sp.EE) (base : List Nat) (E : List Sp.EE) (R : List UInt8) (hi : E.length = i) (hm : Sp.may x = true) (h1 : base = [] → E = []) (h2 : base.length < 16) (h3 : i < 4096)
    (hR : Sp.inner l i = true → ∃ r, R = 60 :: r) :
    ∃ M, Goes p (Sp.tag x ++ Sp.body l i x) R M ∧ ∃ y, stE y = stE ⟨x.name, x.attrs, x.text, Sp.upOf base, 0⟩ ∧
      ∀ rest, Sp.runB (E, base) (M ++ rest) = Sp.runB (E ++ [y], if Sp.inner l i = true then base ++ [i] else base) rest := by
  obtain ⟨hn, hc, ht, ha⟩ := may_is hm
  subst hi
  have hty : ∀ t, stE ⟨x.name, (atsOf (p + 1 + x.name.length) x.attrs).map Sp.At.ea, t, Sp.upOf base, p⟩ = stE ⟨x.name, x.attrs, t, Sp.upOf base, 0⟩ := fun t => by
    unfold stE
    simp only [atsOf_st]
  have htag : ∀ R', Goes p (Sp.tag x ++ [62]) R' [mkOf p x false] := fun R' => by
    refine Goes.piece (by simp) ?_
    have := tag_w p x false R' hn ha
    simpa using this
  have hlen : (Sp.tag x ++ [62]).length = (Sp.tag x).length + 1 := by simp
  by_cases hin : Sp.inner l E.length = true
  · have hb : Sp.body l E.length x = 62 :: Sp.escape x.text := by unfold Sp.body; rw [if_pos hin]
    rw [hb, hin]
    simp only [if_true]
    obtain ⟨r, rfl⟩ := hR hin
    by_cases hte : x.text = []
    · refine ⟨[mkOf p x false], ?_, _, (hty []).trans (by rw [hte]), fun rest => ?_⟩
      · rw [hte]
        exact htag _
      · exact runB_start rest h1 h2 h3 ht
    · refine ⟨[mkOf p x false] ++ [⟨3, [], [], false, x.text, p + (Sp.tag x ++ [62]).length⟩], ?_, _, hty x.text, fun rest => ?_⟩
      · rw [show Sp.tag x ++ 62 :: Sp.escape x.text = (Sp.tag x ++ [62]) ++ Sp.escape x.text by simp]
        refine (htag _).trans (Goes.piece ?_ (text_w _ _ _ hte))
        intro h0
        have := swps_ge false x.text
        rw [escape_is] at h0
        rw [h0] at this
        exact hte (List.eq_nil_of_length_eq_zero (by simpa using this))
      · rw [List.append_assoc, List.singleton_append, runB_start _ h1 h2 h3 ht]
        simp only [Bool.false_eq_true, if_false, List.singleton_append]
        rw [runB_text, modify_last]
        rfl
  · have hin' : Sp.inner l E.length = false := by simpa using hin
    rw [hin']
    simp only [Bool.false_eq_true, if_false]
    by_cases hte : x.text = []
    · have hb : Sp.body l E.length x = [47, 62] := by unfold Sp.body; rw [if_neg hin, if_pos hte]
      rw [hb]
      refine ⟨[mkOf p x true], ?_, _, (hty []).trans (by rw [hte]), fun rest => ?_⟩
      · refine Goes.piece (by simp) ?_
        have := tag_w p x true R hn ha
        simpa using this
      · exact runB_start rest h1 h2 h3 ht
    · have hb : Sp.body l E.length x = 62 :: Sp.escape x.text ++ Sp.closeT x.name := by unfold Sp.body; rw [if_neg hin, if_neg hte]
      rw [hb]
      refine ⟨([mkOf p x false] ++ [⟨3, [], [], false, x.text, p + (Sp.tag x ++ [62]).length⟩]) ++ [⟨2, x.name, [], false, [], p + ((Sp.tag x ++ [62]) ++ Sp.escape x.text).length⟩], ?_, _, hty x.text, fun rest => ?_⟩
      · rw [show Sp.tag x ++ (62 :: Sp.escape x.text ++ Sp.closeT x.name) = ((Sp.tag x ++ [62]) ++ Sp.escape x.text) ++ Sp.closeT x.name by simp]
        refine Goes.trans ((htag _).trans (Goes.piece ?_ ?_)) (Goes.piece (closeT_ne _) (close_w _ _ _ hn))
        · intro h0
          have := swps_ge false x.text
          rw [escape_is] at h0
          rw [h0] at this
          exact hte (List.eq_nil_of_length_eq_zero (by simpa using this))
        · exact text_w _ _ _ hte
      · simp only [List.append_assoc, List.singleton_append, List.cons_append, List.nil_append]
        rw [runB_start _ h1 h2 h3 ht]
        simp only [Bool.false_eq_true, if_false]
        rw [runB_text, modify_last, runB_end]
        · rfl
        · rw [List.getElem?_append_right (Nat.le_refl _)]
          simp [Sp.EE.more]

theorem rest_hd {l : List Sp.EE} {i : Nat} {x : Sp.EE} {t : List Sp.EE} {op : List Nat} {T : List UInt8} (h : restW l i (x :: t) op = some T) : ∃ r, T = 60 :: r := by
  unfold restW at h
  cases ho : outW l i x op with
  | none => rw [ho] at h; cases h
  | some s =>
    rw [ho] at h
    simp only at h
    cases hr : restW l (i + 1) t s.2 with
    | none => rw [hr] at h; cases h
    | some T' =>
      rw [hr] at h
      injection h with h
      obtain ⟨_, ⟨_, _, rfl⟩ | ⟨_, tz, _, _, _, _, rfl⟩⟩ := out_cases ho
      · exact ⟨_, by rw [← h]; rfl⟩
      · rcases List.eq_nil_or_concat ((Sp.openAt i x op).drop tz) with hd | ⟨o, k, hd⟩
        · rw [hd] at h
          exact ⟨_, by rw [← h]; rfl⟩
        · rw [hd] at h
          simp only [List.concat_eq_append, closes_snoc] at h
          exact ⟨_, by rw [← h]; rfl⟩

def bopOf (i : Nat) (t : List Sp.EE) (op : List Nat) : List Nat :=
  if i = 0 then [] else match t with | [] => op | x :: _ => Sp.openAt i x op
theorem st_name {E L : List Sp.EE} (h : E.map stE = L.map stE) : E.map Sp.EE.name = L.map Sp.EE.name := by
  have := congrArg (List.map Sp.EE.name) h
  simpa [List.map_map, Function.comp_def, stE] using this
theorem name_of {l E : List Sp.EE} {i k : Nat} (hE : E.map stE = (l.take i).map stE) (hk : k < i) (hi : i ≤ l.length) : (E[k]?.map Sp.EE.name) = some (Sp.nameAt l k) := by
  have h := congrArg (fun m => m[k]?) (st_name hE)
  simp only [List.getElem?_map] at h
  rw [h, List.getElem?_take, if_pos hk]
  unfold Sp.nameAt
  rw [List.getD_eq_getElem?_getD, List.getElem?_map, List.getElem?_eq_getElem (by omega)]
  rfl

theorem back (l : List Sp.EE) (hl : l.length ≤ 4096) : ∀ (t : List Sp.EE) (i : Nat) (op : List Nat) (T : List UInt8), l.drop i = t → i ≤ l.length → restW l i t op = some T →
    (∀ k, k < i → Sp.isName (Sp.nameAt l k) = true) → (∀ k ∈ op, k < i) → (i = 0 → op = []) → ∀ (E : List Sp.EE), E.map stE = (l.take i).map stE → ∀ p,
    ∃ M, Goes p T [] M ∧ ∃ E', Sp.runB (E, bopOf i t op) M = .ok (E', []) ∧ SamL E' l := by
  intro t
  induction t with
  | nil =>
    intro i op T hd hi h hnm hop h0 E hE p
    injection h with h
    obtain ⟨M, h1, h2⟩ := closes_go l _ op p rfl (fun k hk => hnm k (hop k hk))
    refine ⟨M, by rw [← h]; exact h1 _, E, ?_, ?_⟩
    · have := h2 E [] (fun k hk => name_of hE (hop k hk) hi) []
      rw [List.nil_append, List.append_nil] at this
      have hb : bopOf i [] op = op := by
        unfold bopOf
        split
        · exact (h0 ‹_›).symm
        · rfl
      rw [hb, this]
      rfl
    · rw [List.take_of_length_le (List.drop_eq_nil_iff.1 hd)] at hE
      exact hE
  | cons x t ih =>
    intro i op T hd hi h hnm hop h0 E hE p
    have hlt : i < l.length := by
      rcases Nat.lt_or_ge i l.length with h | h
      · exact h
      · rw [List.drop_eq_nil_of_le h] at hd; cases hd
    have hx : l[i]? = some x := by
      have := congrArg List.head? hd
      rwa [List.head?_drop] at this
    have hd' : l.drop (i + 1) = t := by
      have := congrArg List.tail hd
      rwa [List.tail_drop] at this
    have hEl : E.length = i := by
      have := congrArg List.length hE
      rw [List.length_map, List.length_map, List.length_take] at this
      omega
    unfold restW at h
    cases ho : outW l i x op with
    | none => rw [ho] at h; cases h
    | some s =>
      rw [ho] at h
      simp only at h
      cases hr : restW l (i + 1) t s.2 with
      | none => rw [hr] at h; cases h
      | some T' =>
        rw [hr] at h
        injection h with h
        have h : s.1 ++ T' = T := h
        obtain ⟨hm, hc⟩ := out_cases ho
        have hname : Sp.nameAt l i = x.name := by
          unfold Sp.nameAt
          rw [List.getD_eq_getElem?_getD, List.getElem?_map, hx]
          rfl
        have hnm' : ∀ k, k < i + 1 → Sp.isName (Sp.nameAt l k) = true := fun k hk => by
          rcases Nat.lt_or_ge k i with hk | hk'
          · exact hnm k hk
          · obtain rfl : k = i := by omega
            rw [hname]; exact (may_is hm).1
        -- the ends ahead of the element
        obtain ⟨base, M1, hb1, hb2, hb3, hb4, hgo, hrun⟩ : ∃ base M1, (base = [] → E = []) ∧ base.length < 16 ∧ Sp.upOf base = x.up ∧ (s.2 = base ∧ ∀ k ∈ base, k < i) ∧
            (∀ R, Goes p (s.1.take (s.1.length - (Sp.tag x ++ Sp.body l i x).length)) (Sp.tag x ++ Sp.body l i x ++ R) M1 ∧ s.1 = s.1.take (s.1.length - (Sp.tag x ++ Sp.body l i x).length) ++ (Sp.tag x ++ Sp.body l i x)) ∧
            ∀ rest, Sp.runB (E, bopOf i (x :: t) op) (M1 ++ rest) = Sp.runB (E, base) rest := by
          rcases hc with ⟨hi0, hu, hs⟩ | ⟨hi0, tz, ht0, ht16, htl, hup, hs⟩
          · subst hi0
            rw [h0 rfl] at hs
            subst hs
            refine ⟨[], [], fun _ => List.eq_nil_of_length_eq_zero hEl, by simp, by rw [hu]; rfl, ⟨rfl, fun k hk => nomatch hk⟩, fun R => ?_, fun rest => rfl⟩
            simp only [Nat.sub_self, List.take_zero, List.nil_append, and_true]
            exact Goes.nil _ _
          · have hop1 : ∀ k ∈ Sp.openAt i x op, k < i := fun k hk => by
              unfold Sp.openAt at hk
              split at hk
              · rcases List.mem_append.1 hk with hk | hk
                · exact hop k hk
                · rw [List.mem_singleton.1 hk]; omega
              · exact hop k hk
            have hbo : bopOf i (x :: t) op = (Sp.openAt i x op).take tz ++ (Sp.openAt i x op).drop tz := by
              unfold bopOf; rw [if_neg hi0, List.take_append_drop]
            rw [hbo]
            generalize Sp.openAt i x op = op1 at *
            have htk : s.1.take (s.1.length - (Sp.tag x ++ Sp.body l i x).length) = Sp.closes l (op1.drop tz) := by
              rw [hs]
              exact List.take_left' (by simp)
            rw [htk]
            obtain ⟨MM, hM1, hM2⟩ := closes_go l _ (op1.drop tz) p rfl (fun k hk => hnm k (hop1 k (List.mem_of_mem_drop hk)))
            have hne : op1.take tz ≠ [] := by
              intro he
              have := congrArg List.length he
              rw [List.length_take, List.length_nil] at this
              omega
            refine ⟨op1.take tz, MM, fun he => absurd he hne, by rw [List.length_take]; omega, hup, ⟨by rw [hs], fun k hk => hop1 k (List.mem_of_mem_take hk)⟩, fun R => ⟨hM1 _, by rw [hs]⟩, fun rest => ?_⟩
            exact hM2 E _ (fun k hk => name_of hE (hop1 k (List.mem_of_mem_drop hk)) hi) rest
        obtain ⟨hs2, hbk⟩ := hb4
        -- the element
        have hRh : Sp.inner l i = true → ∃ r, T' = 60 :: r := fun hin => by
          unfold Sp.inner at hin
          rw [decide_eq_true_eq] at hin
          cases t with
          | nil =>
            rw [List.getElem?_eq_none (List.drop_eq_nil_iff.1 hd')] at hin
            cases hin
          | cons x' t' => exact rest_hd hr
        generalize hA : s.1.take (s.1.length - (Sp.tag x ++ Sp.body l i x).length) = A at hgo
        obtain ⟨M2, hg2, y, hy, hrun2⟩ := elem_go l i (p + A.length) x base E T' hEl hm hb1 hb2 (by omega) hRh
        -- the rest
        have hE' : (E ++ [y]).map stE = (l.take (i + 1)).map stE := by
          rw [List.take_add_one, hx, List.map_append, List.map_append, hE, hb3] at *
          simp only [Option.toList_some, List.map_singleton]
          rw [hy]
          rfl
        have hbop : (if Sp.inner l i = true then base ++ [i] else base) = bopOf (i + 1) t base := by
          unfold bopOf
          rw [if_neg (show ¬ (i + 1 = 0) by omega)]
          cases t with
          | nil =>
            have : Sp.inner l i = false := by
              unfold Sp.inner
              rw [List.getElem?_eq_none (List.drop_eq_nil_iff.1 hd')]
              rfl
            rw [this]; rfl
          | cons x' t' =>
            have hx' : l[i + 1]? = some x' := by
              have := congrArg List.head? hd'
              rwa [List.head?_drop] at this
            have e1 : ((i + 1 : Nat) : Int) - 1 = i := by omega
            have e2 : i + 1 - 1 = i := by omega
            unfold Sp.inner Sp.openAt
            rw [hx', e1, e2]
            simp
        obtain ⟨M3, hg3, E', hr3, hs3⟩ := ih (i + 1) base T' hd' (by omega) (by rw [← hs2]; exact hr) hnm' (fun k hk => by have := hbk k hk; omega) (fun h => by omega) (E ++ [y]) hE' (p + A.length + (Sp.tag x ++ Sp.body l i x).length)
        refine ⟨M1 ++ (M2 ++ M3), ?_, E', ?_, hs3⟩
        · rw [← h, (hgo []).2, List.append_assoc]
          have := (hgo T').1
          refine Goes.trans ?_ (Goes.trans ?_ hg3)
          · rw [List.append_nil]; exact this
          · rw [List.append_nil]; exact hg2
        · rw [hrun, hrun2, hbop]
          exact hr3
end Go.Proofs.YtokdclmikllepaaGreatDoor
namespace Go.Proofs.YtokdclmikllepaaGreatDoor
set_option linter.unusedVariables false
set_option linter.unusedSimpArgs false

theorem cs_quote {v : List UInt8} (h : Cs v) : Cs (Sp.quote v) := by
  rw [quote_is]
  have a := cs_asc [34] (by decide)
  exact cs_append a (cs_append (cs_swps true h) a)
theorem cs_tagA {a : Sp.EA} (h : Sp.mayA a = true) : Cs (Sp.tagA a) := by
  obtain ⟨h1, h2⟩ := mayA_is h
  have e : Sp.tagA a = [32] ++ (a.name ++ ([61] ++ Sp.quote a.value)) := by simp [Sp.tagA]
  rw [e]
  exact cs_append (cs_asc [32] (by decide)) (cs_append (isName_cs h1) (cs_append (cs_asc [61] (by decide)) (cs_quote (chars_cs h2))))
theorem cs_tags : ∀ (l : List Sp.EA), (∀ a ∈ l, Sp.mayA a = true) → Cs (l.flatMap Sp.tagA) := by
  intro l
  induction l with
  | nil => intro _; exact .nil
  | cons a t ih => intro h; rw [List.flatMap_cons]; exact cs_append (cs_tagA (h a (List.mem_cons_self ..))) (ih fun x hx => h x (List.mem_cons_of_mem _ hx))
theorem cs_closeT {nm : List UInt8} (h : Sp.isName nm = true) : Cs (Sp.closeT nm) := by
  have e : Sp.closeT nm = [60, 47] ++ (nm ++ [62]) := by simp [Sp.closeT]
  rw [e]
  exact cs_append (cs_asc _ (by decide)) (cs_append (isName_cs h) (cs_asc [62] (by decide)))
theorem cs_tag {x : Sp.EE} (h : Sp.may x = true) : Cs (Sp.tag x) := by
  obtain ⟨h1, h2, h3, h4⟩ := may_is h
  have e : Sp.tag x = [60] ++ (x.name ++ x.attrs.flatMap Sp.tagA) := by simp [Sp.tag]
  rw [e]
  exact cs_append (cs_asc _ (by decide)) (cs_append (isName_cs h1) (cs_tags _ h4))
theorem cs_body (l : List Sp.EE) (i : Nat) {x : Sp.EE} (h : Sp.may x = true) : Cs (Sp.body l i x) := by
  obtain ⟨h1, h2, h3, h4⟩ := may_is h
  have he : Cs (Sp.escape x.text) := by rw [escape_is]; exact cs_swps false (chars_cs h2)
  have a := cs_asc [62] (by decide)
  unfold Sp.body
  split
  · exact cs_append a he
  · split
    · exact cs_asc _ (by decide)
    · exact cs_append (cs_append a he) (cs_closeT h1)
theorem cs_closes (l : List Sp.EE) : ∀ (op : List Nat), (∀ k ∈ op, Sp.isName (Sp.nameAt l k) = true) → Cs (Sp.closes l op) := by
  intro op h
  unfold Sp.closes
  have : ∀ m : List Nat, (∀ k ∈ m, Sp.isName (Sp.nameAt l k) = true) → Cs (m.flatMap fun k => Sp.closeT (Sp.nameAt l k)) := by
    intro m
    induction m with
    | nil => intro _; exact .nil
    | cons a t ih => intro h; rw [List.flatMap_cons]; exact cs_append (cs_closeT (h a (List.mem_cons_self ..))) (ih fun x hx => h x (List.mem_cons_of_mem _ hx))
  exact this _ (fun k hk => h k (List.mem_reverse.1 hk))
theorem cs_rest (l : List Sp.EE) : ∀ (t : List Sp.EE) (i : Nat) (op : List Nat) (T : List UInt8), l.drop i = t → restW l i t op = some T → (∀ k, k < i → Sp.isName (Sp.nameAt l k) = true) → (∀ k ∈ op, k < i) → Cs T := by
  intro t
  induction t with
  | nil =>
    intro i op T hd h hnm hop
    injection h with h
    rw [← h]
    exact cs_closes l op (fun k hk => hnm k (hop k hk))
  | cons x t ih =>
    intro i op T hd h hnm hop
    have hx : l[i]? = some x := by
      have := congrArg List.head? hd
      rwa [List.head?_drop] at this
    have hd' : l.drop (i + 1) = t := by
      have := congrArg List.tail hd
      rwa [List.tail_drop] at this
    unfold restW at h
    cases ho : outW l i x op with
    | none => rw [ho] at h; cases h
    | some s =>
      rw [ho] at h
      simp only at h
      cases hr : restW l (i + 1) t s.2 with
      | none => rw [hr] at h; cases h
      | some T' =>
        rw [hr] at h
        injection h with h
        obtain ⟨hm, hc⟩ := out_cases ho
        have hname : Sp.nameAt l i = x.name := by
          unfold Sp.nameAt
          rw [List.getD_eq_getElem?_getD, List.getElem?_map, hx]
          rfl
        have hnm' : ∀ k, k < i + 1 → Sp.isName (Sp.nameAt l k) = true := fun k hk => by
          rcases Nat.lt_or_ge k i with hk | hk'
          · exact hnm k hk
          · obtain rfl : k = i := by omega
            rw [hname]; exact (may_is hm).1
        rw [← h]
        rcases hc with ⟨hi0, hu, hs⟩ | ⟨hi0, tz, ht0, ht16, htl, hup, hs⟩
        · subst hi0
          rw [hs] at hr ⊢
          exact cs_append (cs_append (cs_tag hm) (cs_body l 0 hm)) (ih _ _ _ hd' hr hnm' (fun k hk => by have := hop k hk; omega))
        · have hop1 : ∀ k ∈ Sp.openAt i x op, k < i := fun k hk => by
            unfold Sp.openAt at hk
            split at hk
            · rcases List.mem_append.1 hk with hk | hk
              · exact hop k hk
              · rw [List.mem_singleton.1 hk]; omega
            · exact hop k hk
          rw [hs] at hr ⊢
          exact cs_append (cs_append (cs_closes l _ (fun k hk => hnm k (hop1 k (List.mem_of_mem_drop hk)))) (cs_append (cs_tag hm) (cs_body l i hm))) (ih _ _ _ hd' hr hnm' (fun k hk => by have := hop1 k (List.mem_of_mem_take hk); omega))

theorem write_is {l : List Sp.EE} {T : List UInt8} (h : Sp.write l = some T) : l ≠ [] ∧ l.length ≤ 4096 ∧ restW l 0 l [] = some T := by
  have h0 := h
  unfold Sp.write at h
  split at h
  · cases h
  · rename_i hn
    have h1 : l ≠ [] := fun e => hn (.inl e)
    have h2 : l.length ≤ 4096 := Nat.le_of_not_lt fun e => hn (.inr e)
    exact ⟨h1, h2, by rw [← write_rest l h1 h2]; exact h0⟩
/-- What is written is read as that, but for places. -/
theorem write_parse (l : List Sp.EE) (T : List UInt8) (h : Sp.write l = some T) (hT : T.length ≤ 65536) : ∃ m, Sp.parse T = .ok m ∧ SamL m l := by
  obtain ⟨h1, h2, hr⟩ := write_is h
  have hcs : Cs T := cs_rest l l 0 [] T rfl hr (fun k hk => by omega) (fun k hk => nomatch hk)
  obtain ⟨M, hg, E', hrun, hsam⟩ := back l h2 l 0 [] T rfl (Nat.zero_le _) hr (fun k hk => by omega) (fun k hk => nomatch hk) (fun _ => rfl) [] rfl 0
  have hpro : Sp.prolog T = .ok 0 := by
    cases l with
    | nil => exact absurd rfl h1
    | cons x t =>
      unfold restW at hr
      cases ho : outW (x :: t) 0 x [] with
      | none => rw [ho] at hr; cases hr
      | some s =>
        rw [ho] at hr
        simp only at hr
        cases hr' : restW (x :: t) (0 + 1) t s.2 with
        | none => rw [hr'] at hr; cases hr
        | some T' =>
          rw [hr'] at hr
          injection hr with hr
          obtain ⟨hm, hc⟩ := out_cases ho
          rcases hc with ⟨_, _, hs⟩ | ⟨h, _⟩
          · obtain ⟨c, u, hcu, _, _, _, _, h63⟩ := name_hd (may_is hm).1
            refine prolog_none _ (fun hx => ?_)
            have hx2 := hx.2
            rw [← hr, hs] at hx2
            simp only [Sp.tag, hcu, List.cons_append, List.append_assoc] at hx2
            unfold Sp.xml5 at hx2
            rw [show (5 : Nat) = 3 + 1 + 1 from rfl, List.take_succ_cons, List.take_succ_cons] at hx2
            injection hx2 with _ hx2
            injection hx2 with hx2 _
            exact h63 hx2
          · exact absurd rfl h
  have hmk : Sp.marks T = .ok M := by
    rw [marks_cs T hcs hT hpro]
    have := hg (T.length + 1) [] (by simp)
    rw [List.append_nil] at this
    rw [this, pieces_nil]
    rfl
  refine ⟨E', ?_, hsam⟩
  unfold Sp.parse
  rw [hmk]
  simp only
  have hb : bopOf 0 l [] = [] := rfl
  rw [hb] at hrun
  rw [hrun]
  have hE : E' ≠ [] := by
    rintro rfl
    have := congrArg List.length hsam
    simp only [List.length_map, List.length_nil] at this
    exact h1 (List.eq_nil_of_length_eq_zero this.symm)
  simp only [Sp.endOf, List.getLast?_nil, if_neg hE]
end Go.Proofs.YtokdclmikllepaaGreatDoor
namespace Go.Proofs.YtokdclmikllepaaGreatDoor
set_option linter.unusedVariables false
set_option linter.unusedSimpArgs false

theorem cs_chars {l : List UInt8} (h : Cs l) : Sp.chars l = true := by
  unfold Sp.chars
  rw [(h.none _ 0 (Nat.lt_succ_self _)).2]
  rfl
theorem isChar_asc {c : UInt8} {t : List UInt8} (h : Cs (c :: t)) (hc : c.toNat < 128) : Cs [c] ∧ Cs t := (h.at_ascii [] t c rfl hc).2
theorem Cs.split {l : List UInt8} (h : Cs l) (hl : l ≠ []) : ∃ u t r, l = u ++ t ∧ Chn u r ∧ Cs t := by
  cases h with
  | nil => exact absurd rfl hl
  | cons u t r hu ht => exact ⟨u, t, r, rfl, hu, ht⟩
theorem cs_one10 : Cs [10] := Cs.cons [10] [] _ (chn_asc (c := 10) (by decide) (by decide)) .nil
theorem lines_cons {c : UInt8} (t : List UInt8) (h : c ≠ 13) : Sp.lines (c :: t) = c :: Sp.lines t := by
  rw [Sp.lines]
  · intro t' he _; exact h he
  · intro he; exact h he
theorem cs_lines : ∀ (N : Nat) (l : List UInt8), l.length ≤ N → Cs l → Cs (Sp.lines l) := by
  intro N
  induction N with
  | zero => intro l hl _; rw [List.eq_nil_of_length_eq_zero (by omega : l.length = 0)]; exact .nil
  | succ N ih =>
    intro l hl h
    cases l with
    | nil => exact .nil
    | cons c t =>
      rw [List.length_cons] at hl
      by_cases h13 : c = 13
      · subst h13
        have ht := (isChar_asc h (by decide)).2
        cases t with
        | nil => exact cs_one10
        | cons d u =>
          by_cases h10 : d = 10
          · subst h10
            have hu := (isChar_asc ht (by decide)).2
            rw [Sp.lines]
            exact cs_append cs_one10 (ih u (by simp at hl; omega) hu)
          · rw [Sp.lines]
            · exact cs_append cs_one10 (ih _ (by simp at hl ⊢; omega) ht)
            · intro t' he; injection he with he _; exact h10 he
      · obtain ⟨u, r, x, hur, hu, hr⟩ := h.split (by simp)
        rcases hu.hd with ⟨d, rfl, _, _⟩ | ⟨_, hall⟩
        · injection hur with h1 h2
          subst h1
          subst h2
          rw [lines_cons _ h13]
          exact Cs.cons [c] _ x hu (ih _ (by omega) hr)
        · rw [hur, lines_hi u r hall]
          have hl2 := congrArg List.length hur
          have hul := hu.len
          rw [List.length_cons, List.length_append] at hl2
          exact Cs.cons u _ x hu (ih r (by omega) hr)
theorem blanks_hi : ∀ (u : List UInt8), (∀ x ∈ u, 128 ≤ x.toNat) → u.map Sp.blank = u := by
  intro u
  induction u with
  | nil => intro _; rfl
  | cons a t ih => intro h; rw [List.map_cons, blank_hi (h a (List.mem_cons_self ..)), ih fun x hx => h x (List.mem_cons_of_mem _ hx)]
theorem cs_blank {l : List UInt8} (h : Cs l) : Cs (l.map Sp.blank) := by
  induction h with
  | nil => exact .nil
  | cons u t r hu ht ih =>
    rw [List.map_append]
    refine cs_append ?_ ih
    rcases hu.hd with ⟨c, rfl, _, _⟩ | ⟨_, hall⟩
    · rw [List.map_singleton]
      unfold Sp.blank
      split
      · exact cs_asc [32] (by decide)
      · exact hu.cs
    · rw [blanks_hi u hall]; exact hu.cs
theorem cs_flat (b : Bool) {l : List UInt8} (h : Cs l) : Cs (Sp.flat b l) := by
  have := cs_lines _ l (Nat.le_refl _) h
  unfold Sp.flat
  split
  · exact cs_blank this
  · exact this

theorem u8_is (k : Nat) (h : k < 256) : (UInt8.ofNat k).toNat = k := by simp [UInt8.toNat_ofNat']; omega
theorem tailR_ok (n : Nat) (r0 r : Int) (u t : List UInt8) (hu : u.length = n - 1) (hc : u.all Sp.contB = true) (hf : Sp.foldR r0 u = r) (hp : (Sp.putI r).length = n) : Sp.tailR n r0 (u ++ t) = (r, n) := by
  have htk : (u ++ t).take (n - 1) = u := List.take_left' hu
  unfold Sp.tailR
  rw [if_neg (by rw [List.length_append]; omega), htk, if_pos hc, hf, if_pos hp]
theorem put_chn (r : Int) (h : Sp.isChar r = true) : Chn (Sp.put r) r := by
  have hr : Sp.isRune r = true := by
    unfold Sp.isChar at h
    simp only [Bool.and_eq_true] at h
    exact h.1.1.2
  have hi := isRune_iff hr
  by_cases h1 : r < 128
  · have e : Sp.put r = [UInt8.ofNat r.toNat] := by
      unfold Sp.put Sp.putI
      rw [if_pos hr, if_pos h1]; rfl
    have e2 : ((UInt8.ofNat r.toNat).toNat : Int) = r := by rw [u8_is _ (by omega)]; omega
    rw [e]
    have := chn_asc (c := UInt8.ofNat r.toNat) (by omega) (by rw [e2]; exact h)
    rwa [e2] at this
  · by_cases h2 : r < 2048
    · have e : Sp.putI r = [192 + r / 64, 128 + r % 64] := by
        unfold Sp.putI
        rw [if_pos hr, if_neg h1, if_pos h2]
      have e' : Sp.put r = [UInt8.ofNat (192 + r / 64).toNat, UInt8.ofNat (128 + r % 64).toNat] := by unfold Sp.put; rw [e]; rfl
      have a1 := u8_is (192 + r / 64).toNat (by omega)
      have a2 := u8_is (128 + r % 64).toNat (by omega)
      rw [e']
      generalize UInt8.ofNat (192 + r / 64).toNat = x1 at *
      generalize UInt8.ofNat (128 + r % 64).toNat = x2 at *
      refine ⟨by simp, fun t => ?_, h, ?_, .inr ⟨by omega, ?_⟩⟩
      · have hf : Sp.foldR ((x1.toNat : Int) - 192) [x2] = r := by
          simp only [Sp.foldR, List.foldl_cons, List.foldl_nil]; omega
        simp only [List.cons_append, List.nil_append, Sp.next]
        rw [if_neg (by omega), if_neg (by omega), if_pos (by omega)]
        exact tailR_ok _ _ _ [x2] t rfl (by simp [Sp.contB]; omega) hf (by rw [e]; rfl)
      · simp only [List.tail_cons, List.mem_singleton, forall_eq]; omega
      · simp only [List.mem_cons, List.not_mem_nil, or_false, forall_eq_or_imp, forall_eq]; omega
    · by_cases h3 : r < 65536
      · have e : Sp.putI r = [224 + r / 4096, 128 + r / 64 % 64, 128 + r % 64] := by
          unfold Sp.putI
          rw [if_pos hr, if_neg h1, if_neg h2, if_pos h3]
        have e' : Sp.put r = [UInt8.ofNat (224 + r / 4096).toNat, UInt8.ofNat (128 + r / 64 % 64).toNat, UInt8.ofNat (128 + r % 64).toNat] := by unfold Sp.put; rw [e]; rfl
        have a1 := u8_is (224 + r / 4096).toNat (by omega)
        have a2 := u8_is (128 + r / 64 % 64).toNat (by omega)
        have a3 := u8_is (128 + r % 64).toNat (by omega)
        rw [e']
        generalize UInt8.ofNat (224 + r / 4096).toNat = x1 at *
        generalize UInt8.ofNat (128 + r / 64 % 64).toNat = x2 at *
        generalize UInt8.ofNat (128 + r % 64).toNat = x3 at *
        refine ⟨by simp, fun t => ?_, h, ?_, .inr ⟨by omega, ?_⟩⟩
        · have hf : Sp.foldR ((x1.toNat : Int) - 224) [x2, x3] = r := by
            simp only [Sp.foldR, List.foldl_cons, List.foldl_nil]; omega
          simp only [List.cons_append, List.nil_append, Sp.next]
          rw [if_neg (by omega), if_neg (by omega), if_neg (by omega), if_pos (by omega)]
          exact tailR_ok _ _ _ [x2, x3] t rfl (by simp [Sp.contB]; omega) hf (by rw [e]; rfl)
        · simp only [List.tail_cons, List.mem_cons, List.not_mem_nil, or_false, forall_eq_or_imp, forall_eq]; omega
        · simp only [List.mem_cons, List.not_mem_nil, or_false, forall_eq_or_imp, forall_eq]; omega
      · have e : Sp.putI r = [240 + r / 262144, 128 + r / 4096 % 64, 128 + r / 64 % 64, 128 + r % 64] := by
          unfold Sp.putI
          rw [if_pos hr, if_neg h1, if_neg h2, if_neg h3]
        have e' : Sp.put r = [UInt8.ofNat (240 + r / 262144).toNat, UInt8.ofNat (128 + r / 4096 % 64).toNat, UInt8.ofNat (128 + r / 64 % 64).toNat, UInt8.ofNat (128 + r % 64).toNat] := by unfold Sp.put; rw [e]; rfl
        have a1 := u8_is (240 + r / 262144).toNat (by omega)
        have a2 := u8_is (128 + r / 4096 % 64).toNat (by omega)
        have a3 := u8_is (128 + r / 64 % 64).toNat (by omega)
        have a4 := u8_is (128 + r % 64).toNat (by omega)
        rw [e']
        generalize UInt8.ofNat (240 + r / 262144).toNat = x1 at *
        generalize UInt8.ofNat (128 + r / 4096 % 64).toNat = x2 at *
        generalize UInt8.ofNat (128 + r / 64 % 64).toNat = x3 at *
        generalize UInt8.ofNat (128 + r % 64).toNat = x4 at *
        refine ⟨by simp, fun t => ?_, h, ?_, .inr ⟨by omega, ?_⟩⟩
        · have hf : Sp.foldR ((x1.toNat : Int) - 240) [x2, x3, x4] = r := by
            simp only [Sp.foldR, List.foldl_cons, List.foldl_nil]; omega
          simp only [List.cons_append, List.nil_append, Sp.next]
          rw [if_neg (by omega), if_neg (by omega), if_neg (by omega), if_neg (by omega), if_pos (by omega)]
          exact tailR_ok _ _ _ [x2, x3, x4] t rfl (by simp [Sp.contB]; omega) hf (by rw [e]; rfl)
        · simp only [List.tail_cons, List.mem_cons, List.not_mem_nil, or_false, forall_eq_or_imp, forall_eq]; omega
        · simp only [List.mem_cons, List.not_mem_nil, or_false, forall_eq_or_imp, forall_eq]; omega

theorem cs_numRune (base : Nat) (t x : List UInt8) (h : Sp.numRune base t = some x) : Cs x := by
  unfold Sp.numRune at h
  split at h
  · cases h
  · split at h
    · split at h
      · rename_i hc
        injection h with h
        rw [← h]
        exact (put_chn _ hc).cs
      · cases h
    · cases h
theorem cs_refText (y x : List UInt8) (h : Sp.refText y = some x) : Cs x := by
  unfold Sp.refText at h
  split at h
  · rename_i t ht
    injection h with h
    subst h
    unfold Sp.namedO at ht
    repeat (split at ht; · (injection ht with ht; rw [← ht]; exact cs_asc _ (by decide)))
    cases ht
  · unfold Sp.numO at h
    split at h
    · exact cs_numRune _ _ _ h
    · exact cs_numRune _ _ _ h
    · cases h
theorem cs_text (e : UInt8) (b : Bool) (fr : Nat) (he : e.toNat < 128) : ∀ (k p : Nat) (l acc : List UInt8) (n : Nat) (x : List UInt8) (m : Nat), Sp.text e b fr k p l acc n = .ok (x, m) → Cs l → Cs acc → Cs x := by
  intro k
  induction k with
  | zero =>
    intro p l acc n x m h _ ha
    injection h with h; injection h with h1 h2
    rw [← h1]; exact ha
  | succ k ih =>
    intro p l acc n x m h hl ha
    cases l with
    | nil => injection h with h; injection h with h1 h2; rw [← h1]; exact ha
    | cons c t =>
      unfold Sp.text at h
      split at h
      · injection h with h; injection h with h1 h2; rw [← h1]; exact ha
      · split at h
        · split at h
          · cases h
          · rename_i y q hr
            obtain ⟨hf, _, e', _, _, h2⟩ := ref_far _ _ _ _ hr
            exact ih _ _ _ _ _ _ h (hl.side (hf.2 hl)).2 (cs_append ha (cs_refText _ _ h2))
        · split at h
          · cases h
          · have hs := hl.side ((plain_far e he (c :: t)).2 hl)
            rw [← sp_takeWhile] at hs
            rw [sp_dropWhile] at h
            exact ih _ _ _ _ _ _ h hs.2 (cs_append ha (cs_flat b hs.1))
theorem take_name {l : List UInt8} (h : Cs l) (h0 : Sp.nameN (l.length + 1) true l ≠ 0) : Sp.isName (l.take (Sp.nameN (l.length + 1) true l)) = true := by
  have hf := name_far l (l.length + 1) true (Nat.lt_succ_self _)
  have hs := h.side (hf.2 h)
  have hle := hf.1
  generalize hn : Sp.nameN (l.length + 1) true l = n at *
  have hal := hs.1.al (l.drop n)
  have hlen : (l.take n).length = n := by rw [List.length_take]; omega
  have := cut_name (l.drop n) ((l.take n).length + 1) (l.length + 1) true (l.take n) hal (Nat.lt_succ_self _) (by rw [List.take_append_drop]; omega)
  rw [List.take_append_drop, hn, hlen, Nat.min_self] at this
  unfold Sp.isName
  rw [hlen, this]
  simp
  refine ⟨by omega, ?_⟩
  rintro rfl
  simp at hle
  exact h0 (by omega)
def GoodA (a : Sp.At) : Prop := Sp.isName a.name = true ∧ Sp.chars a.value = true
def GoodM (m : Sp.Mk) : Prop := (m.kind = 1 → Sp.isName m.name = true ∧ ∀ a ∈ m.attrs, GoodA a) ∧ Sp.chars m.text = true
theorem attr_good (fr p : Nat) (l : List UInt8) (a : Sp.At) (m : Nat) (h : Sp.attr fr p l = .ok (a, m)) (hc : Cs l) : GoodA a := by
  by_cases h0 : Sp.nameN (l.length + 1) true l = 0
  · rw [attr_zero h0] at h; cases h
  · have hnf := (name_far l (l.length + 1) true (Nat.lt_succ_self _)).2 hc
    have hc1 := (hc.side hnf).2
    have htn := take_name hc h0
    by_cases hh : ((l.drop (Sp.nameN (l.length + 1) true l)).drop (Sp.blanksN (l.drop (Sp.nameN (l.length + 1) true l)))).head? = some 61
    · obtain ⟨l3, h3⟩ := sp_head_cons hh
      have hc2 := (hc1.side ((blanks_far _).2 hc1)).2
      rw [h3] at hc2
      have hc3 := (isChar_asc hc2 (by decide)).2
      have hc4 := (hc3.side ((blanks_far _).2 hc3)).2
      rw [attr_more rfl h0 rfl h3 rfl rfl] at h
      generalize l3.drop (Sp.blanksN l3) = l4 at h hc4
      unfold attrTail at h
      cases l4 with
      | nil => cases h
      | cons e l5 =>
        simp only at h
        split at h
        · rename_i he
          have he128 : e.toNat < 128 := by rcases he with rfl | rfl <;> decide
          split at h
          · cases h
          · rename_i x m' ht
            split at h
            · cases h
            · injection h with h; injection h with h1 h2
              rw [← h1]
              exact ⟨htn, cs_chars (cs_text _ _ _ he128 _ _ _ _ _ _ _ ht (isChar_asc hc4 he128).2 .nil)⟩
        · cases h
    · rw [attr_none rfl h0 rfl rfl hh] at h; cases h
theorem attrs_good (fr : Nat) : ∀ (k p : Nat) (l : List UInt8) (acc : List Sp.At) (n : Nat) (az : List Sp.At) (e : Bool) (m : Nat), Sp.attrs fr k p l acc n = .ok (az, e, m) → Cs l → (∀ a ∈ acc, GoodA a) → ∀ a ∈ az, GoodA a := by
  intro k
  induction k with
  | zero =>
    intro p l acc n az e m h _ ha
    injection h with h; injection h with h1 h2; injection h2 with h2 h3
    subst h1
    exact ha
  | succ k ih =>
    intro p l acc n az e m h hc ha
    rw [attrs_in] at h
    have hcb := (hc.side ((blanks_far l).2 hc)).2
    obtain ⟨b, hb⟩ : ∃ b, Sp.blanksN l = b := ⟨_, rfl⟩
    rw [hb] at h hcb
    by_cases h62 : (l.drop b).head? = some 62
    · obtain ⟨t, ht⟩ := sp_head_cons h62
      rw [ht, in_gt] at h
      injection h with h; injection h with h1 h2; injection h2 with h2 h3
      subst h1
      exact ha
    · by_cases h47 : (l.drop b).head? = some 47
      · obtain ⟨t, ht⟩ := sp_head_cons h47
        rw [ht] at h
        by_cases h2 : t.head? = some 62
        · obtain ⟨t2, rfl⟩ := sp_head_cons h2
          rw [in_sl_gt] at h
          injection h with h; injection h with h1 h2; injection h2 with h2 h3
          subst h1
          exact ha
        · rw [in_sl_no _ _ _ _ _ _ _ _ h2] at h; cases h
      · by_cases hb0 : b = 0
        · subst hb0
          rw [in_gap _ _ _ _ _ _ _ h62 h47] at h; cases h
        · rw [in_attr _ _ _ _ _ _ _ _ h62 h47 hb0] at h
          cases hat : Sp.attr fr (p + b) (l.drop b) with
          | error f => rw [hat] at h; cases h
          | ok r =>
            obtain ⟨a, m0⟩ := r
            rw [hat] at h
            have hfd := ((attr_fd fr (p + b) (l.drop b)).2 a m0 hat).1
            have hg := attr_good _ _ _ _ _ hat hcb
            exact ih _ _ _ _ _ _ _ h (hcb.side (hfd.2 hcb)).2 (fun x hx => by
              rcases List.mem_append.1 hx with hx | hx
              · exact ha x hx
              · rw [List.mem_singleton.1 hx]; exact hg)
theorem chars_nil : Sp.chars [] = true := rfl
theorem tell_good (t : List UInt8) (p : Nat) (h : Cs t) : ∀ m ∈ Sp.tell t p, GoodM m := by
  intro m hm
  unfold Sp.tell at hm
  split at hm
  · cases hm
  · rw [List.mem_singleton.1 hm]; exact ⟨fun h => absurd h (by show ¬ (3 = 1); decide), cs_chars h⟩
theorem piece_good (p : Nat) (c : UInt8) (t : List UInt8) (ms : List Sp.Mk) (n : Nat) (h : Sp.piece p (c :: t) = .ok (ms, n)) (hc : Cs (c :: t)) : ∀ m ∈ ms, GoodM m := by
  unfold Sp.piece at h
  split at h
  · split at h
    · cases h
    · injection h with h; injection h with h1 h2
      subst h1
      exact fun m hm => nomatch hm
  · split at h
    · split at h
      · cases h
      · rename_i hpre _ i hi
        injection h with h; injection h with h1 h2
        subst h1
        refine tell_good _ _ (cs_lines _ _ (Nat.le_refl _) ?_)
        obtain ⟨r, hr⟩ := List.isPrefixOf_iff_prefix.1 hpre
        have h9 : (c :: t).drop 9 = r := by rw [← hr]; rfl
        rw [h9] at hi ⊢
        have hcr : Cs r := by
          have := hc.at_ascii [60, 33, 91, 67, 68, 65, 84, 65] r 91 (by rw [← hr]; rfl) (by decide)
          exact this.2.2
        have ha := find_at _ _ _ hi
        obtain ⟨v, hv⟩ := ha
        exact (hcr.side (.inr (.inr (.inl ⟨93, 93 :: 62 :: v, by rw [← hv]; rfl, by decide⟩)))).1
    · split at h
      · obtain ⟨y, h1, h2⟩ := map_ok h
        injection h2 with h2 h3
        subst h2
        have h1' : Sp.closing p (c :: t) = .ok (y.1, y.2) := h1
        unfold Sp.closing at h1'
        simp only at h1'
        split at h1'
        · cases h1'
        · split at h1'
          · injection h1' with h1'; injection h1' with h4 h5
            intro m hm
            rw [List.mem_singleton.1 hm, ← h4]
            exact ⟨fun h => absurd h (by show ¬ (2 = 1); decide), chars_nil⟩
          · cases h1'
      · split at h
        · rename_i hpre
          obtain ⟨t2, ht2⟩ := prefix_cons hpre
          injection ht2 with hc60 ht2
          subst hc60
          subst ht2
          have hct := (isChar_asc hc (by decide)).2
          obtain ⟨y, h1, h2⟩ := map_ok h
          injection h2 with h2 h3
          subst h2
          have h1' : Sp.opening p (60 :: t) = .ok (y.1, y.2) := h1
          unfold Sp.opening at h1'
          simp only [List.drop_succ_cons, List.drop_zero] at h1'
          split at h1'
          · cases h1'
          · rename_i h0
            have htn := take_name hct h0
            have hcd := (hct.side ((name_far t _ true (Nat.lt_succ_self _)).2 hct)).2
            split at h1'
            · cases h1'
            · rename_i hat
              have k2 := attrs_good _ _ _ _ _ _ _ _ _ hat hcd (fun a ha => nomatch ha)
              injection h1' with h1'; injection h1' with h4 h5
              intro m hm
              rw [List.mem_singleton.1 hm, ← h4]
              exact ⟨fun _ => ⟨htn, k2⟩, chars_nil⟩
        · obtain ⟨y, h1, h2⟩ := map_ok h
          injection h2 with h2 h3
          subst h2
          exact tell_good _ _ (cs_text 60 false p (by decide) _ _ _ _ _ y.1 y.2 h1 hc .nil)
theorem pieces_good : ∀ (k p : Nat) (l : List UInt8) (acc r : List Sp.Mk), Sp.pieces k p l acc = .ok r → Cs l → (∀ m ∈ acc, GoodM m) → ∀ m ∈ r, GoodM m := by
  intro k
  induction k with
  | zero =>
    intro p l acc r h _ ha
    cases l <;> (injection h with h; subst h; exact ha)
  | succ k ih =>
    intro p l acc r h hc ha
    cases l with
    | nil => injection h with h; subst h; exact ha
    | cons c t =>
      unfold Sp.pieces at h
      cases hp : Sp.piece p (c :: t) with
      | error f => rw [hp] at h; cases h
      | ok x =>
        obtain ⟨ms, n⟩ := x
        rw [hp] at h
        have hfar := (piece_fd p c t).2 ms n hp
        have hg := piece_good p c t ms n hp hc
        exact ih _ _ _ _ h (hc.side (hfar.2 hc)).2 (fun m hm => by
          rcases List.mem_append.1 hm with hm | hm
          · exact ha m hm
          · exact hg m hm)
theorem marks_good (l : List UInt8) (r : List Sp.Mk) (h : Sp.marks l = .ok r) : ∀ m ∈ r, GoodM m := by
  unfold Sp.marks at h
  split at h
  · cases h
  · split at h
    · cases h
    · rename_i hb
      split at h
      · cases h
      · rename_i hc
        have hcs := Cs.of_none _ _ _ _ hb hc
        split at h
        · cases h
        · rename_i n hp
          have hfar := (prolog_fd l).2 n hp
          exact pieces_good _ _ _ _ _ h (hcs.side (hfar.2 hcs)).2 (fun m hm => nomatch hm)
end Go.Proofs.YtokdclmikllepaaGreatDoor
