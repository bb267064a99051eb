import Derived.Test.YtokdclmikllepaaGreatDoorKt0
/-
  Plain specification of the layer spaces: names with their name spaces. No Go and no memory in it.
-/
namespace Go.Proofs.YtokdclmikllepaaGreatDoor.Sp

def colon (s : Bs) : Option Nat := s.findIdx? (· == 58)
/-- A qualified name, cut: prefix, local name, and whether it is one. -/
def cut (s : Bs) : Bs × Bs × Bool :=
  match colon s with
  | none => ([], s, decide (s ≠ []))
  | some i => (s.take i, s.drop (i + 1), decide (s.take i ≠ []) && decide (s.drop (i + 1) ≠ []) && (colon (s.drop (i + 1))).isNone)
def xmlnsB : Bs := [120, 109, 108, 110, 115]
def xmlB : Bs := [120, 109, 108]
def xmlSpace : Bs := [104, 116, 116, 112, 58, 47, 47, 119, 119, 119, 46, 119, 51, 46, 111, 114, 103, 47, 88, 77, 76, 47, 49, 57, 57, 56, 47, 110, 97, 109, 101, 115, 112, 97, 99, 101]
/-- What an attribute declares: a prefix; whether it does. -/
def declares (s : Bs) : Bs × Bool :=
  if s = xmlnsB then ([], true)
  else if (xmlnsB ++ [58]).isPrefixOf s = true then (s.drop 6, true)
  else (s, false)

structure SA where
  space : Bs
  name : Bs
  value : Bs
  at_ : Int
deriving DecidableEq
structure SE where
  space : Bs
  name : Bs
  attrs : List SA
  text : Bs
  up : Int
  at_ : Int
deriving DecidableEq

abbrev Sc := List (Bs × Bs)
abbrev FltI := Int × Nat
def baseS : Sc := [([], []), (xmlB, xmlSpace)]
def badA (a : EA) : Bool := !(cut a.name).2.2 || ((declares a.name).2 && (decide ((declares a.name).1 = xmlnsB) || decide ((declares a.name).1 = xmlB))) || ((declares a.name).2 && decide ((declares a.name).1 ≠ []) && decide (a.value = []))
def withS : Sc → List EA → Except FltI Sc
  | sc, [] => .ok sc
  | sc, a :: t =>
    if badA a = true then .error (a.at_, 101)
    else if (declares a.name).2 = true then withS (((declares a.name).1, a.value) :: sc) t
    else withS sc t
/-- The space of an attribute. -/
def spaceA (sc : Sc) (a : EA) : Option Bs := if (cut a.name).1 = [] then some [] else sc.lookup (cut a.name).1
def attrsS (sc : Sc) : List (Bs × Bs) → List EA → List SA → Except FltI (List SA)
  | _, [], acc => .ok acc
  | met, a :: t, acc =>
    if (declares a.name).2 = true then attrsS sc met t acc
    else match spaceA sc a with
      | none => .error (a.at_, 101)
      | some s =>
        if met.contains (s, (cut a.name).2.1) = true then .error (a.at_, 92)
        else attrsS sc ((s, (cut a.name).2.1) :: met) t (acc ++ [⟨s, (cut a.name).2.1, a.value, a.at_⟩])
/-- The scope around an element. -/
def aroundS (scs : List Sc) (i : Nat) (x : EE) : Sc := if i = 0 then baseS else scs.getD x.up.toNat []
def elemS (scs : List Sc) (i : Nat) (x : EE) : Except FltI (Sc × SE) :=
  if (cut x.name).2.2 = false ∨ (cut x.name).1 = xmlnsB then .error (x.at_, 101)
  else match withS (aroundS scs i x) x.attrs with
    | .error f => .error f
    | .ok sc => match sc.lookup (cut x.name).1 with
      | none => .error (x.at_, 101)
      | some s => match attrsS sc [] x.attrs [] with
        | .error f => .error f
        | .ok as => .ok (sc, ⟨s, (cut x.name).2.1, as, x.text, x.up, x.at_⟩)
def runS : Nat → List Sc → List EE → List SE → Except FltI (List SE)
  | _, _, [], acc => .ok acc
  | i, scs, x :: t, acc => match elemS scs i x with
    | .error f => .error f
    | .ok r => runS (i + 1) (scs ++ [r.1]) t (acc ++ [r.2])
def upOk : Nat → List EE → Bool
  | _, [] => true
  | i, x :: t => (if i = 0 then decide (x.up = -1) else decide (0 ≤ x.up) && decide (x.up < i)) && upOk (i + 1) t
def resolve (l : List EE) : Except FltI (List SE) := if upOk 0 l = true then runS 0 [] l [] else .error (0, 2)
end Go.Proofs.YtokdclmikllepaaGreatDoor.Sp
/-
  Plain laws of spaces: what prefixes are called means nothing.
-/
namespace Go.Proofs.YtokdclmikllepaaGreatDoor
set_option linter.unusedVariables false
set_option linter.unusedSimpArgs false

/-! ### qualified names -/
theorem colon_none {s : List UInt8} : Sp.colon s = none ↔ ∀ c ∈ s, c ≠ 58 := by
  unfold Sp.colon
  rw [List.findIdx?_eq_none_iff]
  simp
theorem colon_mk {p q : List UInt8} (h : Sp.colon p = none) : Sp.colon (p ++ 58 :: q) = some p.length := by
  unfold Sp.colon at h ⊢
  rw [List.findIdx?_append, h]
  simp [List.findIdx?_cons]
theorem cut_mk {p q : List UInt8} (h : Sp.colon p = none) : Sp.cut (p ++ 58 :: q) = (p, q, decide (p ≠ []) && decide (q ≠ []) && (Sp.colon q).isNone) := by
  unfold Sp.cut
  rw [colon_mk h]
  have e1 : (p ++ 58 :: q).take p.length = p := List.take_left' rfl
  have e2 : (p ++ 58 :: q).drop (p.length + 1) = q := by rw [← List.drop_drop, List.drop_left' rfl]; rfl
  simp only [e1, e2]
theorem cutS_no {s : List UInt8} (h : Sp.colon s = none) : Sp.cut s = ([], s, decide (s ≠ [])) := by
  unfold Sp.cut; rw [h]
/-- Whatever a name is: without a colon, or cut at the first one. -/
theorem cut_ways (s : List UInt8) : Sp.colon s = none ∨ ∃ p q, s = p ++ 58 :: q ∧ Sp.colon p = none := by
  cases h : Sp.colon s with
  | none => exact .inl rfl
  | some i =>
    right
    unfold Sp.colon at h
    obtain ⟨hi, h1, h2⟩ := List.findIdx?_eq_some_iff_getElem.1 h
    refine ⟨s.take i, s.drop (i + 1), ?_, ?_⟩
    · have h3 : s[i] = 58 := by simpa using h1
      rw [← h3, ← List.drop_eq_getElem_cons hi, List.take_append_drop]
    · rw [colon_none]
      intro c hc
      obtain ⟨j, hj, rfl⟩ := List.mem_iff_getElem.1 hc
      rw [List.length_take] at hj
      have := h2 j (by omega)
      rw [List.getElem_take]
      simpa using this
theorem xmlns_colon : Sp.colon Sp.xmlnsB = none := by decide
theorem pre_colon {p q x : List UInt8} (hp : Sp.colon p = none) (hx : Sp.colon x = none) : (x ++ [58]).isPrefixOf (p ++ 58 :: q) = true ↔ p = x := by
  rw [List.isPrefixOf_iff_prefix]
  constructor
  · rintro ⟨r, hr⟩
    have h1 := colon_mk (q := q) hp
    have h2 := colon_mk (q := r) hx
    rw [← hr, List.append_assoc] at h1
    have : x.length = p.length := by
      have := h2.symm.trans h1
      injection this
    rw [List.append_assoc] at hr
    exact (List.append_inj hr this).1.symm
  · rintro rfl
    exact ⟨q, by simp⟩
theorem decl_mk {p q : List UInt8} (h : Sp.colon p = none) : Sp.declares (p ++ 58 :: q) = if p = Sp.xmlnsB then (q, true) else (p ++ 58 :: q, false) := by
  unfold Sp.declares
  have h0 : p ++ 58 :: q ≠ Sp.xmlnsB := by
    intro e
    have := colon_mk (q := q) h
    rw [e, xmlns_colon] at this
    cases this
  rw [if_neg h0]
  by_cases hp : p = Sp.xmlnsB
  · rw [if_pos hp, if_pos ((pre_colon h xmlns_colon).2 hp)]
    subst hp
    rfl
  · rw [if_neg hp, if_neg (fun e => hp ((pre_colon h xmlns_colon).1 e))]
theorem decl_no {s : List UInt8} (h : Sp.colon s = none) : Sp.declares s = if s = Sp.xmlnsB then ([], true) else (s, false) := by
  unfold Sp.declares
  by_cases hs : s = Sp.xmlnsB
  · rw [if_pos hs, if_pos hs]
  · rw [if_neg hs, if_neg hs, if_neg]
    intro e
    obtain ⟨r, hr⟩ := List.isPrefixOf_iff_prefix.1 e
    rw [colon_none] at h
    exact h 58 (by rw [← hr]; simp) rfl

/-! ### prefixes named anew -/
def rho (p : List UInt8) : List UInt8 := if p = [] ∨ p = Sp.xmlB then p else p ++ [113]
def againL (s : List UInt8) : List UInt8 := if (Sp.cut s).1 = [] ∨ (Sp.cut s).1 = Sp.xmlB then s else (Sp.cut s).1 ++ [113, 58] ++ (Sp.cut s).2.1
def renA (a : Sp.EA) : Sp.EA := ⟨if (Sp.declares a.name).2 = true then (if a.name = Sp.xmlnsB then a.name else a.name ++ [113]) else againL a.name, a.value, a.at_⟩
def renE (x : Sp.EE) : Sp.EE := ⟨againL x.name, x.attrs.map renA, x.text, x.up, x.at_⟩
theorem snoc_ne {p x : List UInt8} {c d : UInt8} (h : c ≠ d) : p ++ [c] ≠ x ++ [d] := by
  intro e
  have := (List.append_inj' e rfl).2
  injection this with this
  exact h this
theorem rho_inj {p q : List UInt8} (h : rho p = rho q) : p = q := by
  unfold rho at h
  split at h
  · rename_i h1
    split at h
    · exact h
    · rcases h1 with rfl | rfl
      · simp at h
      · exact absurd h.symm (snoc_ne (x := [120, 109]) (by decide))
  · split at h
    · rename_i h2
      rcases h2 with rfl | rfl
      · simp at h
      · exact absurd h (snoc_ne (x := [120, 109]) (by decide))
    · exact (List.append_inj' h rfl).1
theorem rho_ne {p : List UInt8} (h : p ≠ Sp.xmlnsB) : rho p ≠ Sp.xmlnsB := by
  unfold rho
  split
  · exact h
  · exact snoc_ne (x := [120, 109, 108, 110]) (by decide)
theorem rho_xml {p : List UInt8} (h : p ≠ Sp.xmlB) : rho p ≠ Sp.xmlB := by
  unfold rho
  split
  · exact h
  · exact snoc_ne (x := [120, 109]) (by decide)
theorem rho_nil {p : List UInt8} : rho p = [] ↔ p = [] := by
  constructor
  · intro h
    exact rho_inj (h.trans (show [] = rho [] from rfl))
  · rintro rfl; rfl
theorem rho_colon {p : List UInt8} (h : Sp.colon p = none) : Sp.colon (rho p) = none := by
  unfold rho
  split
  · exact h
  · rw [colon_none] at h ⊢
    intro c hc
    rcases List.mem_append.1 hc with hc | hc
    · exact h c hc
    · rw [List.mem_singleton.1 hc]; decide
/-- A good name, its prefix named anew. -/
theorem cut_again {s : List UInt8} (h : (Sp.cut s).2.2 = true) : Sp.cut (againL s) = (rho (Sp.cut s).1, (Sp.cut s).2.1, true) := by
  rcases cut_ways s with hn | ⟨p, q, rfl, hp⟩
  · rw [cutS_no hn] at h
    have e : againL s = s := by unfold againL; rw [cutS_no hn]; simp
    simp only at h
    rw [e, cutS_no hn]
    simp only
    rw [h]
    rfl
  · rw [cut_mk hp] at h
    simp only [Bool.and_eq_true, decide_eq_true_eq, Option.isNone_iff_eq_none] at h
    obtain ⟨⟨h1, h2⟩, h3⟩ := h
    have e : againL (p ++ 58 :: q) = rho p ++ 58 :: q := by
      unfold againL rho
      rw [cut_mk hp]
      simp only
      split
      · rfl
      · simp
    rw [e, cut_mk (rho_colon hp), cut_mk hp]
    simp [rho_nil, h1, h2, h3]
/-- It declares nothing, if it did not. -/
theorem decl_again {s : List UInt8} (h : (Sp.cut s).2.2 = true) (hd : (Sp.declares s).2 = false) : (Sp.declares (againL s)).2 = false := by
  rcases cut_ways s with hn | ⟨p, q, rfl, hp⟩
  · have e : againL s = s := by unfold againL; rw [cutS_no hn]; simp
    rw [e]; exact hd
  · have e : againL (p ++ 58 :: q) = rho p ++ 58 :: q := by
      unfold againL rho
      rw [cut_mk hp]
      simp only
      split
      · rfl
      · simp
    have hpx : p ≠ Sp.xmlnsB := by
      rintro rfl
      rw [decl_mk hp, if_pos rfl] at hd
      cases hd
    rw [e, decl_mk (rho_colon hp), if_neg (rho_ne hpx)]
theorem badA_is {a : Sp.EA} (h : Sp.badA a = false) : (Sp.cut a.name).2.2 = true ∧ ((Sp.declares a.name).2 = true → (Sp.declares a.name).1 ≠ Sp.xmlnsB ∧ (Sp.declares a.name).1 ≠ Sp.xmlB ∧ ((Sp.declares a.name).1 ≠ [] → a.value ≠ [])) := by
  unfold Sp.badA at h
  simp only [Bool.or_eq_false_iff, Bool.not_eq_false', Bool.and_eq_false_iff, decide_eq_false_iff_not] at h
  obtain ⟨⟨h1, h2⟩, h3⟩ := h
  refine ⟨h1, fun hd => ?_⟩
  rw [hd] at h2 h3
  simp at h2 h3
  exact ⟨h2.1, h2.2, fun hne => h3.resolve_left hne⟩
theorem badA_mk {a : Sp.EA} (h1 : (Sp.cut a.name).2.2 = true) (h2 : (Sp.declares a.name).2 = true → (Sp.declares a.name).1 ≠ Sp.xmlnsB ∧ (Sp.declares a.name).1 ≠ Sp.xmlB ∧ ((Sp.declares a.name).1 ≠ [] → a.value ≠ [])) : Sp.badA a = false := by
  unfold Sp.badA
  rw [h1]
  cases hd : (Sp.declares a.name).2 with
  | false => rfl
  | true =>
    obtain ⟨k1, k2, k3⟩ := h2 hd
    simp [k1, k2]
    exact k3
/-- A declaration, its prefix named anew. -/
theorem ren_decl {a : Sp.EA} (h : Sp.badA a = false) (hd : (Sp.declares a.name).2 = true) :
    (Sp.cut (renA a).name).2.2 = true ∧ (Sp.declares (renA a).name) = (rho (Sp.declares a.name).1, true) := by
  obtain ⟨h1, h2⟩ := badA_is h
  obtain ⟨k1, k2, k3⟩ := h2 hd
  have en : (renA a).name = if a.name = Sp.xmlnsB then a.name else a.name ++ [113] := by unfold renA; simp only [if_pos hd]
  rw [en]
  rcases cut_ways a.name with hn | ⟨p, q, hs, hp⟩
  · have hx : a.name = Sp.xmlnsB := by
      rw [decl_no hn] at hd
      split at hd
      · assumption
      · cases hd
    rw [if_pos hx, hx]
    exact ⟨by decide, rfl⟩
  · rw [hs] at h1 hd k1 k2 ⊢
    rw [cut_mk hp] at h1
    simp only [Bool.and_eq_true, decide_eq_true_eq, Option.isNone_iff_eq_none] at h1
    obtain ⟨⟨h4, h5⟩, h6⟩ := h1
    have hpx : p = Sp.xmlnsB := by
      rw [decl_mk hp] at hd
      split at hd
      · assumption
      · cases hd
    subst hpx
    rw [decl_mk hp, if_pos rfl] at k1 k2 ⊢
    simp only at k1 k2 ⊢
    have hne : ¬ (Sp.xmlnsB ++ 58 :: q = Sp.xmlnsB) := by
      intro e
      have := congrArg List.length e
      simp at this
    rw [if_neg hne, List.append_assoc, List.cons_append]
    have hr : rho q = q ++ [113] := by
      unfold rho
      rw [if_neg]
      rintro (e | e)
      · exact h5 e
      · exact k2 e
    rw [cut_mk hp, decl_mk hp, if_pos rfl, hr]
    refine ⟨?_, rfl⟩
    have : Sp.colon (q ++ [113]) = none := by rw [← hr]; exact rho_colon h6
    rw [this]
    simp
    decide
theorem ren_bad {a : Sp.EA} (h : Sp.badA a = false) : Sp.badA (renA a) = false ∧ (Sp.declares (renA a).name).2 = (Sp.declares a.name).2 := by
  obtain ⟨h1, h2⟩ := badA_is h
  cases hd : (Sp.declares a.name).2 with
  | true =>
    obtain ⟨k1, k2, k3⟩ := h2 hd
    obtain ⟨g1, g2⟩ := ren_decl h hd
    refine ⟨badA_mk g1 (fun _ => ?_), by rw [g2]⟩
    rw [g2]
    exact ⟨rho_ne k1, rho_xml k2, fun hn => k3 (fun e => hn (rho_nil.2 e))⟩
  | false =>
    have en : (renA a).name = againL a.name := by unfold renA; rw [hd]; simp
    have hda := decl_again h1 hd
    refine ⟨badA_mk ?_ (fun hh => ?_), ?_⟩
    · rw [en, cut_again h1]
    · rw [en, hda] at hh; cases hh
    · rw [en]; exact hda

/-! ### the same spaces -/
def SR (sc sc' : Sp.Sc) : Prop := ∀ p, sc'.lookup (rho p) = sc.lookup p
theorem SR.base : SR Sp.baseS Sp.baseS := by
  intro p
  unfold rho
  split
  · rfl
  · rename_i h
    have h1 : ¬ (p = []) := fun e => h (.inl e)
    have h2 : ¬ (p = Sp.xmlB) := fun e => h (.inr e)
    have h3 : ¬ (p ++ [113] = Sp.xmlB) := snoc_ne (x := [120, 109]) (by decide)
    have b1 : (p == []) = false := by simpa using h1
    have b2 : (p == Sp.xmlB) = false := by simpa using h2
    have b3 : (p ++ [113] == []) = false := by simp
    have b4 : (p ++ [113] == Sp.xmlB) = false := by simpa using h3
    unfold Sp.baseS
    simp only [List.lookup_cons, b1, b2, b3, b4]
    rfl
theorem SR.cons {sc sc' : Sp.Sc} (h : SR sc sc') (k v : List UInt8) : SR ((k, v) :: sc) ((rho k, v) :: sc') := by
  intro p
  rw [List.lookup_cons, List.lookup_cons, h p]
  have : (rho p == rho k) = (p == k) := by
    rw [Bool.eq_iff_iff, beq_iff_eq, beq_iff_eq]
    exact ⟨rho_inj, fun e => by rw [e]⟩
  rw [this]
theorem withS_good : ∀ (l : List Sp.EA) (sc s : Sp.Sc), Sp.withS sc l = .ok s → ∀ a ∈ l, Sp.badA a = false := by
  intro l
  induction l with
  | nil => intro sc s _ a ha; cases ha
  | cons a t ih =>
    intro sc s h x hx
    unfold Sp.withS at h
    split at h
    · cases h
    · rename_i hb
      rcases List.mem_cons.1 hx with rfl | hx
      · simpa using hb
      · split at h
        · exact ih _ _ h x hx
        · exact ih _ _ h x hx
theorem withS_ren : ∀ (l : List Sp.EA) (sc sc' s : Sp.Sc), SR sc sc' → Sp.withS sc l = .ok s → ∃ s', Sp.withS sc' (l.map renA) = .ok s' ∧ SR s s' := by
  intro l
  induction l with
  | nil => intro sc sc' s hr h; injection h with h; subst h; exact ⟨sc', rfl, hr⟩
  | cons a t ih =>
    intro sc sc' s hr h
    have hb := withS_good _ _ _ h a (List.mem_cons_self ..)
    obtain ⟨g1, g2⟩ := ren_bad hb
    unfold Sp.withS at h
    rw [List.map_cons]
    unfold Sp.withS
    rw [if_neg (by rw [hb]; simp)] at h
    rw [if_neg (by rw [g1]; simp), g2]
    split at h
    · rename_i hd
      rw [if_pos hd]
      have e : (Sp.declares (renA a).name).1 = rho (Sp.declares a.name).1 := by rw [(ren_decl hb hd).2]
      rw [e]
      exact ih _ _ _ (hr.cons _ _) h
    · rename_i hd
      rw [if_neg hd]
      exact ih _ _ _ hr h
theorem attrsS_ren : ∀ (l : List Sp.EA) (sc sc' : Sp.Sc) (met : List (List UInt8 × List UInt8)) (acc r : List Sp.SA), SR sc sc' → (∀ a ∈ l, Sp.badA a = false) → Sp.attrsS sc met l acc = .ok r → Sp.attrsS sc' met (l.map renA) acc = .ok r := by
  intro l
  induction l with
  | nil => intro sc sc' met acc r _ _ h; exact h
  | cons a t ih =>
    intro sc sc' met acc r hr hg h
    have hb := hg a (List.mem_cons_self ..)
    have ht := fun x hx => hg x (List.mem_cons_of_mem _ hx)
    obtain ⟨g1, g2⟩ := ren_bad hb
    unfold Sp.attrsS at h
    rw [List.map_cons]
    unfold Sp.attrsS
    rw [g2]
    split at h
    · rename_i hd
      rw [if_pos hd]
      exact ih _ _ _ _ _ hr ht h
    · rename_i hd
      rw [if_neg hd]
      have hd' : (Sp.declares a.name).2 = false := by simpa using hd
      have en : (renA a).name = againL a.name := by unfold renA; rw [hd']; simp
      have hc := cut_again (badA_is hb).1
      have hsp : Sp.spaceA sc' (renA a) = Sp.spaceA sc a := by
        unfold Sp.spaceA
        rw [en, hc]
        simp only [rho_nil]
        rw [hr]
      have hl : (Sp.cut (renA a).name).2.1 = (Sp.cut a.name).2.1 := by rw [en, hc]
      rw [hsp, hl]
      split at h
      · cases h
      · split at h
        · cases h
        · rename_i hm
          rw [if_neg hm]
          exact ih _ _ _ _ _ hr ht h
def SRs (l l' : List Sp.Sc) : Prop := l.length = l'.length ∧ ∀ k, SR (l.getD k []) (l'.getD k [])
theorem elemS_ren {scs scs' : List Sp.Sc} (hs : SRs scs scs') (i : Nat) (x : Sp.EE) (r : Sp.Sc × Sp.SE) (h : Sp.elemS scs i x = .ok r) : ∃ s', Sp.elemS scs' i (renE x) = .ok (s', r.2) ∧ SR r.1 s' := by
  unfold Sp.elemS at h
  split at h
  · cases h
  · rename_i hn
    have hn1 : (Sp.cut x.name).2.2 = true := by
      cases hc : (Sp.cut x.name).2.2 with
      | true => rfl
      | false => exact absurd (.inl hc) hn
    have hn2 : (Sp.cut x.name).1 ≠ Sp.xmlnsB := fun e => hn (.inr e)
    have hc : Sp.cut (renE x).name = (rho (Sp.cut x.name).1, (Sp.cut x.name).2.1, true) := cut_again hn1
    have ha : SR (Sp.aroundS scs i x) (Sp.aroundS scs' i (renE x)) := by
      unfold Sp.aroundS
      split
      · exact SR.base
      · exact hs.2 _
    split at h
    · cases h
    · rename_i s hw
      obtain ⟨s', hw', hr⟩ := withS_ren _ _ _ _ ha hw
      have hg := withS_good _ _ _ hw
      split at h
      · cases h
      · rename_i sp hl
        split at h
        · cases h
        · rename_i as hat
          injection h with h
          subst h
          refine ⟨s', ?_, hr⟩
          unfold Sp.elemS
          rw [hc]
          simp only
          rw [if_neg (by rintro (e | e); exact absurd e (by simp); exact rho_ne hn2 e)]
          show (match Sp.withS (Sp.aroundS scs' i (renE x)) (x.attrs.map renA) with | .error f => _ | .ok sc => _) = _
          rw [hw']
          simp only
          rw [hr, hl]
          simp only
          show (match Sp.attrsS s' [] (x.attrs.map renA) [] with | .error f => _ | .ok as => _) = _
          rw [attrsS_ren _ _ _ _ _ _ hr hg hat]
          rfl
theorem getD_snoc {α : Type} (l : List α) (a d : α) (k : Nat) : (l ++ [a]).getD k d = if k < l.length then l.getD k d else if k = l.length then a else d := by
  rw [List.getD_eq_getElem?_getD]
  split
  · rename_i h
    rw [List.getElem?_append_left h, List.getD_eq_getElem?_getD]
  · rename_i h
    rw [List.getElem?_append_right (by omega)]
    split
    · rename_i h2; subst h2; simp
    · rename_i h2
      rw [List.getElem?_eq_none (by simp; omega)]; rfl
theorem SRs.snoc {scs scs' : List Sp.Sc} (hs : SRs scs scs') {s s' : Sp.Sc} (h : SR s s') : SRs (scs ++ [s]) (scs' ++ [s']) := by
  refine ⟨by simp [hs.1], fun k => ?_⟩
  rw [getD_snoc, getD_snoc, ← hs.1]
  split
  · exact hs.2 k
  · split
    · exact h
    · intro p; rfl
theorem runS_ren : ∀ (l : List Sp.EE) (i : Nat) (scs scs' : List Sp.Sc) (acc r : List Sp.SE), SRs scs scs' → Sp.runS i scs l acc = .ok r → Sp.runS i scs' (l.map renE) acc = .ok r := by
  intro l
  induction l with
  | nil => intro i scs scs' acc r _ h; exact h
  | cons x t ih =>
    intro i scs scs' acc r hs h
    unfold Sp.runS at h
    rw [List.map_cons]
    unfold Sp.runS
    split at h
    · cases h
    · rename_i y hy
      obtain ⟨s', h1, h2⟩ := elemS_ren hs i x y hy
      rw [h1]
      exact ih _ _ _ _ _ (hs.snoc h2) h
theorem upOk_ren : ∀ (l : List Sp.EE) (i : Nat), Sp.upOk i (l.map renE) = Sp.upOk i l := by
  intro l
  induction l with
  | nil => intro i; rfl
  | cons x t ih => intro i; rw [List.map_cons, Sp.upOk, Sp.upOk, ih]; rfl
/-- With all prefixes named anew the same comes out. -/
theorem turnedS_law (l : List Sp.EE) (r : List Sp.SE) (h : Sp.resolve l = .ok r) : Sp.resolve (l.map renE) = .ok r := by
  unfold Sp.resolve at h ⊢
  rw [upOk_ren]
  split at h
  · rename_i hu
    rw [if_pos hu]
    exact runS_ren l 0 [] [] [] r ⟨rfl, fun k p => rfl⟩ h
  · cases h
end Go.Proofs.YtokdclmikllepaaGreatDoor
/-
  Plain law of spaces: a default space is that of each element without a prefix, and of no attribute.
-/
namespace Go.Proofs.YtokdclmikllepaaGreatDoor
set_option linter.unusedVariables false
set_option linter.unusedSimpArgs false

def dfA (space : List UInt8) : Sp.EA := ⟨Sp.xmlnsB, space, 0⟩
def dfE (space : List UInt8) (x : Sp.EE) : Sp.EE := { x with attrs := x.attrs ++ [dfA space] }
/-- What comes out with a default space. -/
def dflt (space : List UInt8) (x : Sp.EE) (y : Sp.SE) : Sp.SE := { y with space := if (Sp.cut x.name).1 = [] then space else y.space }
def DR (space : List UInt8) (sc sc' : Sp.Sc) : Prop := ∀ p, sc'.lookup p = if p = [] then some space else sc.lookup p
theorem DR.cons {space : List UInt8} {sc sc' : Sp.Sc} (h : DR space sc sc') {k : List UInt8} (hk : k ≠ []) (v : List UInt8) : DR space ((k, v) :: sc) ((k, v) :: sc') := by
  intro p
  rw [List.lookup_cons, List.lookup_cons, h p]
  by_cases hp : p = k
  · subst hp
    rw [if_neg hk]
    simp [hk]
  · have : (p == k) = false := by rw [beq_eq_false_iff_ne]; exact hp
    rw [this]
theorem decl_ne {a : Sp.EA} (h : Sp.badA a = false) (hd : (Sp.declares a.name).2 = true) (hn : a.name ≠ Sp.xmlnsB) : (Sp.declares a.name).1 ≠ [] := by
  obtain ⟨h1, h2⟩ := badA_is h
  rcases cut_ways a.name with hc | ⟨p, q, hs, hp⟩
  · rw [decl_no hc, if_neg hn] at hd
    cases hd
  · rw [hs] at h1 hd ⊢
    rw [cut_mk hp] at h1
    simp only [Bool.and_eq_true, decide_eq_true_eq] at h1
    rw [decl_mk hp] at hd ⊢
    split at hd
    · rename_i hx
      rw [if_pos hx]
      exact h1.1.2
    · cases hd
theorem withS_df (space : List UInt8) : ∀ (l : List Sp.EA) (sc sc' s : Sp.Sc), DR space sc sc' → (∀ a ∈ l, a.name ≠ Sp.xmlnsB) → Sp.withS sc l = .ok s → ∃ s', Sp.withS sc' l = .ok s' ∧ DR space s s' := by
  intro l
  induction l with
  | nil => intro sc sc' s hr _ h; injection h with h; subst h; exact ⟨sc', rfl, hr⟩
  | cons a t ih =>
    intro sc sc' s hr hn h
    have hb := withS_good _ _ _ h a (List.mem_cons_self ..)
    have ht := fun x hx => hn x (List.mem_cons_of_mem _ hx)
    unfold Sp.withS at h ⊢
    rw [if_neg (by rw [hb]; simp)] at h ⊢
    split at h
    · rename_i hd
      rw [if_pos hd]
      exact ih _ _ _ (hr.cons (decl_ne hb hd (hn a (List.mem_cons_self ..))) _) ht h
    · rename_i hd
      rw [if_neg hd]
      exact ih _ _ _ hr ht h
theorem withS_snoc (a : Sp.EA) : ∀ (l : List Sp.EA) (sc s : Sp.Sc), Sp.withS sc l = .ok s → Sp.withS sc (l ++ [a]) = Sp.withS s [a] := by
  intro l
  induction l with
  | nil => intro sc s h; injection h with h; subst h; rfl
  | cons b t ih =>
    intro sc s h
    unfold Sp.withS at h
    rw [List.cons_append]
    conv => lhs; unfold Sp.withS
    split at h
    · cases h
    · rename_i hb
      rw [if_neg hb]
      split at h
      · rename_i hd; rw [if_pos hd]; exact ih _ _ h
      · rename_i hd; rw [if_neg hd]; exact ih _ _ h
theorem spaceA_df {space : List UInt8} {sc sc' : Sp.Sc} (h : DR space sc sc') (a : Sp.EA) : Sp.spaceA sc' a = Sp.spaceA sc a := by
  unfold Sp.spaceA
  split
  · rfl
  · rename_i hp
    rw [h, if_neg hp]
theorem attrsS_df {space : List UInt8} {sc sc' : Sp.Sc} (h : DR space sc sc') : ∀ (l : List Sp.EA) (met : List (List UInt8 × List UInt8)) (acc : List Sp.SA), Sp.attrsS sc' met l acc = Sp.attrsS sc met l acc := by
  intro l
  induction l with
  | nil => intro met acc; rfl
  | cons a t ih =>
    intro met acc
    unfold Sp.attrsS
    rw [spaceA_df h]
    simp only [ih]
theorem attrsS_snoc (sc : Sp.Sc) (a : Sp.EA) (ha : (Sp.declares a.name).2 = true) : ∀ (l : List Sp.EA) (met : List (List UInt8 × List UInt8)) (acc : List Sp.SA), Sp.attrsS sc met (l ++ [a]) acc = Sp.attrsS sc met l acc := by
  intro l
  induction l with
  | nil =>
    intro met acc
    rw [List.nil_append]
    conv => lhs; unfold Sp.attrsS
    rw [if_pos ha]
  | cons b t ih =>
    intro met acc
    rw [List.cons_append]
    unfold Sp.attrsS
    simp only [ih]
def DRs (space : List UInt8) (l l' : List Sp.Sc) : Prop := l.length = l'.length ∧ ∀ k, k < l.length → DR space (l.getD k []) (l'.getD k [])
theorem DRs.snoc {space : List UInt8} {scs scs' : List Sp.Sc} (hs : DRs space scs scs') {s s' : Sp.Sc} (h : DR space s s') : DRs space (scs ++ [s]) (scs' ++ [s']) := by
  refine ⟨by simp [hs.1], fun k hk => ?_⟩
  rw [getD_snoc, getD_snoc, ← hs.1]
  split
  · rename_i h2; exact hs.2 k h2
  · rw [List.length_append, List.length_singleton] at hk
    rw [if_pos (by omega), if_pos (by omega)]
    exact h
theorem elemS_is {scs : List Sp.Sc} {i : Nat} {x : Sp.EE} {r : Sp.Sc × Sp.SE} (h : Sp.elemS scs i x = .ok r) :
    (Sp.cut x.name).2.2 = true ∧ (Sp.cut x.name).1 ≠ Sp.xmlnsB ∧ ∃ sp as, Sp.withS (Sp.aroundS scs i x) x.attrs = .ok r.1 ∧ r.1.lookup (Sp.cut x.name).1 = some sp ∧ Sp.attrsS r.1 [] x.attrs [] = .ok as ∧ r.2 = ⟨sp, (Sp.cut x.name).2.1, as, x.text, x.up, x.at_⟩ := by
  unfold Sp.elemS at h
  split at h
  · cases h
  · rename_i hn
    have hn1 : (Sp.cut x.name).2.2 = true := by
      cases hc : (Sp.cut x.name).2.2 with
      | true => rfl
      | false => exact absurd (.inl hc) hn
    have hn2 : (Sp.cut x.name).1 ≠ Sp.xmlnsB := fun e => hn (.inr e)
    split at h
    · cases h
    · rename_i s hw
      split at h
      · cases h
      · rename_i sp hl
        split at h
        · cases h
        · rename_i as hat
          injection h with h
          subst h
          exact ⟨hn1, hn2, sp, as, hw, hl, hat, rfl⟩
theorem elemS_mk {scs : List Sp.Sc} {i : Nat} {x : Sp.EE} {sc : Sp.Sc} {sp : List UInt8} {as : List Sp.SA} (h1 : (Sp.cut x.name).2.2 = true) (h2 : (Sp.cut x.name).1 ≠ Sp.xmlnsB) (h3 : Sp.withS (Sp.aroundS scs i x) x.attrs = .ok sc) (h4 : sc.lookup (Sp.cut x.name).1 = some sp) (h5 : Sp.attrsS sc [] x.attrs [] = .ok as) :
    Sp.elemS scs i x = .ok (sc, ⟨sp, (Sp.cut x.name).2.1, as, x.text, x.up, x.at_⟩) := by
  unfold Sp.elemS
  rw [if_neg (by rintro (e | e); rw [h1] at e; cases e; exact h2 e), h3]
  simp only
  rw [h4]
  simp only
  rw [h5]
theorem runS_df (space : List UInt8) : ∀ (t : List Sp.EE) (i : Nat) (scs scs' : List Sp.Sc) (acc acc' r : List Sp.SE), 0 < i → scs.length = i → DRs space scs scs' → (∀ x ∈ t, ∀ a ∈ x.attrs, a.name ≠ Sp.xmlnsB) → Sp.upOk i t = true → Sp.runS i scs t acc = .ok r →
    ∃ u, r = acc ++ u ∧ u.length = t.length ∧ Sp.runS i scs' t acc' = .ok (acc' ++ List.zipWith (dflt space) t u) := by
  intro t
  induction t with
  | nil => intro i scs scs' acc acc' r _ _ _ _ _ h; injection h with h; subst h; exact ⟨[], by simp, rfl, by simp [Sp.runS]⟩
  | cons x t ih =>
    intro i scs scs' acc acc' r hi hlen hs hn hu h
    unfold Sp.runS at h
    split at h
    · cases h
    · rename_i y hy
      obtain ⟨h1, h2, sp, as, hw, hl, hat, hy2⟩ := elemS_is hy
      unfold Sp.upOk at hu
      rw [if_neg (by omega)] at hu
      simp only [Bool.and_eq_true, decide_eq_true_eq] at hu
      obtain ⟨⟨hu1, hu2⟩, hu3⟩ := hu
      have har : DR space (Sp.aroundS scs i x) (Sp.aroundS scs' i x) := by
        unfold Sp.aroundS
        rw [if_neg (by omega), if_neg (by omega)]
        exact hs.2 _ (by omega)
      obtain ⟨s', hw', hr⟩ := withS_df space _ _ _ _ har (hn x (List.mem_cons_self ..)) hw
      have hl' : s'.lookup (Sp.cut x.name).1 = some (if (Sp.cut x.name).1 = [] then space else sp) := by
        rw [hr]
        split
        · rfl
        · exact hl
      have hat' : Sp.attrsS s' [] x.attrs [] = .ok as := by rw [attrsS_df hr]; exact hat
      have hy' := elemS_mk (scs := scs') (i := i) h1 h2 hw' hl' hat'
      obtain ⟨u, hu4, hu5, hu6⟩ := ih (i + 1) (scs ++ [y.1]) (scs' ++ [s']) (acc ++ [y.2]) (acc' ++ [dflt space x y.2]) r (by omega) (by simp [hlen]) (hs.snoc hr) (fun z hz => hn z (List.mem_cons_of_mem _ hz)) hu3 h
      refine ⟨y.2 :: u, by rw [hu4]; simp, by simp [hu5], ?_⟩
      unfold Sp.runS
      rw [hy']
      simp only
      have e : (⟨if (Sp.cut x.name).1 = [] then space else sp, (Sp.cut x.name).2.1, as, x.text, x.up, x.at_⟩ : Sp.SE) = dflt space x y.2 := by rw [hy2]; rfl
      rw [e, hu6]
      simp
theorem defaultS_law (space : List UInt8) (x0 : Sp.EE) (t : List Sp.EE) (r : List Sp.SE) (h : Sp.resolve (x0 :: t) = .ok r) (hn : ∀ x ∈ x0 :: t, ∀ a ∈ x.attrs, a.name ≠ Sp.xmlnsB) :
    r.length = (x0 :: t).length ∧ Sp.resolve (dfE space x0 :: t) = .ok (List.zipWith (dflt space) (x0 :: t) r) := by
  unfold Sp.resolve at h ⊢
  split at h
  · rename_i hu
    have hu' : Sp.upOk 0 (dfE space x0 :: t) = true := hu
    rw [if_pos hu']
    unfold Sp.upOk at hu
    simp only [Bool.and_eq_true] at hu
    unfold Sp.runS at h
    split at h
    · cases h
    · rename_i y hy
      obtain ⟨h1, h2, sp, as, hw, hl, hat, hy2⟩ := elemS_is hy
      have hw' : Sp.withS (Sp.aroundS [] 0 (dfE space x0)) (dfE space x0).attrs = .ok (([], space) :: y.1) := by
        have hw0 : Sp.withS Sp.baseS x0.attrs = .ok y.1 := hw
        show Sp.withS Sp.baseS (x0.attrs ++ [dfA space]) = _
        rw [withS_snoc (dfA space) _ _ _ hw0]
        rfl
      have hr : DR space y.1 (([], space) :: y.1) := by
        intro p
        rw [List.lookup_cons]
        by_cases hp : p = []
        · subst hp; rfl
        · have : (p == []) = false := by rw [beq_eq_false_iff_ne]; exact hp
          rw [this, if_neg hp]
      have hl' : List.lookup (Sp.cut (dfE space x0).name).1 (([], space) :: y.1) = some (if (Sp.cut x0.name).1 = [] then space else sp) := by
        show List.lookup (Sp.cut x0.name).1 (([], space) :: y.1) = _
        rw [hr]
        split
        · rfl
        · exact hl
      have hat' : Sp.attrsS (([], space) :: y.1) [] (dfE space x0).attrs [] = .ok as := by
        show Sp.attrsS _ [] (x0.attrs ++ [dfA space]) [] = _
        rw [attrsS_snoc _ _ rfl, attrsS_df hr]
        exact hat
      have hy' := elemS_mk (scs := []) (i := 0) (x := dfE space x0) h1 h2 hw' hl' hat'
      obtain ⟨u, hu4, hu5, hu6⟩ := runS_df space t 1 ([] ++ [y.1]) ([] ++ [([], space) :: y.1]) ([] ++ [y.2]) ([] ++ [dflt space x0 y.2]) r (by omega) rfl (DRs.snoc ⟨rfl, fun k hk => absurd hk (by simp)⟩ hr) (fun z hz => hn z (List.mem_cons_of_mem _ hz)) hu.2 h
      refine ⟨by rw [hu4]; simp [hu5], ?_⟩
      unfold Sp.runS
      rw [hy']
      simp only
      have e : (⟨if (Sp.cut x0.name).1 = [] then space else sp, (Sp.cut (dfE space x0).name).2.1, as, (dfE space x0).text, (dfE space x0).up, (dfE space x0).at_⟩ : Sp.SE) = dflt space x0 y.2 := by rw [hy2]; rfl
      rw [e, hu6, hu4]
      simp
  · cases h
end Go.Proofs.YtokdclmikllepaaGreatDoor
/-
  Plain law of spaces: what stands within an element means there what it would mean, if all that holds were declared at it itself.
-/
namespace Go.Proofs.YtokdclmikllepaaGreatDoor
set_option linter.unusedVariables false
set_option linter.unusedSimpArgs false

/-! ### what a list of attributes declares -/
def decV (l : List Sp.EA) (p : List UInt8) : Option (List UInt8) := (l.reverse.find? (fun a => decide (Sp.declares a.name = (p, true)))).map Sp.EA.value
theorem decV_nil (p : List UInt8) : decV [] p = none := rfl
theorem decV_snoc (l : List Sp.EA) (a : Sp.EA) (p : List UInt8) : decV (l ++ [a]) p = if Sp.declares a.name = (p, true) then some a.value else decV l p := by
  unfold decV
  rw [List.reverse_append, List.reverse_singleton, List.singleton_append, List.find?_cons]
  by_cases h : Sp.declares a.name = (p, true)
  · simp [h]
  · simp [h]
theorem decV_app (l m : List Sp.EA) (p : List UInt8) : decV (l ++ m) p = (decV m p).or (decV l p) := by
  unfold decV
  rw [List.reverse_append, List.find?_append]
  cases m.reverse.find? _ <;> rfl
theorem decV_cons (a : Sp.EA) (l : List Sp.EA) (p : List UInt8) : decV (a :: l) p = (decV l p).or (if Sp.declares a.name = (p, true) then some a.value else none) := by
  have h := decV_app [a] l p
  have h2 := decV_snoc [] a p
  rw [List.nil_append] at h2
  rw [List.singleton_append] at h
  rw [h, h2]
  rfl
theorem decV_none {l : List Sp.EA} {p : List UInt8} (h : decV l p = none) : ∀ a ∈ l, Sp.declares a.name ≠ (p, true) := by
  intro a ha
  unfold decV at h
  rw [Option.map_eq_none_iff, List.find?_eq_none] at h
  simpa using h a (List.mem_reverse.2 ha)
theorem decV_some {l : List Sp.EA} {p v : List UInt8} (h : decV l p = some v) : ∃ a ∈ l, Sp.declares a.name = (p, true) := by
  unfold decV at h
  obtain ⟨a, ha, _⟩ := Option.map_eq_some_iff.1 h
  exact ⟨a, List.mem_reverse.1 (List.mem_of_find?_eq_some ha), by simpa using List.find?_some ha⟩
theorem withS_look : ∀ (l : List Sp.EA) (sc s : Sp.Sc), Sp.withS sc l = .ok s → ∀ p, s.lookup p = (decV l p).or (sc.lookup p) := by
  intro l
  induction l with
  | nil => intro sc s h p; injection h with h; subst h; rfl
  | cons a t ih =>
    intro sc s h p
    unfold Sp.withS at h
    split at h
    · cases h
    · rw [decV_cons]
      split at h
      · rename_i hd
        rw [ih _ _ h p, List.lookup_cons]
        cases hv : decV t p with
        | some v => rfl
        | none =>
          simp only [Option.none_or]
          by_cases hp : p = (Sp.declares a.name).1
          · have e : Sp.declares a.name = (p, true) := by rw [hp, ← hd]
            rw [if_pos e, hp]
            simp
          · have e : ¬ (Sp.declares a.name = (p, true)) := fun e => hp (by rw [e])
            have b : (p == (Sp.declares a.name).1) = false := by rw [beq_eq_false_iff_ne]; exact hp
            rw [if_neg e, b]
            rfl
      · rename_i hd
        rw [ih _ _ h p]
        have e : ¬ (Sp.declares a.name = (p, true)) := fun e => hd (by rw [e])
        rw [if_neg e, Option.or_none]
/-- Good declarations of one prefix have one name. -/
theorem decl_inj {a b : Sp.EA} {p : List UInt8} (ha : Sp.badA a = false) (hb : Sp.badA b = false) (h1 : Sp.declares a.name = (p, true)) (h2 : Sp.declares b.name = (p, true)) : a.name = b.name := by
  have key : ∀ c : Sp.EA, Sp.badA c = false → Sp.declares c.name = (p, true) → c.name = if p = [] then Sp.xmlnsB else Sp.xmlnsB ++ 58 :: p := by
    intro c hc hd
    rcases cut_ways c.name with hn | ⟨q, r, hs, hq⟩
    · rw [decl_no hn] at hd
      split at hd
      · rename_i hx
        injection hd with hd _
        rw [if_pos hd.symm, hx]
      · injection hd with _ hd; cases hd
    · have hne := decl_ne hc (by rw [hd]) (by
        intro e
        have := colon_mk (q := r) hq
        rw [← hs, e, xmlns_colon] at this
        cases this)
      rw [hd] at hne
      rw [if_neg hne, hs]
      rw [hs, decl_mk hq] at hd
      split at hd
      · rename_i hx
        injection hd with hd _
        rw [hx, hd]
      · injection hd with _ hd; cases hd
  rw [key a ha h1, key b hb h2]

/-! ### what holds around an element, collected -/
def knows (l : List Sp.EA) (a : Sp.EA) : Bool := l.any fun b => decide (b.name = a.name)
def colStep (xs C : List Sp.EA) (a : Sp.EA) : List Sp.EA := if (Sp.declares a.name).2 = true ∧ knows C a = false ∧ knows xs a = false then C ++ [a] else C
def NoDup (l : List Sp.EA) : Prop := (l.map Sp.EA.name).Nodup
theorem knows_iff {l : List Sp.EA} {a : Sp.EA} : knows l a = true ↔ ∃ b ∈ l, b.name = a.name := by
  unfold knows; simp
theorem snocInd {α : Type} {P : List α → Prop} (h0 : P []) (h1 : ∀ l a, P l → P (l ++ [a])) : ∀ l, P l := by
  have : ∀ n (l : List α), l.length = n → P l := by
    intro n
    induction n with
    | zero => intro l hl; rw [List.eq_nil_of_length_eq_zero hl]; exact h0
    | succ n ih =>
      intro l hl
      rcases List.eq_nil_or_concat l with h | ⟨o, k, h⟩
      · rw [h] at hl; cases hl
      · rw [h, List.concat_eq_append]
        rw [h, List.concat_eq_append, List.length_append, List.length_singleton] at hl
        exact h1 _ _ (ih o (by omega))
  exact fun l => this _ l rfl
theorem col_elem (xs : List Sp.EA) (p : List UInt8) (hp : decV xs p = none) (C : List Sp.EA) (hC : ∀ a ∈ C, Sp.badA a = false) : ∀ (A : List Sp.EA), (∀ a ∈ A, Sp.badA a = false) → NoDup A →
    decV (A.foldl (colStep xs) C) p = (decV C p).or (decV A p) ∧ ∀ a ∈ A.foldl (colStep xs) C, a ∈ C ∨ a ∈ A := by
  intro A
  refine snocInd (P := fun A => (∀ a ∈ A, Sp.badA a = false) → NoDup A → decV (A.foldl (colStep xs) C) p = (decV C p).or (decV A p) ∧ ∀ a ∈ A.foldl (colStep xs) C, a ∈ C ∨ a ∈ A) ?_ ?_ A
  · intro _ _; exact ⟨by simp [decV_nil], fun a ha => .inl ha⟩
  · intro A a ih
    intro hA hnd
    have hA1 : ∀ x ∈ A, Sp.badA x = false := fun x hx => hA x (by simp [hx])
    have hga := hA a (by simp)
    unfold NoDup at hnd
    rw [List.map_append, List.nodup_append] at hnd
    obtain ⟨h1, h2⟩ := ih hA1 hnd.1
    rw [List.foldl_append, List.foldl_cons, List.foldl_nil]
    generalize A.foldl (colStep xs) C = C1 at *
    have hgC1 : ∀ x ∈ C1, Sp.badA x = false := fun x hx => by
      rcases h2 x hx with h | h
      · exact hC x h
      · exact hA1 x h
    have hmem : ∀ x ∈ colStep xs C1 a, x ∈ C ∨ x ∈ A ++ [a] := fun x hx => by
      unfold colStep at hx
      have hx' : x ∈ C1 ++ [a] := by
        split at hx
        · exact hx
        · simp [hx]
      rcases List.mem_append.1 hx' with hx | hx
      · rcases h2 x hx with h | h
        · exact .inl h
        · exact .inr (by simp [h])
      · exact .inr (by simp [List.mem_singleton.1 hx])
    refine ⟨?_, hmem⟩
    rw [decV_snoc]
    by_cases hd : Sp.declares a.name = (p, true)
    · rw [if_pos hd]
      have hd2 : (Sp.declares a.name).2 = true := by rw [hd]
      have hxs : knows xs a = false := by
        cases hk : knows xs a with
        | false => rfl
        | true =>
          obtain ⟨b, hb, hbn⟩ := knows_iff.1 hk
          exact absurd (by rw [hbn]; exact hd) (decV_none hp b hb)
      cases hv : decV C1 p with
      | none =>
        have hkC : knows C1 a = false := by
          cases hk : knows C1 a with
          | false => rfl
          | true =>
            obtain ⟨b, hb, hbn⟩ := knows_iff.1 hk
            exact absurd (by rw [hbn]; exact hd) (decV_none hv b hb)
        have hCn : decV C p = none := by
          rw [hv] at h1
          cases hc : decV C p with
          | none => rfl
          | some v => rw [hc] at h1; cases h1
        unfold colStep
        rw [if_pos ⟨hd2, hkC, hxs⟩, decV_snoc, if_pos hd, hCn]
        rfl
      | some v =>
        have hkC : knows C1 a = true := by
          obtain ⟨b, hb, hbd⟩ := decV_some hv
          exact knows_iff.2 ⟨b, hb, decl_inj (hgC1 b hb) hga hbd hd⟩
        unfold colStep
        rw [if_neg (fun h => by rw [hkC] at h; exact absurd h.2.1 (by simp)), h1]
        cases hc : decV C p with
        | some u => rfl
        | none =>
          rw [hc, Option.none_or] at h1
          rw [hv] at h1
          obtain ⟨b, hb, hbd⟩ := decV_some h1.symm
          have := hnd.2.2 b.name (List.mem_map_of_mem hb) a.name (by simp)
          exact absurd (decl_inj (hA1 b hb) hga hbd hd) this
    · rw [if_neg hd, ← h1]
      unfold colStep
      split
      · rw [decV_snoc, if_neg hd]
      · rfl
/-- The attributes of the elements around one, the innermost first. -/
def chain (l : List Sp.EE) : Nat → Int → List (List Sp.EA)
  | 0, _ => []
  | n + 1, u => if u < 0 then [] else match l[u.toNat]? with | some x => x.attrs :: chain l n x.up | none => []
def decVs (As : List (List Sp.EA)) (p : List UInt8) : Option (List UInt8) := As.foldr (fun A r => (decV A p).or r) none
def collect (xs : List Sp.EA) (C : List Sp.EA) (As : List (List Sp.EA)) : List Sp.EA := As.foldl (fun C A => A.foldl (colStep xs) C) C
theorem col_all (xs : List Sp.EA) (p : List UInt8) (hp : decV xs p = none) : ∀ (As : List (List Sp.EA)) (C : List Sp.EA), (∀ a ∈ C, Sp.badA a = false) → (∀ A ∈ As, (∀ a ∈ A, Sp.badA a = false) ∧ NoDup A) →
    decV (collect xs C As) p = (decV C p).or (decVs As p) := by
  intro As
  induction As with
  | nil => intro C _ _; simp [collect, decVs]
  | cons A t ih =>
    intro C hC hAs
    obtain ⟨hA, hnd⟩ := hAs A (List.mem_cons_self ..)
    obtain ⟨h1, h2⟩ := col_elem xs p hp C hC A hA hnd
    have := ih (A.foldl (colStep xs) C) (fun a ha => by
      rcases h2 a ha with h | h
      · exact hC a h
      · exact hA a h) (fun B hB => hAs B (List.mem_cons_of_mem _ hB))
    show decV (collect xs (A.foldl (colStep xs) C) t) p = _
    rw [this, h1]
    show _ = (decV C p).or ((decV A p).or (decVs t p))
    rw [Option.or_assoc]
theorem col_mem (xs : List Sp.EA) : ∀ (A : List Sp.EA) (C : List Sp.EA), ∀ a ∈ A.foldl (colStep xs) C, a ∈ C ∨ (a ∈ A ∧ (Sp.declares a.name).2 = true) := by
  intro A
  induction A with
  | nil => intro C a ha; exact .inl ha
  | cons b t ih =>
    intro C a ha
    rcases ih _ a ha with h | h
    · unfold colStep at h
      split at h
      · rename_i hd
        rcases List.mem_append.1 h with h | h
        · exact .inl h
        · rw [List.mem_singleton.1 h]; exact .inr ⟨List.mem_cons_self .., hd.1⟩
      · exact .inl h
    · exact .inr ⟨List.mem_cons_of_mem _ h.1, h.2⟩
theorem collect_mem (xs : List Sp.EA) : ∀ (As : List (List Sp.EA)) (C : List Sp.EA), ∀ a ∈ collect xs C As, a ∈ C ∨ (∃ A ∈ As, a ∈ A) ∧ (Sp.declares a.name).2 = true := by
  intro As
  induction As with
  | nil => intro C a ha; exact .inl ha
  | cons A t ih =>
    intro C a ha
    rcases ih _ a ha with h | ⟨⟨B, hB, hb⟩, h2⟩
    · rcases col_mem xs A C a h with h | h
      · exact .inl h
      · exact .inr ⟨⟨A, List.mem_cons_self .., h.1⟩, h.2⟩
    · exact .inr ⟨⟨B, List.mem_cons_of_mem _ hB, hb⟩, h2⟩

/-! ### the scope of each element -/
def UpLt (l : List Sp.EE) : Prop := ∀ (k : Nat) (x : Sp.EE), l[k]? = some x → x.up < (k : Int)
theorem upOk_lt : ∀ (l : List Sp.EE) (i : Nat), Sp.upOk i l = true → ∀ (k : Nat) (x : Sp.EE), l[k]? = some x → x.up < ((i + k : Nat) : Int) ∧ (0 < i + k → 0 ≤ x.up) := by
  intro l
  induction l with
  | nil => intro i _ k x h; cases h
  | cons y t ih =>
    intro i h k x hx
    unfold Sp.upOk at h
    simp only [Bool.and_eq_true] at h
    cases k with
    | zero =>
      injection hx with hx
      subst hx
      have h1 := h.1
      split at h1
      · rename_i h0
        rw [decide_eq_true_eq] at h1
        exact ⟨by omega, fun hh => by omega⟩
      · simp only [Bool.and_eq_true, decide_eq_true_eq] at h1
        exact ⟨by omega, fun _ => by omega⟩
    | succ k =>
      have := ih (i + 1) h.2 k x hx
      rw [show i + (k + 1) = i + 1 + k by omega]
      exact this
theorem chain_fuel {l : List Sp.EE} (h : UpLt l) : ∀ (n n' : Nat) (u : Int), u < n → u < n' → chain l n u = chain l n' u := by
  intro n
  induction n with
  | zero =>
    intro n' u h1 h2
    cases n' with
    | zero => rfl
    | succ n' => unfold chain; rw [if_pos (by omega)]
  | succ n ih =>
    intro n' u h1 h2
    cases n' with
    | zero => unfold chain; rw [if_pos (by omega)]
    | succ n' =>
      unfold chain
      by_cases hu : u < 0
      · rw [if_pos hu, if_pos hu]
      · rw [if_neg hu, if_neg hu]
        cases hx : l[u.toNat]? with
        | none => rfl
        | some x =>
          have := h _ _ hx
          simp only
          rw [ih n' x.up (by omega) (by omega)]
def lookOf (l : List Sp.EE) (x : Sp.EE) (k : Nat) (p : List UInt8) : Option (List UInt8) := (decV x.attrs p).or ((decVs (chain l k x.up) p).or (Sp.baseS.lookup p))
/-- The scopes of the elements up to i. -/
def ScOk (l : List Sp.EE) (i : Nat) (scs : List Sp.Sc) : Prop := scs.length = i ∧ ∀ k, k < i → ∃ x, l[k]? = some x ∧ (∀ a ∈ x.attrs, Sp.badA a = false) ∧ ∀ p, (scs.getD k []).lookup p = lookOf l x l.length p
theorem around_look {l : List Sp.EE} (hl : ∀ (k : Nat) (x : Sp.EE), l[k]? = some x → x.up < (k : Int) ∧ (0 < k → 0 ≤ x.up)) {i : Nat} {scs : List Sp.Sc} (hs : ScOk l i scs) {x : Sp.EE} (hx : l[i]? = some x) (p : List UInt8) :
    (Sp.aroundS scs i x).lookup p = (decVs (chain l l.length x.up) p).or (Sp.baseS.lookup p) := by
  have hil : i < l.length := by
    rcases Nat.lt_or_ge i l.length with h | h
    · exact h
    · rw [List.getElem?_eq_none h] at hx; cases hx
  obtain ⟨h1, h2⟩ := hl i x hx
  have hU : UpLt l := fun k y hy => (hl k y hy).1
  obtain ⟨n, hn⟩ : ∃ n, l.length = n + 1 := ⟨l.length - 1, by omega⟩
  unfold Sp.aroundS
  by_cases h0 : i = 0
  · rw [if_pos h0, hn]
    unfold chain
    rw [if_pos (by omega)]
    rfl
  · rw [if_neg h0]
    have hu := h2 (by omega)
    obtain ⟨y, hy, hg, hlk⟩ := hs.2 x.up.toNat (by omega)
    rw [hlk p]
    have hyu := (hl _ _ hy).1
    have e : chain l l.length x.up = y.attrs :: chain l l.length y.up := by
      conv => lhs; rw [hn]; unfold chain
      rw [if_neg (by omega), hy]
      simp only
      rw [chain_fuel hU n l.length y.up (by omega) (by omega)]
    rw [e]
    show _ = ((decV y.attrs p).or (decVs (chain l l.length y.up) p)).or _
    rw [Option.or_assoc]
    rfl
theorem runS_at {l : List Sp.EE} (hl : ∀ (k : Nat) (x : Sp.EE), l[k]? = some x → x.up < (k : Int) ∧ (0 < k → 0 ≤ x.up)) : ∀ (t : List Sp.EE) (i : Nat) (scs : List Sp.Sc) (acc r : List Sp.SE), l.drop i = t → ScOk l i scs → acc.length = i → Sp.runS i scs t acc = .ok r →
    r.length = i + t.length ∧ (∀ k, k < i → r[k]? = acc[k]?) ∧ ∀ k x, i ≤ k → l[k]? = some x → ∃ sc sp as, (Sp.cut x.name).2.2 = true ∧ (Sp.cut x.name).1 ≠ Sp.xmlnsB ∧ (∀ a ∈ x.attrs, Sp.badA a = false) ∧ (∀ p, sc.lookup p = lookOf l x l.length p) ∧
      sc.lookup (Sp.cut x.name).1 = some sp ∧ Sp.attrsS sc [] x.attrs [] = .ok as ∧ r[k]? = some ⟨sp, (Sp.cut x.name).2.1, as, x.text, x.up, x.at_⟩ := by
  intro t
  induction t with
  | nil =>
    intro i scs acc r hd _ ha h
    injection h with h
    subst h
    refine ⟨by simp [ha], fun k _ => rfl, fun k x hk hx => ?_⟩
    rw [List.drop_eq_nil_iff] at hd
    rw [List.getElem?_eq_none (by omega)] at hx
    cases hx
  | cons y t ih =>
    intro i scs acc r hd hs ha h
    have hy : l[i]? = some y := by
      have := congrArg List.head? hd
      rwa [List.head?_drop] at this
    have hd' : l.drop (i + 1) = t := by
      have := congrArg List.tail hd
      rwa [List.tail_drop] at this
    unfold Sp.runS at h
    split at h
    · cases h
    · rename_i q hq
      obtain ⟨h1, h2, sp, as, hw, hlk, hat, hq2⟩ := elemS_is hq
      have hg := withS_good _ _ _ hw
      have hsc : ∀ p, q.1.lookup p = lookOf l y l.length p := fun p => by
        rw [withS_look _ _ _ hw p, around_look hl hs hy p]
        rfl
      have hs' : ScOk l (i + 1) (scs ++ [q.1]) := by
        refine ⟨by simp [hs.1], fun k hk => ?_⟩
        rcases Nat.lt_or_ge k i with hki | hki
        · obtain ⟨x, hx, hx2, hx3⟩ := hs.2 k hki
          refine ⟨x, hx, hx2, fun p => ?_⟩
          rw [getD_snoc, if_pos (by rw [hs.1]; exact hki)]
          exact hx3 p
        · obtain rfl : k = i := by omega
          refine ⟨y, hy, hg, fun p => ?_⟩
          rw [getD_snoc, if_neg (by rw [hs.1]; omega), if_pos hs.1.symm]
          exact hsc p
      obtain ⟨k1, k2, k3⟩ := ih (i + 1) _ (acc ++ [q.2]) r hd' hs' (by simp [ha]) h
      refine ⟨by rw [k1, List.length_cons]; omega, fun k hk => ?_, fun k x hk hx => ?_⟩
      · rw [k2 k (by omega), List.getElem?_append_left (by omega)]
      · rcases Nat.lt_or_ge i k with hlt | hge
        · exact k3 k x (by omega) hx
        · obtain rfl : k = i := by omega
          rw [hy] at hx
          injection hx with hx
          subst hx
          refine ⟨q.1, sp, as, h1, h2, hg, hsc, hlk, hat, ?_⟩
          rw [k2 k (by omega), List.getElem?_append_right (by omega), ha, hq2]
          simp
theorem resolve_at {l : List Sp.EE} {r : List Sp.SE} (h : Sp.resolve l = .ok r) : r.length = l.length ∧ (∀ (k : Nat) (x : Sp.EE), l[k]? = some x → x.up < (k : Int) ∧ (0 < k → 0 ≤ x.up)) ∧
    ∀ (k : Nat) (x : Sp.EE), l[k]? = some x → ∃ sc sp as, (Sp.cut x.name).2.2 = true ∧ (Sp.cut x.name).1 ≠ Sp.xmlnsB ∧ (∀ a ∈ x.attrs, Sp.badA a = false) ∧ (∀ p, sc.lookup p = lookOf l x l.length p) ∧
      sc.lookup (Sp.cut x.name).1 = some sp ∧ Sp.attrsS sc [] x.attrs [] = .ok as ∧ r[k]? = some ⟨sp, (Sp.cut x.name).2.1, as, x.text, x.up, x.at_⟩ := by
  unfold Sp.resolve at h
  split at h
  · rename_i hu
    have hl : ∀ (k : Nat) (x : Sp.EE), l[k]? = some x → x.up < (k : Int) ∧ (0 < k → 0 ≤ x.up) := fun k x hx => by
      have := upOk_lt l 0 hu k x hx
      rw [Nat.zero_add] at this
      exact this
    obtain ⟨k1, _, k3⟩ := runS_at hl l 0 [] [] r rfl ⟨rfl, fun k hk => by omega⟩ rfl h
    exact ⟨by rw [k1, Nat.zero_add], hl, fun k x hx => k3 k x (Nat.zero_le _) hx⟩
  · cases h
theorem withS_ok : ∀ (l : List Sp.EA) (sc : Sp.Sc), (∀ a ∈ l, Sp.badA a = false) → ∃ s, Sp.withS sc l = .ok s := by
  intro l
  induction l with
  | nil => intro sc _; exact ⟨sc, rfl⟩
  | cons a t ih =>
    intro sc h
    have ht := fun x hx => h x (List.mem_cons_of_mem _ hx)
    unfold Sp.withS
    rw [if_neg (by rw [h a (List.mem_cons_self ..)]; simp)]
    split
    · exact ih _ ht
    · exact ih _ ht
theorem attrsS_congr {sc sc' : Sp.Sc} (h : ∀ p, sc'.lookup p = sc.lookup p) : ∀ (l : List Sp.EA) (met : List (List UInt8 × List UInt8)) (acc : List Sp.SA), Sp.attrsS sc' met l acc = Sp.attrsS sc met l acc := by
  intro l
  induction l with
  | nil => intro met acc; rfl
  | cons a t ih =>
    intro met acc
    have e : Sp.spaceA sc' a = Sp.spaceA sc a := by unfold Sp.spaceA; rw [h]
    unfold Sp.attrsS
    rw [e]
    simp only [ih]
theorem attrsS_decl (sc : Sp.Sc) (l : List Sp.EA) (met : List (List UInt8 × List UInt8)) (acc : List Sp.SA) : ∀ C : List Sp.EA, (∀ a ∈ C, (Sp.declares a.name).2 = true) → Sp.attrsS sc met (C ++ l) acc = Sp.attrsS sc met l acc := by
  intro C
  induction C with
  | nil => intro _; rfl
  | cons a t ih =>
    intro h
    rw [List.cons_append]
    conv => lhs; unfold Sp.attrsS
    rw [if_pos (h a (List.mem_cons_self ..))]
    exact ih fun x hx => h x (List.mem_cons_of_mem _ hx)
theorem chain_good {l : List Sp.EE} (hg : ∀ (k : Nat) (x : Sp.EE), l[k]? = some x → ∀ a ∈ x.attrs, Sp.badA a = false) : ∀ (n : Nat) (u : Int), ∀ A ∈ chain l n u, ∀ a ∈ A, Sp.badA a = false := by
  intro n
  induction n with
  | zero => intro u A hA; cases hA
  | succ n ih =>
    intro u A hA
    unfold chain at hA
    split at hA
    · cases hA
    · split at hA
      · rename_i x hx
        rcases List.mem_cons.1 hA with rfl | hA
        · exact hg _ x hx
        · exact ih _ A hA
      · cases hA
/-- All that holds around an element, declared at it itself. -/
theorem innerS_law (l : List Sp.EE) (r : List Sp.SE) (h : Sp.resolve l = .ok r) (i : Nat) (x : Sp.EE) (hx : l[i]? = some x) (hnd : ∀ A ∈ chain l l.length x.up, NoDup A) :
    ∃ y, r[i]? = some y ∧ Sp.resolve [⟨x.name, collect x.attrs [] (chain l l.length x.up) ++ x.attrs, x.text, -1, x.at_⟩] = .ok [⟨y.space, y.name, y.attrs, y.text, -1, y.at_⟩] := by
  obtain ⟨h1, h2, h3⟩ := resolve_at h
  obtain ⟨sc, sp, as, g1, g2, g3, g4, g5, g6, g7⟩ := h3 i x hx
  refine ⟨_, g7, ?_⟩
  have hgood : ∀ A ∈ chain l l.length x.up, ∀ a ∈ A, Sp.badA a = false := chain_good (fun k y hy => by
    obtain ⟨_, _, _, _, _, k3, _⟩ := h3 k y hy
    exact k3) _ _
  generalize hC : collect x.attrs [] (chain l l.length x.up) = C
  have hmem := collect_mem x.attrs (chain l l.length x.up) []
  rw [hC] at hmem
  have hCd : ∀ a ∈ C, (Sp.declares a.name).2 = true := fun a ha => by
    rcases hmem a ha with h | h
    · cases h
    · exact h.2
  have hCg : ∀ a ∈ C ++ x.attrs, Sp.badA a = false := fun a ha => by
    rcases List.mem_append.1 ha with ha | ha
    · rcases hmem a ha with h | ⟨⟨A, hA, haA⟩, _⟩
      · cases h
      · exact hgood A hA a haA
    · exact g3 a ha
  obtain ⟨s, hs⟩ := withS_ok (C ++ x.attrs) Sp.baseS hCg
  have hlk : ∀ p, s.lookup p = sc.lookup p := fun p => by
    rw [withS_look _ _ _ hs p, g4 p, decV_app]
    unfold lookOf
    cases hv : decV x.attrs p with
    | some v => rfl
    | none =>
      have := col_all x.attrs p hv (chain l l.length x.up) [] (fun a ha => nomatch ha) (fun A hA => ⟨hgood A hA, hnd A hA⟩)
      rw [hC] at this
      rw [this, decV_nil]
      rfl
  unfold Sp.resolve
  rw [if_pos (by rfl)]
  have he := elemS_mk (scs := []) (i := 0) (x := ⟨x.name, C ++ x.attrs, x.text, -1, x.at_⟩) g1 g2 hs (by rw [hlk]; exact g5) (by
    show Sp.attrsS s [] (C ++ x.attrs) [] = _
    rw [attrsS_decl _ _ _ _ C hCd, attrsS_congr hlk]
    exact g6)
  unfold Sp.runS
  rw [he]
  rfl
end Go.Proofs.YtokdclmikllepaaGreatDoor
