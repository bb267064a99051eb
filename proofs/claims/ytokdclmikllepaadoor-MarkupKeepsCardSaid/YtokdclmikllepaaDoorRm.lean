import Derived.Test.YtokdclmikllepaaDoorRa
namespace Go.Proofs.YtokdclmikllepaaDoor
open Go.RowKit
set_option linter.unusedVariables false
set_option linter.unusedSimpArgs false

/-! ### a place written anew -/
theorem ownsRow_set {w : World} {B : Nat} {e : TypeId} {size n : Nat} {v : Value} {xs : List Value} (h : w.ownsRow B e size v n xs) {g cap : Nat} (hv : v = .slice (some ⟨g, 0, none⟩) n cap) (j : Nat) (u : Value) :
    (w.setCell ⟨g, j, none⟩ u).ownsRow B e size v n (xs.set j u) := by
  refine ⟨by rw [List.length_set]; exact h.1, ?_⟩
  rcases h.2 with ⟨h1, _⟩ | ⟨g', cap', cur, hv', hb, hg, hnc, hcm, hsz, ht⟩
  · rw [hv] at h1; cases h1
  · have e1 : g' = g := by
      rw [hv] at hv'
      injection hv' with e1 _ _
      injection e1 with e1
      injection e1 with e1 _
      exact e1.symm
    subst e1
    refine .inr ⟨g', cap', cur.setIfInBounds j u, hv', hb, heap_set w g' j _ _ _ u hg, hnc, hcm, by simp [hsz], ?_⟩
    rw [Array.toList_setIfInBounds, List.take_set, ht]
theorem flat_set {α : Type} (f : α → List Value) (m : Nat) (hf : ∀ x, (f x).length = m) (u : Value) (k : Nat) (hk : k < m) : ∀ (l : List α) (i : Nat) (x y : α), l[i]? = some x → f y = (f x).set k u → (l.set i y).flatMap f = (l.flatMap f).set (i * m + k) u := by
  intro l
  induction l with
  | nil => intro i x y hx _; cases hx
  | cons a l ih =>
    intro i x y hx hy
    cases i with
    | zero =>
      injection hx with hx
      subst hx
      rw [List.set_cons_zero, List.flatMap_cons, List.flatMap_cons, hy, Nat.zero_mul, Nat.zero_add, List.set_append_left _ _ (by rw [hf]; exact hk)]
    | succ i =>
      rw [List.set_cons_succ, List.flatMap_cons, List.flatMap_cons, ih i x y hx hy, List.set_append_right _ _ (by rw [hf, Nat.succ_mul]; omega), hf, show (i + 1) * m + k - m = i * m + k by rw [Nat.succ_mul]; omega]
theorem flat_same {α : Type} (f : α → List Value) : ∀ (l : List α) (i : Nat) (x y : α), l[i]? = some x → f y = f x → (l.set i y).flatMap f = l.flatMap f := by
  intro l
  induction l with
  | nil => intro i x y hx _; cases hx
  | cons a l ih =>
    intro i x y hx hy
    cases i with
    | zero =>
      injection hx with hx
      subst hx
      rw [List.set_cons_zero, List.flatMap_cons, List.flatMap_cons, hy]
    | succ i => rw [List.set_cons_succ, List.flatMap_cons, List.flatMap_cons, ih i x y hx hy]
theorem apart_set {ps : List (Sp.Mk × Value)} (h : ps.Pairwise RowsApart) (i : Nat) (x : Sp.Mk × Value) (m : Sp.Mk) (hx : ps[i]? = some x) : (ps.set i (m, x.2)).Pairwise RowsApart := by
  have e : ∀ l : List (Sp.Mk × Value), l.Pairwise RowsApart ↔ (l.map Prod.snd).Pairwise (fun a b : Value => a.ownBlock = none ∨ a.ownBlock ≠ b.ownBlock) := fun l => by
    rw [List.pairwise_map]; rfl
  rw [e] at h ⊢
  rw [List.map_set]
  have hs : (ps.map Prod.snd)[i]? = some x.2 := by rw [List.getElem?_map, hx]; rfl
  have : (ps.map Prod.snd).set i x.2 = ps.map Prod.snd := by
    apply List.ext_getElem?
    intro j
    rw [List.getElem?_set]
    split
    · rename_i hij
      subst hij
      rw [hs]
      split
      · rfl
      · rename_i hlt
        rw [List.getElem?_eq_none (by omega)] at hs
        cases hs
    · rfl
  show List.Pairwise _ ((ps.map Prod.snd).set i x.2)
  rw [this]; exact h

def Sp.Mk.withAt (m : Sp.Mk) (x : Nat) : Sp.Mk := ⟨m.kind, m.name, m.attrs, m.empty, m.text, x⟩
def Sp.Mk.withAttrs (m : Sp.Mk) (l : List Sp.At) : Sp.Mk := ⟨m.kind, m.name, l, m.empty, m.text, m.at_⟩
def Sp.At.withAt (a : Sp.At) (x : Nat) : Sp.At := ⟨a.name, a.value, x⟩

theorem AtsAt.fz {B : Nat} {w : World} {g n cap : Nat} {l : List Sp.At} (h : AtsAt B w (.slice (some ⟨g, 0, none⟩) n cap) l) (i : Nat) : w.frozen? ⟨g, i, none⟩ = false := by
  rcases h.2 with ⟨h1, _⟩ | ⟨g', cap', cur, hv', hb, hg, _⟩
  · cases h1
  · injection hv' with e1 _ _
    injection e1 with e1
    injection e1 with e1 _
    subst e1
    simp [World.frozen?, hg]
theorem MksAt.fz {B : Nat} {w : World} {g n cap : Nat} {l : List Sp.Mk} (h : MksAt B w (.slice (some ⟨g, 0, none⟩) n cap) l) (i : Nat) : w.frozen? ⟨g, i, none⟩ = false := by
  obtain ⟨ps, _, _, hown, _⟩ := h
  rcases hown.2 with ⟨h1, _⟩ | ⟨g', cap', cur, hv', hb, hg, _⟩
  · cases h1
  · injection hv' with e1 _ _
    injection e1 with e1
    injection e1 with e1 _
    subst e1
    simp [World.frozen?, hg]

/-- A mark's place written anew. -/
theorem MksAt.setAt {B : Nat} {w : World} {g n cap : Nat} {l : List Sp.Mk} (h : MksAt B w (.slice (some ⟨g, 0, none⟩) n cap) l) (hn : l.length = n) (i : Nat) (m : Sp.Mk) (hm : l[i]? = some m) (x : Nat) :
    MksAt B (w.setCell ⟨g, i * 6 + 5, none⟩ (.int .i64 x)) (.slice (some ⟨g, 0, none⟩) n cap) (l.set i (m.withAt x)) ∧ B ≤ g := by
  obtain ⟨ps, hps, hat, hown, hap⟩ := h
  have hpl : ps.length = n := by rw [← hn, ← hps, List.length_map]
  rw [← hps, List.getElem?_map] at hm
  obtain ⟨y, hy, rfl⟩ := Option.map_eq_some_iff.1 hm
  rw [hpl] at hown
  have hlt := (World.ownsRow.lt hown g rfl)
  have hgB : ∃ cur, w.heap[g]? = some (.cells cur 30 (0, 0)) := by
    rcases hown.2 with ⟨h1, _⟩ | ⟨g', cap', cur, hv', hb, hg, _⟩
    · cases h1
    · injection hv' with e1 _ _
      injection e1 with e1
      injection e1 with e1 _
      subst e1
      exact ⟨cur, hg⟩
  obtain ⟨cur, hg⟩ := hgB
  refine ⟨⟨ps.set i (y.1.withAt x, y.2), by rw [List.map_set, hps], fun z hz => ?_, ?_, apart_set hap i y _ hy⟩, hlt.1⟩
  · rcases List.mem_or_eq_of_mem_set hz with hz | rfl
    · exact (hat z hz).kept ((Only.refl g w).set _ _) (.inr (own_ne (hat z hz) hg (by decide)))
    · exact (hat y (List.mem_of_getElem? hy)).kept ((Only.refl g w).set _ _) (.inr (own_ne (hat y (List.mem_of_getElem? hy)) hg (by decide)))
  · rw [List.length_set, hpl, flat_set (fun x : Sp.Mk × Value => mkCells x.1 x.2) 6 (fun _ => rfl) (.int .i64 x) 5 (by omega) ps i y _ hy rfl]
    exact ownsRow_set hown rfl _ _

/-- An attribute's place written anew. -/
theorem MksAt.setAttr {B : Nat} {w : World} {v : Value} {l : List Sp.Mk} (h : MksAt B w v l) (i : Nat) (m : Sp.Mk) (hm : l[i]? = some m) (k : Nat) (a : Sp.At) (ha : m.attrs[k]? = some a)
    {g n cap ga na ca : Nat} (hv : v = .slice (some ⟨g, 0, none⟩) n cap) (hn : l.length = n) (hc : w.cell? ⟨g, i * 6 + 2, none⟩ = some (.slice (some ⟨ga, 0, none⟩) na ca)) (x : Nat) :
    MksAt B (w.setCell ⟨ga, k * 3 + 2, none⟩ (.int .i64 x)) v (l.set i (m.withAttrs (m.attrs.set k (a.withAt x)))) ∧ B ≤ ga ∧ ga ≠ g := by
  obtain ⟨ps, hps, hat, hown, hap⟩ := h
  have hpl : ps.length = n := by rw [← hn, ← hps, List.length_map]
  have hil : i < ps.length := by
    rw [hpl, ← hn]
    exact (List.getElem?_eq_some_iff.1 hm).1
  rw [← hps, List.getElem?_map] at hm
  obtain ⟨y, hy, rfl⟩ := Option.map_eq_some_iff.1 hm
  have hcc : w.cell? ⟨g, i * 6 + 2, none⟩ = some y.2 := by
    obtain ⟨g', cap', hv', _, _, hcs⟩ := ownsRow_cells hown (by omega)
    rw [hv] at hv'
    injection hv' with e1 _ _
    injection e1 with e1
    injection e1 with e1 _
    subst e1
    refine hcs _ _ ?_
    rw [flat_get (fun x : Sp.Mk × Value => mkCells x.1 x.2) 6 (fun _ => rfl) ps i 2 (by omega), hy]; rfl
  have hy2 : y.2 = .slice (some ⟨ga, 0, none⟩) na ca := by rw [hc] at hcc; injection hcc with hcc; exact hcc.symm
  have hya := hat y (List.mem_of_getElem? hy)
  rw [hy2] at hya
  have hna : y.1.attrs.length = na := by
    rcases hya.2 with ⟨h1, _⟩ | ⟨g', cap', cur, hv', _⟩
    · cases h1
    · injection hv' with _ e2 _; exact e2.symm
  have hgB : ∃ cur, w.heap[ga]? = some (.cells cur 32 (0, 0)) := by
    rcases hya.2 with ⟨h1, _⟩ | ⟨g', cap', cur, hv', hb, hg, _⟩
    · cases h1
    · injection hv' with e1 _ _
      injection e1 with e1
      injection e1 with e1 _
      subst e1
      exact ⟨cur, hg⟩
  obtain ⟨cur, hg⟩ := hgB
  have hlt := World.ownsRow.lt hya ga rfl
  have hvne := own_ne hown hg (by decide)
  refine ⟨⟨ps.set i (y.1.withAttrs (y.1.attrs.set k (a.withAt x)), y.2), by rw [List.map_set, hps], fun z hz => ?_, ?_, apart_set hap i y _ hy⟩, hlt.1, fun e => hvne (by rw [hv, e]; rfl)⟩
  · obtain ⟨j, hj⟩ := List.mem_iff_getElem?.1 hz
    rw [List.getElem?_set] at hj
    split at hj
    · rename_i hij
      subst hij
      injection hj with hj
      subst hj
      show AtsAt B _ y.2 (y.1.attrs.set k (a.withAt x))
      rw [hy2]
      unfold AtsAt
      rw [List.length_set, flat_set atCells 3 (fun _ => rfl) (.int .i64 x) 2 (by omega) _ k a _ ha rfl]
      exact ownsRow_set hya (by rw [hna]) _ _
    · rename_i hij
      refine (hat z (List.mem_of_getElem? hj)).kept ((Only.refl ga w).set _ _) ?_
      have hjl := (List.getElem?_eq_some_iff.1 hj).1
      have hp := List.pairwise_iff_getElem.1 hap
      have ey : ps[i] = y := by
        have := List.getElem?_eq_getElem hil
        rw [hy] at this; injection this with this; exact this.symm
      have ez : ps[j] = z := by
        have := List.getElem?_eq_getElem hjl
        rw [hj] at this; injection this with this; exact this.symm
      have eb : y.2.ownBlock = some ga := by rw [hy2]; rfl
      rcases Nat.lt_or_ge i j with h1 | h1
      · have := hp i j hil hjl h1
        rw [ey, ez] at this
        rcases this with h2 | h2
        · rw [eb] at h2; cases h2
        · right; rw [eb] at h2; exact fun e => h2 e.symm
      · have := hp j i hjl hil (by omega)
        rw [ey, ez] at this
        rcases this with h2 | h2
        · exact .inl h2
        · right; rw [eb] at h2; exact h2
  · rw [List.length_set, flat_same (fun x : Sp.Mk × Value => mkCells x.1 x.2) ps i y (y.1.withAttrs (y.1.attrs.set k (a.withAt x)), y.2) hy rfl]
    exact hown.kept ((Only.refl ga w).set _ _) (.inr hvne)
end Go.Proofs.YtokdclmikllepaaDoor
