import Derived.Test.YtokdclmikllepaaGreatDoorKt42
import Derived.Test.YtokdclmikllepaaGreatDoorLw
import Derived.Deep.Slices
import Derived.Deep.Fields
import Derived.ChangeSame
import Derived.WideKeyArgs
import Derived.SizedLaws
import Derived.Test.YtokdclmikllepaaGreatDoorLo
import Derived.Lib.AppendStr
import Derived.Test.YtokdclmikllepaaGreatDoorKt39
import Derived.Laws.AppendOwnNone
import Derived.Laws.AppendOwn
import Derived.Test.YtokdclmikllepaaGreatDoorLva
import Derived.Test.YtokdclmikllepaaGreatDoorKt44
import Derived.Laws.IdiomStrings
import Derived.Deep.AppendLies
/-
  Plain: how long what tree.Write writes is, for elements that hold little.
-/
namespace Go.Proofs.YtokdclmikllepaaGreatDoor
set_option linter.unusedVariables false
set_option linter.unusedSimpArgs false

def costE (x : Sp.EE) : Nat := 6 * wtEE x + 20
def costTo (l : List Sp.EE) (i : Nat) : Nat := ((l.take i).map costE).sum
theorem costTo_next {l : List Sp.EE} {i : Nat} {x : Sp.EE} (h : l[i]? = some x) : costTo l (i + 1) = costTo l i + costE x := by
  unfold costTo
  rw [List.take_add_one, h, List.map_append, List.sum_append]
  simp
theorem swps_six9 (q : Bool) (l : List UInt8) : (l.flatMap (swp q)).length ≤ l.length * 6 := by
  have h := rep_bound (if q then quoPs else escPs) 6 (by cases q <;> decide) (by decide) l
  have e : Sp.rep (if q then quoPs else escPs) l = l.flatMap (swp q) := rfl
  rw [e] at h
  exact h
theorem quote_six (l : List UInt8) : (Sp.quote l).length ≤ 6 * l.length + 2 := by
  have h := swps_six9 true l
  have e : Sp.quote l = 34 :: l.flatMap (swp true) ++ [34] := rfl
  rw [e]
  simp only [List.length_append, List.length_cons, List.length_nil]
  omega
theorem escape_six (l : List UInt8) : (Sp.escape l).length ≤ 6 * l.length := by
  have h := swps_six9 false l
  have e : Sp.escape l = l.flatMap (swp false) := rfl
  rw [e]
  omega
theorem tags_six : ∀ l : List Sp.EA, (l.flatMap Sp.tagA).length ≤ 6 * (l.map wtEA).sum
  | [] => by simp
  | a :: l => by
    rw [List.flatMap_cons, List.length_append, List.map_cons, List.sum_cons]
    have h1 := tags_six l
    have h2 := quote_six a.value
    have h3 : (Sp.tagA a).length = a.name.length + (Sp.quote a.value).length + 2 := by
      simp [Sp.tagA]; omega
    have h4 : wtEA a = a.name.length + a.value.length + 1 := rfl
    omega
/-- An element's beginning, its text and two ends of it. -/
theorem elem_six (l : List Sp.EE) (i : Nat) (x : Sp.EE) : (Sp.tag x).length + (Sp.body l i x).length + (Sp.closeT x.name).length ≤ costE x := by
  have h1 := tags_six x.attrs
  have h2 := escape_six x.text
  have h3 : wtEE x = x.name.length + x.text.length + (x.attrs.map wtEA).sum := rfl
  have h4 : (Sp.closeT x.name).length = x.name.length + 3 := by simp [Sp.closeT]
  unfold costE Sp.tag Sp.body
  split
  · simp only [List.length_cons, List.length_append]; omega
  · split
    · simp only [List.length_cons, List.length_append, List.length_nil]; omega
    · simp only [List.length_cons, List.length_append, List.length_nil]; omega
theorem closes_app (l : List Sp.EE) (a b : List Nat) : (Sp.closes l (a ++ b)).length = (Sp.closes l a).length + (Sp.closes l b).length := by
  unfold Sp.closes
  rw [List.reverse_append, List.flatMap_append, List.length_append]
  omega
theorem closes_td (l : List Sp.EE) (b : List Nat) (t : Nat) : (Sp.closes l b).length = (Sp.closes l (b.take t)).length + (Sp.closes l (b.drop t)).length := by
  rw [← closes_app, List.take_append_drop]
def nm0 (l : List Sp.EE) (i : Nat) : Nat := if i = 0 then 0 else (Sp.closeT (Sp.nameAt l (i - 1))).length
theorem openAt_len {l : List Sp.EE} {i : Nat} (hi : i ≠ 0) (x : Sp.EE) (op : List Nat) : (Sp.closes l (Sp.openAt i x op)).length ≤ (Sp.closes l op).length + nm0 l i := by
  unfold Sp.openAt nm0
  rw [if_neg hi]
  split
  · rw [closes_app]
    have : Sp.closes l [i - 1] = Sp.closeT (Sp.nameAt l (i - 1)) := by simp [Sp.closes]
    rw [this]
    exact Nat.le_refl _
  · omega
theorem step_six {l : List Sp.EE} {i : Nat} {x : Sp.EE} {s s' : Sp.Wr} (hx : l[i]? = some x) (h : Sp.stepW l i x s = some s') (hp : s.1.length + (Sp.closes l s.2).length + nm0 l i ≤ costTo l i) :
    s'.1.length + (Sp.closes l s'.2).length + nm0 l (i + 1) ≤ costTo l (i + 1) := by
  rw [costTo_next hx]
  have he := elem_six l i x
  have hn : nm0 l (i + 1) = (Sp.closeT x.name).length := by
    unfold nm0
    rw [if_neg (by omega), Nat.add_sub_cancel, nameAt_of hx]
  rw [hn]
  unfold Sp.stepW at h
  split at h
  · cases h
  · split at h
    · rename_i h0
      split at h
      · injection h with h; subst h
        subst h0
        simp only [List.length_append]
        unfold nm0 at hp
        rw [if_pos rfl] at hp
        omega
      · cases h
    · rename_i h0
      split at h
      · cases h
      · injection h with h; subst h
        have h1 := openAt_len (l := l) h0 x s.2
        rw [closes_td l (Sp.openAt i x s.2) (Sp.toIx x.up (Sp.openAt i x s.2) (Sp.openAt i x s.2).length)] at h1
        simp only [List.length_append]
        omega
theorem runW_six {l : List Sp.EE} : ∀ (t : List Sp.EE) (i : Nat) (s s' : Sp.Wr), l.drop i = t → s.1.length + (Sp.closes l s.2).length + nm0 l i ≤ costTo l i → Sp.runW l i t s = some s' → s'.1.length + (Sp.closes l s'.2).length ≤ costTo l l.length
  | [], i, s, s', hd, hp, h => by
    injection h with h; subst h
    have hi : l.length ≤ i := List.drop_eq_nil_iff.1 hd
    have e : costTo l i = costTo l l.length := by
      unfold costTo
      rw [List.take_of_length_le hi, List.take_length]
    omega
  | x :: t, i, s, s', hd, hp, h => by
    have hx : l[i]? = some x := by
      have := congrArg List.head? hd
      rwa [List.head?_drop] at this
    have hd' : l.drop (i + 1) = t := by
      have := congrArg List.tail hd
      rwa [List.tail_drop] at this
    rw [Sp.runW] at h
    cases h1 : Sp.stepW l i x s with
    | none => rw [h1] at h; cases h
    | some s1 =>
      rw [h1] at h
      exact runW_six t (i + 1) s1 s' hd' (step_six hx h1 hp) h
theorem sum_cost : ∀ l : List Sp.EE, (l.map costE).sum = 6 * (l.map wtEE).sum + 20 * l.length
  | [] => by simp
  | a :: l => by
    rw [List.map_cons, List.sum_cons, List.map_cons, List.sum_cons, sum_cost l, List.length_cons]
    unfold costE
    omega
theorem write_six {l : List Sp.EE} {T : List UInt8} (h : Sp.write l = some T) : T.length ≤ 6 * (l.map wtEE).sum + 20 * l.length := by
  unfold Sp.write at h
  split at h
  · cases h
  · split at h
    · cases h
    · rename_i s hs
      injection h with h; subst h
      have h1 := runW_six l 0 ([], []) s (by rw [List.drop_zero]) (by unfold nm0 costTo; simp [Sp.closes]) hs
      unfold costTo at h1
      rw [List.take_length, sum_cost] at h1
      rw [List.length_append]
      omega
end Go.Proofs.YtokdclmikllepaaGreatDoor
namespace Go.Proofs.YtokdclmikllepaaGreatDoor
open Go.RowKit Go.ChangeShapes Go.WideShapes Go.Deep
set_option linter.unusedVariables false
set_option linter.unusedSimpArgs false

/-! ### elements that are handed in -/
section
variable {H : Type} {enc : TypeId × Value → H} {P : Program} {w : World} {base : Nat} {spare : Nat → Bool} {held : Bool}
theorem open_slice_fields {t e : TypeId} {fs : Array Field} {fuel : Nat} {cs : List Value} {x : DataW H × List MemPlace} (ht : P.underlying t = some (.slice e)) (he : P.underlying e = some (.struct fs))
    (hone : oneCellFields P fs = true) (hC : P.cellsOf e = fs.size) (h : DataW.trod enc P w base spare held fuel t cs = some x) :
    (cs = [.slice none 0 0] ∧ x = (.nil, [])) ∨
    ∃ (a : Addr) (len cap m : Nat) (D : Nat → DataW H) (Pl : Nat → List MemPlace), cs = [.slice (some a) len cap] ∧ base ≤ a.block ∧ len ≤ cap ∧ cap ≤ maxLen ∧ m = (if spare a.block then cap else len) ∧
      x = (.slice ((List.range len).map D) ((List.range (m - len)).map fun j => D (len + j)), MemPlace.row a (m * fs.size) ++ (List.range m).flatMap Pl) ∧
      ∀ i, i < m → ∃ (ys : List (DataW H × List MemPlace)) (n : Nat), D i = .agg (ys.map (·.1)) ∧ Pl i = ys.flatMap (·.2) ∧ ys.length = fs.size ∧
        ∀ (j : Nat) (f : Field), fs[j]? = some f → ∃ (v : Value) (y : DataW H × List MemPlace), w.cell? (a.add (i * fs.size + j)) = some v ∧ ys[j]? = some y ∧ DataW.trod enc P w base spare held n f.type [v] = some y := by
  rcases open_slice ht h with h0 | ⟨a, len, cap, m, n, D, Pl, hcs, hb, hl, hm, hmm, hx, hi⟩
  · exact .inl h0
  · refine .inr ⟨a, len, cap, m, D, Pl, hcs, hb, hl, hm, hmm, by rw [hC] at hx; exact hx, fun i him => ?_⟩
    obtain ⟨cs', hc, ht'⟩ := hi i him
    rw [hC] at hc
    obtain ⟨ys, n', hn', hy, hlen, hyl, hf⟩ := DataW.trod_struct he ht'
    obtain ⟨_, hcl, hat⟩ := World.cells?_some hc
    simp only [Prod.mk.injEq] at hy
    refine ⟨ys, n', hy.1, hy.2, hyl, fun j f hj => ?_⟩
    obtain ⟨ho, hk⟩ := hone_of hone j f hj
    have hjl : j < fs.size := (Array.getElem?_eq_some_iff.1 hj).1
    have hcell := hat j hjl
    have hv : cs'[j]? = some (cs'[j]'(by omega)) := List.getElem?_eq_getElem (by omega)
    have h1 := hf j f hj
    rw [ho, hk] at h1
    have hone' : (cs'.drop j).take 1 = [cs'[j]'(by omega)] := by
      rw [List.drop_eq_getElem_cons (by omega)]
      rfl
    rw [hone'] at h1
    have hys : ys[j]? = some (ys[j]'(by omega)) := List.getElem?_eq_getElem (by omega)
    refine ⟨_, _, ?_, hys, h1.trans hys⟩
    rw [← Go.Deep.add_add, hcell, hv]
end
theorem addr_plain {w : World} {a : Addr} {u : Value} (h : w.cell? a = some u) : a.spot = none ∧ a.block < w.heap.size := by
  unfold World.cell? at h
  split at h
  · rename_i c t z hb
    split at h
    · cases h
    · rename_i hs
      exact ⟨by simpa using hs, (Array.getElem?_eq_some_iff.1 hb).1⟩
  · cases h
theorem addr_add {g o k : Nat} : (⟨g, o, none⟩ : Addr).add k = ⟨g, o + k, none⟩ := by
  unfold Addr.add
  split
  · rename_i h; subst h; rfl
  · rfl
theorem weightsAll_mem {H : Type} {P : Program} {e : TypeId} : ∀ {ds : List (DataW H)} {d : DataW H}, d ∈ ds → ∀ n ∈ d.weights P e, n ∈ DataW.weightsAll P e ds
  | d0 :: ds, d, hd, n, hn => by
    rw [DataW.weightsAll, List.mem_append]
    rcases List.mem_cons.1 hd with rfl | hd
    · exact .inl hn
    · exact .inr (weightsAll_mem hd n hn)
theorem weights_elem {H : Type} {P : Program} {t e : TypeId} (hu : P.underlying t = some (.slice e)) {es sp : List (DataW H)} (hz : ∀ n ∈ (DataW.slice es sp).weights P t, n ≤ 140737488351232) {d : DataW H} (hd : d ∈ es) : ∀ n ∈ d.weights P e, n ≤ 140737488351232 := fun n hn =>
  hz n (by rw [DataW.weights, hu]; simp only [List.mem_cons, List.mem_append]; exact .inr (.inl (weightsAll_mem hd n hn)))
theorem weights_len {H : Type} {P : Program} {t e : TypeId} (hu : P.underlying t = some (.slice e)) {es sp : List (DataW H)} (hz : ∀ n ∈ (DataW.slice es sp).weights P t, n ≤ 140737488351232) (hb : 1 ≤ P.bytesOf e) : es.length ≤ 140737488351232 := by
  have h := hz ((es.length + sp.length) * P.bytesOf e) (by rw [DataW.weights, hu]; simp only [List.mem_cons, true_or])
  have h2 := Nat.le_mul_of_pos_right (es.length + sp.length) (show 0 < P.bytesOf e by omega)
  omega
theorem weights_field {H : Type} {P : Program} {e : TypeId} {fs : Array Field} (hu : P.underlying e = some (.struct fs)) {ds : List (DataW H)} (hz : ∀ n ∈ (DataW.agg ds).weights P e, n ≤ 140737488351232) {j : Nat} {f : Field} {d : DataW H} (hf : fs[j]? = some f) (hd : ds[j]? = some d) : ∀ n ∈ d.weights P f.type, n ≤ 140737488351232 := fun n hn =>
  hz n (by
    rw [DataW.weights, hu]
    exact DataW.weights_mem_each (by rw [List.getElem?_map, Array.getElem?_toList, hf]; rfl) hd n hn)
section
variable {H : Type} {enc : TypeId × Value → H} {w : World} {base : Nat} {spare : Nat → Bool} {held : Bool}
theorem ats_of_trod {fuel : Nat} {v : Value} {x : DataW H × List MemPlace} (h : DataW.trod enc Tryz.prog w base spare held fuel 38 [v] = some x) (hz : ∀ n ∈ x.1.weights Tryz.prog 38, n ≤ 140737488351232) :
    ∃ l : List Sp.EA, AtsR w v l ∧ l.length ≤ 140737488351232 ∧ ∀ a ∈ l, a.name.length ≤ 140737488351232 ∧ a.value.length ≤ 140737488351232 := by
  rcases open_slice_fields Tryz.underlying38 Tryz.underlying42 (by kernel_rfl) (by kernel_rfl) h with ⟨hv, _⟩ | ⟨a, len, cap, m, D, Pl, hv, hb, hl, hm, hmm, hx, hi⟩
  · injection hv with hv
    subst hv
    exact ⟨[], ⟨none, 0, rfl, fun h => absurd h (Nat.lt_irrefl _)⟩, by simp, fun a ha => nomatch ha⟩
  · injection hv with hv
    subst hv
    have hlm : len ≤ m := by rw [hmm]; split <;> omega
    rw [hx] at hz
    have hm47 : len ≤ 140737488351232 := by
      have := weights_len Tryz.underlying38 hz (of_decide_eq_true (by kernel_rfl))
      simpa using this
    have key : ∀ i : Nat, ∃ e : Sp.EA, i < len → (w.cell? (a.add (i * 3)) = some (.string ⟨e.name.toArray⟩) ∧ w.cell? (a.add (i * 3 + 1)) = some (.string ⟨e.value.toArray⟩) ∧ w.cell? (a.add (i * 3 + 2)) = some (.int .i64 e.at_)) ∧ e.name.length ≤ 140737488351232 ∧ e.value.length ≤ 140737488351232 := by
      intro i
      by_cases hil : i < len
      · obtain ⟨ys, n, hD, hP, hyl, hf⟩ := hi i (by omega)
        have hzi := weights_elem Tryz.underlying38 hz (List.mem_map.2 ⟨i, List.mem_range.2 hil, rfl⟩)
        rw [hD] at hzi
        obtain ⟨v0, y0, c0, g0, t0⟩ := hf 0 _ rfl
        obtain ⟨v1, y1, c1, g1, t1⟩ := hf 1 _ rfl
        obtain ⟨v2, y2, c2, _, t2⟩ := hf 2 _ rfl
        have w0 := weights_field (j := 0) Tryz.underlying42 hzi rfl (by rw [List.getElem?_map, g0]; rfl)
        have w1 := weights_field (j := 1) Tryz.underlying42 hzi rfl (by rw [List.getElem?_map, g1]; rfl)
        obtain ⟨s0, e0, q0, z0⟩ := DataW.trod_string Tryz.underlying9 t0
        obtain ⟨s1, e1, q1, z1⟩ := DataW.trod_string Tryz.underlying9 t1
        obtain ⟨n2, e2, _, _⟩ := DataW.trod_int Tryz.underlying3 t2
        injection e0 with e0
        injection e1 with e1
        injection e2 with e2
        subst e0 e1 e2
        refine ⟨⟨L s0, L s1, n2⟩, fun _ => ⟨⟨?_, ?_, ?_⟩, ?_, ?_⟩⟩
        · rw [bs_L]; exact c0
        · rw [bs_L]; exact c1
        · exact c2
        · rw [q0] at w0; exact w0 _ (by rw [DataW.weights]; exact List.mem_singleton.2 rfl)
        · rw [q1] at w1; exact w1 _ (by rw [DataW.weights]; exact List.mem_singleton.2 rfl)
      · exact ⟨⟨[], [], 0⟩, fun h => absurd h hil⟩
    obtain ⟨f, hf⟩ := Classical.axiomOfChoice key
    have hget : ∀ i x, ((List.range len).map f)[i]? = some x → i < len ∧ x = f i := by
      intro i x hx
      rw [List.getElem?_map] at hx
      obtain ⟨k, hk, rfl⟩ := Option.map_eq_some_iff.1 hx
      have hkl := (List.getElem?_eq_some_iff.1 hk)
      obtain ⟨h1, h2⟩ := hkl
      rw [List.length_range] at h1
      rw [List.getElem_range] at h2
      subst h2
      exact ⟨h1, rfl⟩
    refine ⟨(List.range len).map f, ⟨some a, cap, by simp, fun h0 => ?_⟩, by simp; omega, fun e he => ?_⟩
    · simp at h0
      obtain ⟨⟨c0, _, _⟩, _⟩ := hf 0 h0
      rw [Nat.zero_mul] at c0
      have hz : a.add 0 = a := by unfold Addr.add; rw [if_pos rfl]
      rw [hz] at c0
      obtain ⟨hsp, hlt⟩ := addr_plain c0
      obtain ⟨g, o, sp⟩ := a
      simp only at hsp hlt
      subst hsp
      refine ⟨g, o, rfl, hlt, fun i x hx => ?_⟩
      obtain ⟨hil, rfl⟩ := hget i x hx
      obtain ⟨⟨d0, d1, d2⟩, _⟩ := hf i hil
      rw [addr_add] at d0 d1 d2
      exact ⟨d0, d1, d2⟩
    · obtain ⟨i, hi⟩ := List.getElem?_of_mem he
      obtain ⟨hil, rfl⟩ := hget i e hi
      exact (hf i hil).2
theorem els_of_trod {fuel : Nat} {v : Value} {x : DataW H × List MemPlace} (h : DataW.trod enc Tryz.prog w base spare held fuel 45 [v] = some x) (hz : ∀ n ∈ x.1.weights Tryz.prog 45, n ≤ 140737488351232) :
    ∃ l : List Sp.EE, ElsR w v l ∧ l.length ≤ 140737488351232 ∧ ∀ x ∈ l, BigBd x := by
  rcases open_slice_fields Tryz.underlying45 Tryz.underlying53 (by kernel_rfl) (by kernel_rfl) h with ⟨hv, _⟩ | ⟨a, len, cap, m, D, Pl, hv, hb, hl, hm, hmm, hx, hi⟩
  · injection hv with hv
    subst hv
    exact ⟨[], ⟨none, 0, rfl, fun h => absurd h (Nat.lt_irrefl _)⟩, by simp, fun a ha => nomatch ha⟩
  · injection hv with hv
    subst hv
    have hlm : len ≤ m := by rw [hmm]; split <;> omega
    rw [hx] at hz
    have hm47 : len ≤ 140737488351232 := by
      have := weights_len Tryz.underlying45 hz (of_decide_eq_true (by kernel_rfl))
      simpa using this
    have key : ∀ i : Nat, ∃ e : Sp.EE, i < len → (∃ av, AtsR w av e.attrs ∧ w.cell? (a.add (i * 5)) = some (.string ⟨e.name.toArray⟩) ∧ w.cell? (a.add (i * 5 + 1)) = some av ∧ w.cell? (a.add (i * 5 + 2)) = some (.string ⟨e.text.toArray⟩) ∧ w.cell? (a.add (i * 5 + 3)) = some (.int .i64 e.up) ∧ w.cell? (a.add (i * 5 + 4)) = some (.int .i64 e.at_)) ∧ BigBd e := by
      intro i
      by_cases hil : i < len
      · obtain ⟨ys, n, hD, hP, hyl, hf⟩ := hi i (by omega)
        have hzi := weights_elem Tryz.underlying45 hz (List.mem_map.2 ⟨i, List.mem_range.2 hil, rfl⟩)
        rw [hD] at hzi
        obtain ⟨v0, y0, c0, g0, t0⟩ := hf 0 _ rfl
        obtain ⟨v1, y1, c1, g1, t1⟩ := hf 1 _ rfl
        obtain ⟨v2, y2, c2, g2, t2⟩ := hf 2 _ rfl
        have w0 := weights_field (j := 0) Tryz.underlying53 hzi rfl (by rw [List.getElem?_map, g0]; rfl)
        have w1 := weights_field (j := 1) Tryz.underlying53 hzi rfl (by rw [List.getElem?_map, g1]; rfl)
        have w2 := weights_field (j := 2) Tryz.underlying53 hzi rfl (by rw [List.getElem?_map, g2]; rfl)
        obtain ⟨v3, y3, c3, _, t3⟩ := hf 3 _ rfl
        obtain ⟨v4, y4, c4, _, t4⟩ := hf 4 _ rfl
        obtain ⟨s0, e0, q0, z0⟩ := DataW.trod_string Tryz.underlying9 t0
        obtain ⟨la, ha, hal, haz⟩ := ats_of_trod t1 w1
        obtain ⟨s2, e2, q2, z2⟩ := DataW.trod_string Tryz.underlying9 t2
        obtain ⟨n3, e3, _, _⟩ := DataW.trod_int Tryz.underlying3 t3
        obtain ⟨n4, e4, _, _⟩ := DataW.trod_int Tryz.underlying3 t4
        injection e0 with e0
        injection e2 with e2
        injection e3 with e3
        injection e4 with e4
        subst e0 e2 e3 e4
        refine ⟨⟨L s0, la, L s2, n3, n4⟩, fun _ => ⟨⟨v1, ha, ?_, c1, ?_, c3, c4⟩, ?_, ?_, hal, haz⟩⟩
        · rw [bs_L]; exact c0
        · rw [bs_L]; exact c2
        · rw [q0] at w0; exact w0 _ (by rw [DataW.weights]; exact List.mem_singleton.2 rfl)
        · rw [q2] at w2; exact w2 _ (by rw [DataW.weights]; exact List.mem_singleton.2 rfl)
      · exact ⟨⟨[], [], [], 0, 0⟩, fun h => absurd h hil⟩
    obtain ⟨f, hf⟩ := Classical.axiomOfChoice key
    have hget : ∀ i x, ((List.range len).map f)[i]? = some x → i < len ∧ x = f i := by
      intro i x hx
      rw [List.getElem?_map] at hx
      obtain ⟨k, hk, rfl⟩ := Option.map_eq_some_iff.1 hx
      have hkl := (List.getElem?_eq_some_iff.1 hk)
      obtain ⟨h1, h2⟩ := hkl
      rw [List.length_range] at h1
      rw [List.getElem_range] at h2
      subst h2
      exact ⟨h1, rfl⟩
    refine ⟨(List.range len).map f, ⟨some a, cap, by simp, fun h0 => ?_⟩, by simp; omega, fun e he => ?_⟩
    · simp at h0
      obtain ⟨⟨_, _, c0, _⟩, _⟩ := hf 0 h0
      rw [Nat.zero_mul] at c0
      have hz : a.add 0 = a := by unfold Addr.add; rw [if_pos rfl]
      rw [hz] at c0
      obtain ⟨hsp, hlt⟩ := addr_plain c0
      obtain ⟨g, o, sp⟩ := a
      simp only at hsp hlt
      subst hsp
      refine ⟨g, o, rfl, hlt, fun i x hx => ?_⟩
      obtain ⟨hil, rfl⟩ := hget i x hx
      obtain ⟨⟨av, d, d0, d1, d2, d3, d4⟩, _⟩ := hf i hil
      rw [addr_add] at d0 d1 d2 d3 d4
      exact ⟨av, d, d0, d1, d2, d3, d4⟩
    · obtain ⟨i, hi⟩ := List.getElem?_of_mem he
      obtain ⟨hil, rfl⟩ := hget i e hi
      exact (hf i hil).2
end
end Go.Proofs.YtokdclmikllepaaGreatDoor
namespace Go.Proofs.YtokdclmikllepaaGreatDoor
open Go.RowKit
set_option linter.unusedVariables false
set_option linter.unusedSimpArgs false

/-! ### a text appended to the call's own row of bytes -/
theorem infoU8t : (Tryz.prog.info? 5).map (fun i => (i.zero, i.size, i.bytes)) = some (some (.int .u8 0), 1, 1) := by kernel_rfl
theorem wpList_appT {w : World} {ops : Array Oper} {rest : List Oper} {o : Oper} {a : Act} {Q : Exit → Act → World → Prop} (hgd : o.guard = none) (s x : Operand)
    (ho : o.op = .call { callee := .builtin .append, args := #[s, x], argTypes := #[36, 9] })
    (base : Nat) (v : Value) (l : List UInt8) (t : ByteArray) (hs : a.eval s = v) (hv : OwnB base w v l) (hx : a.eval x = .string t)
    (hb : l.length + t.size ≤ 140737488355328) (hbase : base ≤ w.heap.size)
    (h : ∀ v' w', OwnB base w' v' (l ++ L t) → Below base w w' → wpList Tryz.prog ops Q rest (a.put o.dst v') w') : wpList Tryz.prog ops Q (o :: rest) a w := by
  obtain ⟨i0, hi, hz0, hz1, hz2⟩ := info_parts infoU8t
  refine Lib.wpList_append_own_string _ hgd s x 36 9 ho base 5 i0 Tryz.underlying36 Tryz.underlying9 hi hz0 hz1 hz2 v l.length (byteVals l) hs hv t hx (by unfold maxLen; omega) hb hbase ?_
  intro v' w' h1 hg _
  refine h v' w' ?_ ⟨hg.os, hg.tape, hg.output, hg.size, fun k hk => hg.block k (by omega) (fun e => by
    have := (World.ownsRow.lt hv k e.symm).1
    omega)⟩
  unfold OwnB
  rw [List.length_append, byteVals_append, L_length]
  exact h1
end Go.Proofs.YtokdclmikllepaaGreatDoor
namespace Go.Proofs.YtokdclmikllepaaGreatDoor
open Go.RowKit
set_option linter.unusedVariables false
set_option linter.unusedSimpArgs false

/-! ### ref08.swap, Escape, Quote by hand -/
theorem OwnB.one9 (base : Nat) (w : World) (c : UInt8) (x : Int) (hx : x = c.toNat) (hb : base ≤ w.heap.size) : OwnB base (w.alloc (.cells #[.int .u8 x] 5)) (.slice (some ⟨w.heap.size, 0, none⟩) 1 1) [c] := by
  subst hx
  exact OwnB.made base w [c] _ rfl hb (by simp [maxLen]) _ rfl _ rfl
theorem OwnB.cells9 {base : Nat} {w : World} {v : Value} {l : List UInt8} (h : OwnB base w v l) :
    (v = .slice none 0 0 ∧ l = []) ∨ ∃ g cap, v = .slice (some ⟨g, 0, none⟩) l.length cap ∧ base ≤ g ∧ g < w.heap.size ∧ ∀ j u, (byteVals l)[j]? = some u → w.cell? ((⟨g, 0, none⟩ : Addr).add j) = some u := by
  rcases h.2 with ⟨rfl, hl⟩ | ⟨g, cap, cur, rfl, hbg, hg, hnc, hcm, hcs, htake⟩
  · exact .inl ⟨rfl, List.eq_nil_of_length_eq_zero hl⟩
  · exact .inr ⟨g, cap, rfl, hbg, (Array.getElem?_eq_some_iff.1 hg).1, World.ownsRow.cells h rfl⟩

theorem byteVals_one9 {l : List UInt8} : ∀ u ∈ byteVals l, u.oneCell' = true := by
  intro u hu
  simp only [byteVals, List.mem_map] at hu
  obtain ⟨x, _, rfl⟩ := hu
  rfl

theorem OwnB.grown_below9 {base : Nat} {w w' : World} {v : Value} {l : List UInt8} (h : OwnB base w v l) (hbase : base ≤ w.heap.size) (hg : w.grownBy w' v.ownBlock) : Below base w w' :=
  ⟨hg.os, hg.tape, hg.output, hg.size, fun k hk => hg.block k (by omega) (fun e => by
    have := (World.ownsRow.lt h k e.symm).1
    omega)⟩


/-- A row of bytes appended to the call's own. -/
theorem wpList_appB9 {w : World} {ops : Array Oper} {rest : List Oper} {o : Oper} {a : Act} {Q : Exit → Act → World → Prop} (hgd : o.guard = none) (s x : Operand)
    (ho : o.op = .call { callee := .builtin .append, args := #[s, x], argTypes := #[36, 36] })
    (base base2 : Nat) (v u : Value) (l m : List UInt8) (hs : a.eval s = v) (hv : OwnB base w v l) (hx : a.eval x = u) (hu : OwnB base2 w u m)
    (hb : l.length + m.length ≤ 140737488355328) (hbase : base ≤ w.heap.size)
    (h : ∀ v' w', OwnB base w' v' (l ++ m) → Below base w w' → wpList Tryz.prog ops Q rest (a.put o.dst v') w') : wpList Tryz.prog ops Q (o :: rest) a w := by
  obtain ⟨i0, hi, hz0, hz1, hz2⟩ := info_parts infoU8t
  rcases hu.cells9 with ⟨rfl, rfl⟩ | ⟨g, cap, rfl, hbg, hgl, hcells⟩
  · refine wpList_append_own_none hgd s x 36 ho base 5 i0 1 Tryz.underlying36 hi v l.length (byteVals l) hs hv hx ?_
    exact h v w (by rw [List.append_nil]; exact hv) (Below.refl _ _)
  · refine wpList_append_own _ hgd s x 36 ho base 5 i0 (.int .u8 0) 1 1 Tryz.underlying36 hi hz0 hz1 hz2 rfl (by decide) v l.length (byteVals l) hs hv ⟨g, 0, none⟩ m.length cap (byteVals m) hx (by rw [byteVals_length, Nat.mul_one]) hcells byteVals_one9 (by unfold maxLen; omega) (by omega) hbase ?_
    intro v' w' h1 h2 _
    refine h v' w' ?_ (hv.grown_below9 hbase h2)
    unfold OwnB
    rw [List.length_append, byteVals_append]
    exact h1
set_option maxHeartbeats 4000000 in
set_option maxRecDepth 100000 in
theorem hswap_calls (c : UInt8) (q : Bool) (w : World) :
    Calls Tryz.prog 63 #[.int .u8 (c.toNat : Int), .bool q] w fun e w' => e = .returned (.string ⟨(swp q c).toArray⟩) ∧ Below w.heap.size w w' := by
  by_cases h1 : c = 38
  · subst h1
    cases q
    all_goals
      go_enter Tryz.func63, Tryz.ntmps63
      go_wp2_with fail
      go_ret
      exact ⟨rfl, Below.refl _ _⟩
  by_cases h2 : c = 60
  · subst h2
    cases q
    all_goals
      go_enter Tryz.func63, Tryz.ntmps63
      go_wp2_with fail
      go_ret
      exact ⟨rfl, Below.refl _ _⟩
  by_cases h3 : c = 62 ∧ q = false
  · obtain ⟨rfl, rfl⟩ := h3
    go_enter Tryz.func63, Tryz.ntmps63
    go_wp2_with fail
    go_ret
    exact ⟨rfl, Below.refl _ _⟩
  by_cases h4 : c = 13
  · subst h4
    cases q
    all_goals
      go_enter Tryz.func63, Tryz.ntmps63
      go_wp2_with fail
      go_ret
      exact ⟨rfl, Below.refl _ _⟩
  by_cases h5 : q = true ∧ (c = 34 ∨ c = 9 ∨ c = 10)
  · obtain ⟨rfl, h5⟩ := h5
    rcases h5 with rfl | rfl | rfl
    all_goals
      go_enter Tryz.func63, Tryz.ntmps63
      go_wp2_with fail
      go_ret
      exact ⟨rfl, Below.refl _ _⟩
  have hsw : swp q c = [c] := by
    unfold swp
    cases q with
    | false =>
      have h3' : c ≠ 62 := fun e => h3 ⟨e, rfl⟩
      have hl : (if false = true then quoPs else escPs).lookup c = none := by
        rw [List.lookup_eq_none_iff]
        intro x hx
        rw [bne_iff_ne]
        rintro rfl
        simp only [Bool.false_eq_true, if_false, escPs, List.mem_cons, List.not_mem_nil, or_false] at hx
        rcases hx with rfl | rfl | rfl | rfl <;> simp_all
      rw [hl]
    | true =>
      have h5' : c ≠ 34 ∧ c ≠ 9 ∧ c ≠ 10 := ⟨fun e => h5 ⟨rfl, .inl e⟩, fun e => h5 ⟨rfl, .inr (.inl e)⟩, fun e => h5 ⟨rfl, .inr (.inr e)⟩⟩
      obtain ⟨k1, k2, k3⟩ := h5'
      have hl : (if true = true then quoPs else escPs).lookup c = none := by
        rw [List.lookup_eq_none_iff]
        intro x hx
        rw [bne_iff_ne]
        rintro rfl
        simp only [if_true, quoPs, List.mem_cons, List.not_mem_nil, or_false] at hx
        rcases hx with rfl | rfl | rfl | rfl | rfl | rfl <;> simp_all
      rw [hl]
  rw [hsw]
  have ne : ∀ k : Nat, k < 256 → c ≠ UInt8.ofNat k → ((c.toNat : Int) == (k : Int)) = false := fun k hk h => by
    rw [beq_eq_false_iff_ne]
    intro e
    exact h (UInt8.toNat_inj.1 (by rw [UInt8.toNat_ofNat']; omega))
  have n1 := ne 38 (by omega) h1
  have n2 := ne 60 (by omega) h2
  have n4 := ne 13 (by omega) h4
  have hc : ∀ W : World, (convert 36 9 (.slice (some ⟨W.heap.size, 0, none⟩) 1 1)).run Tryz.prog (W.alloc (.cells #[.int .u8 (c.toNat : Int)] 5)) = .ok (.string ⟨[c].toArray⟩) (W.alloc (.cells #[.int .u8 (c.toNat : Int)] 5)) :=
    fun W => OwnB.conv (OwnB.one9 W.heap.size W c _ rfl (Nat.le_refl _))
  generalize hn : (c.toNat : Int) = n at *
  cases q with
  | false =>
    have n3 : (n == 62) = false := by exact ne 62 (by omega) (fun e => h3 ⟨e, rfl⟩)
    clear ne h1 h2 h3 h4 h5 hsw hn
    by_cases k5 : (n == 34) = true <;> by_cases k6 : (n == 9) = true <;> by_cases k7 : (n == 10) = true
    all_goals
      go_enter Tryz.func63, Tryz.ntmps63
      go_wp2_with fail
      all_goals go_ret
      all_goals exact ⟨rfl, (Below.refl _ _).alloc (Nat.le_refl _) _⟩
  | true =>
    have n5 : (n == 34) = false := by exact ne 34 (by omega) (fun e => h5 ⟨rfl, .inl e⟩)
    have n6 : (n == 9) = false := by exact ne 9 (by omega) (fun e => h5 ⟨rfl, .inr (.inl e)⟩)
    have n7 : (n == 10) = false := by exact ne 10 (by omega) (fun e => h5 ⟨rfl, .inr (.inr e)⟩)
    clear ne h1 h2 h3 h4 h5 hsw hn
    by_cases k3 : (n == 62) = true
    all_goals
      go_enter Tryz.func63, Tryz.ntmps63
      go_wp2_with fail
      all_goals go_ret
      all_goals exact ⟨rfl, (Below.refl _ _).alloc (Nat.le_refl _) _⟩
theorem hswap_is (c : UInt8) (q : Bool) (w : World) (t : ByteArray) (ht : (⟨(swp q c).toArray⟩ : ByteArray) = t) :
    Calls Tryz.prog 63 #[.int .u8 (c.toNat : Int), .bool q] w fun e w' => e = .returned (.string t) ∧ Below w.heap.size w w' := ht ▸ hswap_calls c q w
set_option maxHeartbeats 4000000 in
set_option maxRecDepth 100000 in
theorem hescape_calls (s : ByteArray) (w : World) (hs : s.size ≤ 6000000) :
    Calls Tryz.prog 26 #[.string s] w fun e w' => e = .returned (.string ⟨(Sp.escape (L s)).toArray⟩) ∧ Below w.heap.size w w' := by
  go_enter Tryz.func26, Tryz.ntmps26
  go_wp2_with fail
  go_loopg [3, 4] (s.size + 1) (fun kk v i wr => ∃ j : Nat, i = .int .i64 j ∧ j ≤ s.size ∧ s.size - j < kk ∧ Hid (OwnB w.heap.size wr v (((L s).take j).flatMap (swp false))) ∧ Hid (Below w.heap.size w wr))
  case atStart => exact ⟨0, rfl, Nat.zero_le _, by omega, ⟨rfl, .inl ⟨rfl, rfl⟩⟩, Below.refl _ _⟩
  case round =>
    obtain ⟨j, rfl, hj, hk, HO, HB⟩ := hrel
    by_cases hlt : j < s.size
    · have hd : decide ((j : Int) < s.size) = true := by simp; omega
      have hj0 : (0 : Int) ≤ j := by omega
      have hj1 : (j : Int) < s.size := by omega
      obtain ⟨t, ht⟩ : ∃ t : ByteArray, (⟨(swp false s[j]).toArray⟩ : ByteArray) = t := ⟨_, rfl⟩
      obtain ⟨hts, htL⟩ := sz_of ht
      have hsl := swp_len false s[j]
      have hll := swps_len false ((L s).take j)
      rw [List.length_take, L_length] at hll
      have hlen : (((L s).take j).flatMap (swp false)).length + t.size ≤ 140737488355328 := by
        first | omega | (simp only [List.length_cons]; omega)
      have hnx : ((L s).take (j + 1)).flatMap (swp false) = (((L s).take j).flatMap (swp false)) ++ L t := by
        rw [swps_take false s j hlt, htL]
      have HT := Lib.hid ht
      have HLEN := Lib.hid hlen
      have HNX := Lib.hid hnx
      clear hts htL hsl hll hlen hnx ht
      go_wp2_with (first
        | (go_at_call 63; go_must (refine (hswap_is s[j] false _ t HT.out).mono ?_); rintro e w3 ⟨rfl, hb3⟩; have HO3 := Lib.hid (own_below HO.out hb3); have HB3 := Lib.hid (below_then HB.out hb3); clear hb3)
        | (at_builtin; refine wpList_appT rfl (.tmp 11) (.tmp 15) rfl w.heap.size _ _ t (by rfl) HO3.out (by rfl) HLEN.out HB3.out.size ?_; intro v' w4 ho4 hb4))
      go_roundg (gk - 1)
      case measure => omega
      case rel =>
        refine ⟨j + 1, by simp, by omega, by omega, ?_, HB3.out.trans hb4⟩
        show OwnB _ _ _ _
        rw [HNX.out]
        exact ho4
    · have hj' : j = s.size := by omega
      subst hj'
      have hd : decide ((s.size : Int) < s.size) = false := by simp
      have ho := HO.out
      rw [List.take_of_length_le (by rw [L_length]; exact Nat.le_refl _)] at ho
      have hcv := OwnB.conv ho
      go_wp2_with fail
      go_ret
      exact ⟨rfl, HB.out⟩
set_option maxHeartbeats 4000000 in
set_option maxRecDepth 100000 in
theorem hquote_calls (s : ByteArray) (w : World) (hs : s.size ≤ 6000000) :
    Calls Tryz.prog 27 #[.string s] w fun e w' => e = .returned (.string ⟨(Sp.quote (L s)).toArray⟩) ∧ Below w.heap.size w w' := by
  go_enter Tryz.func27, Tryz.ntmps27
  go_wp2_with fail
  go_loopg [3, 4] (s.size + 1) (fun kk v i wr => ∃ j : Nat, i = .int .i64 j ∧ j ≤ s.size ∧ s.size - j < kk ∧ Hid (OwnB w.heap.size wr v (34 :: ((L s).take j).flatMap (swp true))) ∧ Hid (Below w.heap.size w wr))
  case atStart => exact ⟨0, rfl, Nat.zero_le _, by omega, OwnB.one9 _ _ 34 _ rfl (Nat.le_refl _), (Below.refl _ _).alloc (Nat.le_refl _) _⟩
  case round =>
    obtain ⟨j, rfl, hj, hk, HO, HB⟩ := hrel
    by_cases hlt : j < s.size
    · have hd : decide ((j : Int) < s.size) = true := by simp; omega
      have hj0 : (0 : Int) ≤ j := by omega
      have hj1 : (j : Int) < s.size := by omega
      obtain ⟨t, ht⟩ : ∃ t : ByteArray, (⟨(swp true s[j]).toArray⟩ : ByteArray) = t := ⟨_, rfl⟩
      obtain ⟨hts, htL⟩ := sz_of ht
      have hsl := swp_len true s[j]
      have hll := swps_len true ((L s).take j)
      rw [List.length_take, L_length] at hll
      have hlen : (34 :: ((L s).take j).flatMap (swp true)).length + t.size ≤ 140737488355328 := by
        first | omega | (simp only [List.length_cons]; omega)
      have hnx : 34 :: ((L s).take (j + 1)).flatMap (swp true) = (34 :: ((L s).take j).flatMap (swp true)) ++ L t := by
        rw [swps_take true s j hlt, htL]
        try rfl
      have HT := Lib.hid ht
      have HLEN := Lib.hid hlen
      have HNX := Lib.hid hnx
      clear hts htL hsl hll hlen hnx ht
      go_wp2_with (first
        | (go_at_call 63; go_must (refine (hswap_is s[j] true _ t HT.out).mono ?_); rintro e w3 ⟨rfl, hb3⟩; have HO3 := Lib.hid (own_below HO.out hb3); have HB3 := Lib.hid (below_then HB.out hb3); clear hb3)
        | (at_builtin; refine wpList_appT rfl (.tmp 12) (.tmp 16) rfl w.heap.size _ _ t (by rfl) HO3.out (by rfl) HLEN.out HB3.out.size ?_; intro v' w4 ho4 hb4))
      go_roundg (gk - 1)
      case measure => omega
      case rel =>
        refine ⟨j + 1, by simp, by omega, by omega, ?_, HB3.out.trans hb4⟩
        show OwnB _ _ _ _
        rw [HNX.out]
        exact ho4
    · have hj' : j = s.size := by omega
      subst hj'
      have hd : decide ((s.size : Int) < s.size) = false := by simp
      have ho := HO.out
      rw [List.take_of_length_le (by rw [L_length]; exact Nat.le_refl _)] at ho
      have HO2 := Lib.hid ho
      have hll := swps_len true (L s)
      rw [L_length] at hll
      have HLEN : Hid ((34 :: (L s).flatMap (swp true)).length + [(34 : UInt8)].length ≤ 140737488355328) := by
        show _ ≤ _
        simp only [List.length_cons, List.length_nil]
        omega
      clear hll
      have hbs := HB.out.size
      go_wp2_with (at_builtin; go_must (refine wpList_appB9 rfl (.tmp 18) (.tmp 19) rfl w.heap.size w.heap.size _ _ _ [34] (by rfl) (own_below HO2.out ((Below.refl _ _).alloc (Nat.le_refl _) _)) (by rfl) (OwnB.one9 _ _ 34 _ rfl hbs) HLEN.out (by rw [sz_alloc]; omega) ?_); intro v' w4 ho4 hb4; have hcv := OwnB.conv ho4)
      go_ret
      exact ⟨rfl, (HB.out.alloc hbs _).trans hb4⟩
end Go.Proofs.YtokdclmikllepaaGreatDoor
namespace Go.Proofs.YtokdclmikllepaaGreatDoor
open Go.RowKit
set_option linter.unusedVariables false
set_option linter.unusedSimpArgs false

/-! ### ref09.end -/
theorem rw_len {l : List Sp.EE} {o : Option Nat} {i : Nat} {s : List UInt8} (h : RW l o i s) :
    (o = none → ∀ e, IsEnd l i e → s.length + costTo l i ≤ costTo l e) ∧ ∀ e, o = some e → s.length + costTo l i ≤ costTo l e := by
  induction h with
  | @leaf i x hx he ht =>
    refine ⟨fun _ e he' => ?_, fun e h => by cases h⟩
    have := he.uniq he'
    subst this
    rw [costTo_next hx]
    have h1 := elem_six l i x
    have h2 : (Sp.tag x ++ [47, 62]).length = (Sp.tag x).length + 2 := by simp
    have h3 : (Sp.closeT x.name).length = x.name.length + 3 := by simp [Sp.closeT]
    omega
  | @node i e x ks hx he hne _ ih =>
    refine ⟨fun _ e' he' => ?_, fun e h => by cases h⟩
    have := he.uniq he'
    subst this
    have h1 := ih.2 e rfl
    rw [costTo_next hx] at h1
    have h2 := tags_six x.attrs
    have h3 := escape_six x.text
    have h4 : wtEE x = x.name.length + x.text.length + (x.attrs.map wtEA).sum := rfl
    have h5 : (Sp.closeT x.name).length = x.name.length + 3 := by simp [Sp.closeT]
    have h6 : (Sp.tag x).length = x.name.length + 1 + (x.attrs.flatMap Sp.tagA).length := by simp [Sp.tag]; omega
    have h7 : costE x = 6 * wtEE x + 20 := rfl
    simp only [List.length_append, List.length_cons]
    omega
  | @done e =>
    refine ⟨(fun h => by cases h), fun e' h => ?_⟩
    injection h with h
    subst h
    simp
  | @more e k k' s ks hke _ hk' _ ih1 ih2 =>
    refine ⟨(fun h => by cases h), fun e' h => ?_⟩
    injection h with h
    subst h
    have h1 := ih1.1 rfl k' hk'
    have h2 := ih2.2 e rfl
    rw [List.length_append]
    omega
set_option maxHeartbeats 4000000 in
set_option maxRecDepth 100000 in
theorem rend_calls (w : World) (v : Value) (l : List Sp.EE) (h : ElsR w v l) (hl : l.length ≤ 4096) (va : Va l) (i : Nat) (hi : i < l.length) :
    Calls Tryz.prog 114 #[v, .int .i64 (i : Int)] w fun e w' => (∃ q : Nat, e = .returned (.int .i64 (q : Int)) ∧ IsEnd l i q) ∧ Below w.heap.size w w' := by
  obtain ⟨n, hn⟩ : ∃ n, l.length = n := ⟨_, rfl⟩
  have HE := Lib.hid h
  obtain ⟨a1, c1, rfl, -⟩ := h
  rw [hn] at HE hl hi ⊢
  have HV := Lib.hid va
  have HN := Lib.hid hn
  have hwi : IntKind.i64.wrap ((i : Int) + 1) = ((i + 1 : Nat) : Int) := IntWalk.i64_in _ (by omega)
  clear va hn
  go_enter Tryz.func114, Tryz.ntmps114
  go_wp2_with fail
  go_loopg [5] (n + 1) (fun kk q wr => ∃ k : Nat, q = .int .i64 k ∧ i < k ∧ k ≤ n ∧ n - k < kk ∧ Hid (∀ k', i < k' → k' < k → i ∈ anc l k') ∧ Hid (Below w.heap.size w wr))
  case atStart => exact ⟨i + 1, by simp, by omega, by omega, by omega, (fun k' h1 h2 => by omega), Below.refl _ _⟩
  case round =>
    obtain ⟨k, rfl, hik, hkn, hkk, HA, HB⟩ := hrel
    by_cases hlt : k < n
    · have hd : decide ((k : Int) < n) = true := by simp; omega
      have hrc : RC l (k :: (anc l k).reverse) := HV.out.rc k (by rw [HN.out]; exact hlt)
      have HRC := Lib.hid hrc
      clear hrc
      by_cases hm : i ∈ anc l k
      · have hdm : decide (i ∈ k :: (anc l k).reverse) = true := by simp [hm]
        have HDM := Lib.hid hdm
        have HA2 : Hid (∀ k', i < k' → k' < k + 1 → i ∈ anc l k') := by
          intro k' h1 h2
          by_cases he : k' = k
          · subst he; exact hm
          · exact HA.out k' h1 (by omega)
        clear hdm hm
        go_wp2_with (go_at_call 81; go_must (refine (around_at _ _ l (HE.out.below HB.out) (by rw [HN.out]; exact hl) _ HRC.out _ _ i rfl rfl true HDM.out).mono ?_); rintro e w3 ⟨rfl, hb3⟩; have HB3 := Lib.hid (below_then HB.out hb3); clear hb3)
        go_roundg (gk - 1)
        case measure => omega
        case rel => exact ⟨k + 1, by simp, by omega, by omega, by omega, HA2, HB3⟩
      · have hdm : decide (i ∈ k :: (anc l k).reverse) = false := by
          have : ¬ i = k := by omega
          simp [hm, this]
        have HDM := Lib.hid hdm
        have HEND : Hid (IsEnd l i k) := ⟨hik, by rw [HN.out]; exact hkn, HA.out, fun _ => hm⟩
        clear hdm hm
        go_wp2_with (go_at_call 81; go_must (refine (around_at _ _ l (HE.out.below HB.out) (by rw [HN.out]; exact hl) _ HRC.out _ _ i rfl rfl false HDM.out).mono ?_); rintro e w3 ⟨rfl, hb3⟩; have HB3 := Lib.hid (below_then HB.out hb3); clear hb3)
        go_ret
        exact ⟨⟨k, rfl, HEND.out⟩, HB3.out⟩
    · have hkn' : k = n := by omega
      subst hkn'
      have hd : decide ((k : Int) < k) = false := by simp
      have HEND : Hid (IsEnd l i k) := ⟨hik, by rw [HN.out]; exact Nat.le_refl _, HA.out, fun h => by rw [HN.out] at h; exact absurd h (Nat.lt_irrefl _)⟩
      go_wp2_with fail
      go_ret
      exact ⟨⟨k, rfl, HEND.out⟩, HB.out⟩
end Go.Proofs.YtokdclmikllepaaGreatDoor
namespace Go.Proofs.YtokdclmikllepaaGreatDoor
open Go.RowKit
open Go.Lib (strCells strCells_length strCells_oneCell run_firstCells_string run_append_grow_string)
set_option linter.unusedVariables false
set_option linter.unusedSimpArgs false

/-! ### a row of bytes made out of a string: its mark lies behind its last cell, so that it is written on like any other -/
def Fzn (fz : Nat × Nat) (n : Nat) : Prop := ∀ k, k < n → ¬ (fz.1 ≤ k ∧ k < fz.2)
def rowG (w : World) (base : Nat) (e : TypeId) (v : Value) (n : Nat) (xs : List Value) : Prop :=
  xs.length = n ∧ ∃ g cap cur fz, v = .slice (some ⟨g, 0, none⟩) n cap ∧ base ≤ g ∧ w.heap[g]? = some (.cells cur e fz) ∧ Fzn fz cur.size ∧ n ≤ cap ∧ cap ≤ maxLen ∧ cur.size = cap ∧ cur.toList.take n = xs

theorem run_storeG (P : Program) (g o : Nat) (t : TypeId) (fz : Nat × Nat) : ∀ (vs : List Value) (i : Nat) (cur : Array Value) (w : World), w.heap[g]? = some (.cells cur t fz) → Fzn fz cur.size → o + i + vs.length ≤ cur.size → (∀ v ∈ vs, v.oneCell' = true) →
    (storeCells ⟨g, o, none⟩ vs i).run P w = .ok () (w.setRow g (cur.toList.take (o + i) ++ vs ++ cur.toList.drop (o + i + vs.length)).toArray)
  | [], i, cur, w, hg, _, _, _ => by
    simp only [storeCells, List.append_nil, List.length_nil, Nat.add_zero, List.take_append_drop, Array.toArray_toList]
    rw [setRow_self w g cur t fz hg]
    rfl
  | v :: rest, i, cur, w, hg, hfz, hl, h1 => by
    have hi : o + i < cur.size := by simp at hl; omega
    have hadd : (⟨g, o, none⟩ : Addr).add i = ⟨g, o + i, none⟩ := by unfold Addr.add; split <;> simp_all
    have hcell : w.cell? ⟨g, o + i, none⟩ = some cur[o + i] := by simp [World.cell?, hg, hi]
    have hfro : w.frozen? ⟨g, o + i, none⟩ = false := by
      obtain ⟨lo, hi'⟩ := fz
      have := hfz (o + i) hi
      simp only [World.frozen?, hg, Bool.and_eq_false_iff, decide_eq_false_iff_not]
      simp only at this
      omega
    have hst : (store ((⟨g, o, none⟩ : Addr).add i) v).run P w = .ok () (w.setRow g (cur.setIfInBounds (o + i) v)) := by
      rw [hadd, run_store P w _ v _ (h1 v (by simp)), hcell]
      simp [hfro, setCell_eq_setRow w g (o + i) cur t fz v hg]
    have ih := run_storeG P g o t fz rest (i + 1) (cur.setIfInBounds (o + i) v) (w.setRow g (cur.setIfInBounds (o + i) v)) (setRow_heap w g cur _ t _ hg) (by simpa using hfz) (by simp at hl ⊢; omega) (fun x hx => h1 x (by simp [hx]))
    simp only [storeCells, Sem.run_bind, hst, Result.andThen_ok, ih, setRow_setRow]
    congr 3
    have e := list_seg_step cur.toList (o + i) v rest (by simp at hl ⊢; omega)
    simpa [Array.toList_setIfInBounds, Nat.add_assoc] using e

section
variable {P : Program} {w : World} {base : Nat} {e : TypeId} {v : Value} {n : Nat} {xs : List Value}

theorem rowG.lt (h : rowG w base e v n xs) : ∀ k, v.ownBlock = some k → base ≤ k ∧ k < w.heap.size := by
  intro k hk
  obtain ⟨hl, g, cap, cur, fz, rfl, hb, hg, _⟩ := h
  simp [Value.ownBlock] at hk
  subst hk
  exact ⟨hb, (Array.getElem?_eq_some_iff.1 hg).1⟩

theorem rowG.kept {w' : World} (h : rowG w base e v n xs) (hg : Below w.heap.size w w') : rowG w' base e v n xs := by
  obtain ⟨hl, g, cap, cur, fz, rfl, hb, hgg, rest⟩ := h
  refine ⟨hl, g, cap, cur, fz, rfl, hb, ?_, rest⟩
  rw [hg.block g (Array.getElem?_eq_some_iff.1 hgg).1]
  exact hgg

theorem rowG.cells (h : rowG w base e v n xs) : ∃ g cap, v = .slice (some ⟨g, 0, none⟩) n cap ∧ base ≤ g ∧ g < w.heap.size ∧ ∀ j u, xs[j]? = some u → w.cell? ((⟨g, 0, none⟩ : Addr).add j) = some u := by
  obtain ⟨hl, g, cap, cur, fz, rfl, hb, hg, hfz, hnc, hcm, hcs, htake⟩ := h
  refine ⟨g, cap, rfl, hb, (Array.getElem?_eq_some_iff.1 hg).1, ?_⟩
  intro j u hu
  have hadd : (⟨g, 0, none⟩ : Addr).add j = ⟨g, j, none⟩ := by unfold Addr.add; split <;> simp_all
  rw [hadd, cell_of_row w g j cur e fz hg]
  rw [← htake, List.getElem?_take] at hu
  split at hu
  · simpa using hu
  · cases hu

theorem run_append_G (t u ty : TypeId) (i : TypeInfo) (z : Value) (ht : P.underlying t = some (.slice e)) (hi : P.info? e = some i) (hz : i.zero = some z) (hzs : z.cells.size = 1)
    (hsize : i.size = 1) (hby : i.bytes = 1) (hown : rowG w base e v n xs) (x : Value) (m : Nat) (news : List Value) (hl : news.length = m)
    (hroomR : ∀ g cap cur fz, v = .slice (some ⟨g, 0, none⟩) n cap → w.heap[g]? = some (.cells cur e fz) → Fzn fz cur.size → n + m ≤ cap → n + m ≤ cur.size →
      (Builtin.append_ #[t, u] ty #[v, x]).run P w = .ok (.slice (some ⟨g, 0, none⟩) (n + m) cap) (w.setRow g (cur.toList.take n ++ news ++ cur.toList.drop (n + m)).toArray))
    (hgrowR : ∀ g cap, v = .slice (some ⟨g, 0, none⟩) n cap → ¬ n + m ≤ cap → (∀ j u, xs[j]? = some u → w.cell? ((⟨g, 0, none⟩ : Addr).add j) = some u) →
      (Builtin.append_ #[t, u] ty #[v, x]).run P w = .ok (.slice (some ⟨w.heap.size, 0, none⟩) (n + m) (grownCap w (n + m) cap e)) (w.drew.alloc (.cells (xs.toArray ++ news.toArray ++ Builtin.zeroCells z.cells (grownCap w (n + m) cap e - (n + m))) e)))
    (hbytes : n + m ≤ 140737488355328) (hbase : base ≤ w.heap.size) :
    ∃ v' w', (Builtin.append_ #[t, u] ty #[v, x]).run P w = .ok v' w' ∧ rowG w' base e v' (n + m) (xs ++ news) ∧ w.grownBy w' v.ownBlock := by
  have hown0 := hown
  obtain ⟨hxl, g, cap, cur, fz, rfl, hbg, hg, hfz, hnc, hcm, hcs, htake⟩ := hown
  have hlen : (xs ++ news).length = n + m := by rw [List.length_append, hxl, hl]
  by_cases hroom : n + m ≤ cap
  · have hr := hroomR g cap cur fz rfl hg hfz hroom (by omega)
    refine ⟨_, _, hr, ⟨hlen, g, cap, _, fz, rfl, hbg, setRow_heap w g cur _ e _ hg, ?_, hroom, hcm, ?_, ?_⟩, ⟨rfl, rfl, rfl, by simp, fun k _ hk => setRow_other w g k _ (fun e => hk (by simp [Value.ownBlock, e]))⟩⟩
    · have : (cur.toList.take n ++ news ++ cur.toList.drop (n + m)).toArray.size = cur.size := by
        simp only [List.size_toArray, List.length_append, List.length_take, List.length_drop, Array.length_toList]
        omega
      rw [this]
      exact hfz
    · simp only [List.size_toArray, List.length_append, List.length_take, List.length_drop, Array.length_toList]
      omega
    · rw [htake, ← hlen]
      exact List.take_left
  · obtain ⟨g', cap', h1, -, -, h4⟩ := hown0.cells
    have hr := hgrowR g' cap' h1 (by injection h1 with h1 h2 h3; subst h3; exact hroom) h4
    injection h1 with h1 h2 h3
    subst h3
    have hge := grownCap_ge w (n + m) cap e
    have hcm2 : grownCap w (n + m) cap e ≤ maxLen := grownCap_le_maxLen w (n + m) cap e (by unfold maxLen; omega)
    refine ⟨_, _, hr, ⟨hlen, w.heap.size, _, _, (0, 0), rfl, hbase, heap_alloc_new w.drew _, fun k _ h => absurd h.2 (Nat.not_lt_zero _), hge, hcm2, ?_, ?_⟩, ⟨rfl, rfl, rfl, by simp, fun k hk _ => heap_alloc_old w.drew _ hk⟩⟩
    · simp only [Array.size_append, List.size_toArray, size_zeroCells, hzs, hlen]
      omega
    · simp only [Array.toList_append, List.append_assoc]
      rw [← List.append_assoc, ← hlen]
      exact List.take_left

theorem run_append_strG (t u ty : TypeId) (i : TypeInfo) (ht : P.underlying t = some (.slice e)) (hu : P.underlying u = some .string) (hi : P.info? e = some i) (hz : i.zero = some (.int .u8 0))
    (hsize : i.size = 1) (hby : i.bytes = 1) (hown : rowG w base e v n xs) (s : ByteArray) (hbytes : n + s.size ≤ 140737488355328) (hbase : base ≤ w.heap.size) :
    ∃ v' w', (Builtin.append_ #[t, u] ty #[v, .string s]).run P w = .ok v' w' ∧ rowG w' base e v' (n + s.size) (xs ++ strCells s) ∧ w.grownBy w' v.ownBlock := by
  refine run_append_G t u ty i (.int .u8 0) ht hi hz rfl hsize hby hown (.string s) s.size (strCells s) (strCells_length s) ?_ ?_ hbytes hbase
  · rintro g cap cur fz rfl hg hfz hroom hfit
    have hf := run_firstCells_string (P := P) w 1 s
    have hst := run_storeG P g n e fz (strCells s) 0 cur w hg hfz (by simpa [strCells_length] using hfit) (strCells_oneCell s)
    simp only [Nat.add_zero, strCells_length] at hst
    simp [Builtin.append_, run_underlying ht, run_underlying hu, sizeOf, typeInfo, hi, hsize, Builtin.lenOf, hroom, hf, Addr.add_lit, hst]
  · rintro g cap rfl hroom holds
    have h63 : n + s.size ≤ maxLen := by unfold maxLen; omega
    exact run_append_grow_string (P := P) w t u ty e i (.int .u8 0) ht hu hi hz ⟨g, 0, none⟩ n cap xs (by rw [hsize, Nat.mul_one]; exact hown.1) holds s (by simp only [maxLen] at h63; omega) (by omega) (by rw [hby]; exact growslice_fits (by omega) (by omega))

theorem run_append_sliG (t ty : TypeId) (i : TypeInfo) (z : Value) (ht : P.underlying t = some (.slice e)) (hi : P.info? e = some i) (hz : i.zero = some z) (hzs : z.cells.size = 1)
    (hsize : i.size = 1) (hby : i.bytes = 1) (hown : rowG w base e v n xs) (a : Addr) (m c : Nat) (news : List Value) (hl : news.length = m) (hnews : ∀ j u, news[j]? = some u → w.cell? (a.add j) = some u) (h1 : ∀ u ∈ news, u.oneCell' = true)
    (hbytes : n + m ≤ 140737488355328) (hbase : base ≤ w.heap.size) :
    ∃ v' w', (Builtin.append_ #[t, t] ty #[v, .slice (some a) m c]).run P w = .ok v' w' ∧ rowG w' base e v' (n + m) (xs ++ news) ∧ w.grownBy w' v.ownBlock := by
  refine run_append_G t t ty i z ht hi hz hzs hsize hby hown (.slice (some a) m c) m news hl ?_ ?_ hbytes hbase
  · rintro g cap cur fz rfl hg hfz hroom hfit
    have hf := run_firstCells_some (P := P) w i.size m a m c news (by rw [hsize, hl, Nat.mul_one]) hnews
    have hst := run_storeG P g n e fz news 0 cur w hg hfz (by rw [Nat.add_zero, hl]; exact hfit) h1
    simp only [Nat.add_zero, hl] at hst
    rw [hsize] at hf
    simp [Builtin.append_, run_underlying ht, sizeOf, typeInfo, hi, hsize, Builtin.lenOf, hroom, hf, Addr.add_lit, hst]
  · rintro g cap rfl hroom holds
    have h63 : n + m ≤ maxLen := by unfold maxLen; omega
    exact run_append_grow (P := P) w t ty e i z ht hi hz ⟨g, 0, none⟩ n cap xs (by rw [hsize, Nat.mul_one]; exact hown.1) holds a m c news (by rw [hsize, hl, Nat.mul_one]) hnews (by simp only [maxLen] at h63; omega) (by omega) (growslice_fits (by omega) (by rw [hby]; omega))
end

def OwnG (base : Nat) (w : World) (v : Value) (l : List UInt8) : Prop := rowG w base 5 v l.length (byteVals l)

theorem OwnG.below {base : Nat} {w w' : World} {v : Value} {l : List UInt8} (h : OwnG base w v l) (hb : Below w.heap.size w w') : OwnG base w' v l := rowG.kept h hb
theorem OwnG.eq {base : Nat} {w : World} {v : Value} {l m : List UInt8} (h : OwnG base w v l) (e : l = m) : OwnG base w v m := e ▸ h
theorem OwnG.grown {base : Nat} {w w' : World} {v : Value} {l : List UInt8} (h : OwnG base w v l) (hbase : base ≤ w.heap.size) (hg : w.grownBy w' v.ownBlock) : Below base w w' :=
  ⟨hg.os, hg.tape, hg.output, hg.size, fun k hk => hg.block k (by omega) (fun e => by
    have := (rowG.lt h k e.symm).1
    omega)⟩
theorem OwnG.conv {base : Nat} {w : World} {v : Value} {l : List UInt8} (h : OwnG base w v l) :
    (convert 36 9 v).run Tryz.prog w = .ok (.string ⟨l.toArray⟩) w := by
  obtain ⟨g, cap, rfl, -, -, h4⟩ := rowG.cells h
  refine run_convert_bytes_back _ 36 9 5 ⟨g, 0, none⟩ cap l Tryz.underlying36 Tryz.underlying5 Tryz.underlying9 (fun j hj => h4 j _ (byteVals_get l j hj))

theorem OwnG.made (base : Nat) (w : World) (s : ByteArray) (cap g n : Nat) (hn : n = s.size) (hg : g = w.heap.size) (hb : base ≤ w.heap.size) (hc : s.size ≤ cap) (hm : cap ≤ maxLen) (q : Nat × Nat) (hq : q = ((bytesRow s cap).size, (bytesRow s cap).size + 1)) :
    OwnG base (w.alloc (.cells (bytesRow s cap) 5 q)) (.slice (some ⟨g, 0, none⟩) n cap) (L s) := by
  subst hg
  subst hn
  subst hq
  have hl : (byteVals (L s)).length = s.size := by rw [byteVals_length, L_length]
  have hsz : (bytesRow s cap).size = cap := by
    simp [bytesRow]
    omega
  unfold OwnG
  rw [L_length]
  refine ⟨hl, w.heap.size, cap, bytesRow s cap, ((bytesRow s cap).size, (bytesRow s cap).size + 1), rfl, hb, ?_, ?_, hc, hm, hsz, ?_⟩
  · show (w.heap.push _)[w.heap.size]? = _
    simp
  · intro k hk h
    have h1 := h.1
    simp only at h1
    omega
  · have e : (bytesRow s cap).toList = byteVals (L s) ++ (Array.replicate (cap - s.size) (Value.int .u8 0)).toList := by
      unfold bytesRow byteVals
      rw [Array.toList_append, Array.toList_map]
    rw [e, ← hl]
    exact List.take_left

theorem wpList_appTG {w : World} {ops : Array Oper} {rest : List Oper} {o : Oper} {a : Act} {Q : Exit → Act → World → Prop} (hgd : o.guard = none) (s x : Operand)
    (ho : o.op = .call { callee := .builtin .append, args := #[s, x], argTypes := #[36, 9] })
    (base : Nat) (v : Value) (l : List UInt8) (t : ByteArray) (hs : a.eval s = v) (hv : OwnG base w v l) (hx : a.eval x = .string t)
    (hb : l.length + t.size ≤ 140737488355328) (hbase : base ≤ w.heap.size)
    (h : ∀ v' w', OwnG base w' v' (l ++ L t) → Below base w w' → wpList Tryz.prog ops Q rest (a.put o.dst v') w') : wpList Tryz.prog ops Q (o :: rest) a w := by
  obtain ⟨i0, hi, hz0, hz1, hz2⟩ := info_parts infoU8t
  refine wpList_plain hgd fun K hK => ?_
  obtain ⟨v', w', hr, h2, h3⟩ := run_append_strG (P := Tryz.prog) 36 9 o.type i0 Tryz.underlying36 Tryz.underlying9 hi hz0 hz1 hz2 hv t hb hbase
  unfold Oper.wp execOp
  simp only [ho, resolve, invoke, builtin, Sem.run_bind, Sem.run_pure, Result.andThen_ok, List.map_toArray, List.map_cons, List.map_nil, hs, hx, hr]
  refine hK _ _ (h v' w' ?_ (hv.grown hbase h3))
  unfold OwnG
  rw [List.length_append, byteVals_append, L_length]
  exact h2

theorem wpList_appBG {w : World} {ops : Array Oper} {rest : List Oper} {o : Oper} {a : Act} {Q : Exit → Act → World → Prop} (hgd : o.guard = none) (s x : Operand)
    (ho : o.op = .call { callee := .builtin .append, args := #[s, x], argTypes := #[36, 36] })
    (base base2 : Nat) (v u : Value) (l m : List UInt8) (hs : a.eval s = v) (hv : OwnG base w v l) (hx : a.eval x = u) (hu : OwnG base2 w u m)
    (hb : l.length + m.length ≤ 140737488355328) (hbase : base ≤ w.heap.size)
    (h : ∀ v' w', OwnG base w' v' (l ++ m) → Below base w w' → wpList Tryz.prog ops Q rest (a.put o.dst v') w') : wpList Tryz.prog ops Q (o :: rest) a w := by
  obtain ⟨i0, hi, hz0, hz1, hz2⟩ := info_parts infoU8t
  obtain ⟨g, cap, rfl, -, -, h4⟩ := rowG.cells hu
  refine wpList_plain hgd fun K hK => ?_
  obtain ⟨v', w', hr, h2, h3⟩ := run_append_sliG (P := Tryz.prog) 36 o.type i0 (.int .u8 0) Tryz.underlying36 hi hz0 rfl hz1 hz2 hv ⟨g, 0, none⟩ m.length cap (byteVals m) (byteVals_length m) h4 byteVals_one9 hb hbase
  unfold Oper.wp execOp
  simp only [ho, resolve, invoke, builtin, Sem.run_bind, Sem.run_pure, Result.andThen_ok, List.map_toArray, List.map_cons, List.map_nil, hs, hx, hr]
  refine hK _ _ (h v' w' ?_ (hv.grown hbase h3))
  unfold OwnG
  rw [List.length_append, byteVals_append]
  exact h2
theorem OwnG.drewN {base : Nat} {w : World} {v : Value} {l : List UInt8} (h : OwnG base w v l) (n : Nat) : OwnG base (w.drewN n) v l := h
theorem OwnG.drew {base : Nat} {w : World} {v : Value} {l : List UInt8} (h : OwnG base w v l) : OwnG base w.drew v l := h

theorem step_appTG {w : World} {ops : Array Oper} {o : Oper} {a : Act} {K : Act → World → Prop} {Q : Exit → Act → World → Prop} {E : Prop} (hgd : o.guard = none) (s x : Operand)
    (ho : o.op = .call { callee := .builtin .append, args := #[s, x], argTypes := #[36, 9] })
    (base : Nat) (v : Value) (l : List UInt8) (t : ByteArray) (hs : a.eval s = v) (hv : OwnG base w v l) (hx : a.eval x = .string t)
    (hb : l.length + t.size ≤ 140737488355328) (hbase : base ≤ w.heap.size)
    (h : ∀ v' w', OwnG base w' v' (l ++ L t) → Below base w w' → K (a.put o.dst v') w') : if Region.wanted o (yielded ops a.tmps) = true then Oper.wp Tryz.prog o a w K Q else E := by
  have hw : Region.wanted o (yielded ops a.tmps) = true := by simp [Region.wanted, hgd]
  rw [if_pos hw]
  obtain ⟨i0, hi, hz0, hz1, hz2⟩ := info_parts infoU8t
  obtain ⟨v', w', hr, h2, h3⟩ := run_append_strG (P := Tryz.prog) 36 9 o.type i0 Tryz.underlying36 Tryz.underlying9 hi hz0 hz1 hz2 hv t hb hbase
  unfold Oper.wp execOp
  simp only [ho, resolve, invoke, builtin, Sem.run_bind, Sem.run_pure, Result.andThen_ok, List.map_toArray, List.map_cons, List.map_nil, hs, hx, hr]
  refine h v' w' ?_ (hv.grown hbase h3)
  unfold OwnG
  rw [List.length_append, byteVals_append, L_length]
  exact h2
end Go.Proofs.YtokdclmikllepaaGreatDoor
namespace Go.Proofs.YtokdclmikllepaaGreatDoor
open Go.RowKit
set_option linter.unusedVariables false
set_option linter.unusedSimpArgs false

/-! ### ref09.write -/
def tagK (x : Sp.EE) (j : Nat) : List UInt8 := 60 :: x.name ++ (x.attrs.take j).flatMap Sp.tagA
theorem tagK_all {x : Sp.EE} {n : Nat} (h : x.attrs.length = n) : tagK x n = Sp.tag x := by
  unfold tagK Sp.tag
  rw [List.take_of_length_le (by omega)]
theorem tagK_next {x : Sp.EE} {j : Nat} {a : Sp.EA} (h : x.attrs[j]? = some a) : tagK x (j + 1) = tagK x j ++ (32 :: a.name ++ 61 :: Sp.quote a.value) := by
  unfold tagK
  rw [List.take_add_one, h, List.flatMap_append]
  simp [Sp.tagA]
theorem tagK_len (x : Sp.EE) (j : Nat) : (tagK x j).length ≤ 6 * wtEE x + 1 := by
  have h1 := tags_six (x.attrs.take j)
  have h2 : ((x.attrs.take j).map wtEA).sum ≤ (x.attrs.map wtEA).sum := by
    rw [← List.take_append_drop j x.attrs, List.take_append_drop j x.attrs, List.map_take]
    conv => rhs; rw [← List.take_append_drop j (x.attrs.map wtEA)]
    rw [List.sum_append]
    omega
  have h3 : wtEE x = x.name.length + x.text.length + (x.attrs.map wtEA).sum := rfl
  unfold tagK
  simp only [List.length_append, List.length_cons]
  omega
theorem isEnd_ex {l : List Sp.EE} {i : Nat} (hi : i < l.length) : ∃ q, IsEnd l i q := by
  have key : ∀ m k, l.length - k ≤ m → i < k → k ≤ l.length → (∀ k', i < k' → k' < k → i ∈ anc l k') → ∃ q, IsEnd l i q := by
    intro m
    induction m with
    | zero =>
      intro k h1 h2 h3 h4
      exact ⟨k, h2, h3, h4, fun h => by omega⟩
    | succ m ih =>
      intro k h1 h2 h3 h4
      by_cases hk : k < l.length ∧ i ∈ anc l k
      · refine ih (k + 1) (by omega) (by omega) (by omega) (fun k' g1 g2 => ?_)
        by_cases hkk : k' = k
        · subst hkk; exact hk.2
        · exact h4 k' g1 (by omega)
      · exact ⟨k, h2, h3, h4, fun h g => hk ⟨h, g⟩⟩
  exact key l.length (i + 1) (by omega) (by omega) (by omega) (fun k' h1 h2 => by omega)
theorem isEnd_in {l : List Sp.EE} (va : Va l) {i q k k' : Nat} (hq : IsEnd l i q) (hik : i < k) (hkq : k < q) (hk : IsEnd l k k') : k' ≤ q := by
  apply Nat.le_of_not_lt
  intro hlt
  have h1 := hk.2.2.1 q hkq hlt
  have hql : q < l.length := by have := hk.2.1; omega
  obtain ⟨suf, hs⟩ := va.pre q hql k h1
  refine hq.2.2.2 hql ?_
  rw [hs]
  exact List.mem_append_left _ (hq.2.2.1 k hik hkq)
theorem rend_is (w : World) (v : Value) (l : List Sp.EE) (h : ElsR w v l) (hl : l.length ≤ 4096) (va : Va l) (i : Nat) (hi : i < l.length) (q : Nat) (hq : IsEnd l i q) :
    Calls Tryz.prog 114 #[v, .int .i64 (i : Int)] w fun e w' => e = .returned (.int .i64 (q : Int)) ∧ Below w.heap.size w w' :=
  (rend_calls w v l h hl va i hi).mono fun e w' ⟨⟨q', he, hq'⟩, hb⟩ => ⟨by rw [he, hq'.uniq hq], hb⟩
theorem hquote_is (s : ByteArray) (t : ByteArray) (w : World) (hs : s.size ≤ 6000000) (ht : (⟨(Sp.quote (L s)).toArray⟩ : ByteArray) = t) :
    Calls Tryz.prog 27 #[.string s] w fun e w' => e = .returned (.string t) ∧ Below w.heap.size w w' := ht ▸ hquote_calls s w hs
theorem hescape_is (s : ByteArray) (t : ByteArray) (w : World) (hs : s.size ≤ 6000000) (ht : (⟨(Sp.escape (L s)).toArray⟩ : ByteArray) = t) :
    Calls Tryz.prog 26 #[.string s] w fun e w' => e = .returned (.string t) ∧ Below w.heap.size w w' := ht ▸ hescape_calls s w hs
theorem cost_mono {l : List Sp.EE} {i j : Nat} (h : i ≤ j) : costTo l i ≤ costTo l j := by
  unfold costTo
  have : l.take i = (l.take j).take i := by rw [List.take_take, Nat.min_eq_left h]
  rw [this, List.map_take]
  conv => rhs; rw [← List.take_append_drop i ((l.take j).map costE)]
  rw [List.sum_append]
  omega
theorem own_open0 (w : World) (s : ByteArray) (cap m : Nat) (hsz : s.size = m) (h1 : m ≤ cap) (h2 : cap ≤ maxLen) : OwnG w.heap.size ((w.alloc (.cells (bytesRow s cap) 5 ((bytesRow s cap).size, (bytesRow s cap).size + 1))).drew) (.slice (some ⟨w.heap.size, 0, none⟩) m cap) (L s) := by
  subst hsz
  exact OwnG.made w.heap.size w s cap w.heap.size s.size rfl rfl (Nat.le_refl _) h1 h2 _ rfl
theorem own_open (w : World) (nm : ByteArray) (hnm : nm.size ≤ 1000000) : OwnG w.heap.size ((w.alloc (.cells (bytesRow (⟨#[60]⟩ ++ nm) (grownCap w (1 + nm.size) 0 5)) 5
    ((bytesRow (⟨#[60]⟩ ++ nm) (grownCap w (1 + nm.size) 0 5)).size, (bytesRow (⟨#[60]⟩ ++ nm) (grownCap w (1 + nm.size) 0 5)).size + 1))).drew) (.slice (some ⟨w.heap.size, 0, none⟩) (1 + nm.size) (grownCap w (1 + nm.size) 0 5)) (60 :: L nm) := by
  have hsz : (⟨#[60]⟩ ++ nm : ByteArray).size = 1 + nm.size := by rw [ByteArray.size_append]; rfl
  have hl : L (⟨#[60]⟩ ++ nm : ByteArray) = 60 :: L nm := by simp [ByteArray.data_append]
  have h1 := grownCap_ge w (1 + nm.size) 0 5
  have h2 : grownCap w (1 + nm.size) 0 5 ≤ maxLen := grownCap_le_maxLen w _ _ _ (by unfold maxLen; omega)
  rw [← hl]
  exact own_open0 w _ _ _ hsz h1 h2
def WrEnd (l : List Sp.EE) (i : Nat) (w : World) (e : Ending) (w' : World) : Prop := ∃ v' s, e = .returned v' ∧ OwnG w.heap.size w' v' s ∧ RW l none i s ∧ Below w.heap.size w w'
theorem app_str (a b : ByteArray) : L (a ++ b) = L a ++ L b := by simp [ByteArray.data_append]

set_option maxHeartbeats 8000000 in
set_option maxRecDepth 100000 in
theorem rwrite_calls (l : List Sp.EE) (va : Va l) (hl : l.length ≤ 4096) (hw : ∀ x ∈ l, wtEE x ≤ 100000) (hc : costTo l l.length ≤ 1000000) : ∀ (m i : Nat), l.length - i ≤ m → i < l.length → ∀ (w : World) (v : Value), ElsR w v l →
    Calls Tryz.prog 80 #[v, .int .i64 (i : Int)] w (WrEnd l i w) := by
  intro m
  induction m with
  | zero => intro i hm hi; omega
  | succ m ih =>
  intro i hm hi w v h
  obtain ⟨n, hn⟩ : ∃ n, l.length = n := ⟨_, rfl⟩
  have HE := Lib.hid h
  obtain ⟨a1, c1, rfl, hc1⟩ := h.cells
  obtain ⟨g1, o1, rfl, hg1, hc1⟩ := hc1 (by omega)
  obtain ⟨x, hx⟩ : ∃ x, l[i]? = some x := ⟨_, List.getElem?_eq_getElem hi⟩
  have hwx := hw x (List.mem_of_getElem? hx)
  obtain ⟨hb1, hb2, hb3, hb4⟩ := EEBd.of hwx
  obtain ⟨av, hav, hcl⟩ := hc1 i x hx
  obtain ⟨a2, c2, rfl, hca⟩ := hav.cells
  obtain ⟨nm, hnm⟩ : ∃ nm : ByteArray, (⟨x.name.toArray⟩ : ByteArray) = nm := ⟨_, rfl⟩
  obtain ⟨tx, htx⟩ : ∃ tx : ByteArray, (⟨x.text.toArray⟩ : ByteArray) = tx := ⟨_, rfl⟩
  obtain ⟨na, hna⟩ : ∃ na, x.attrs.length = na := ⟨_, rfl⟩
  rw [hnm, htx, hna] at hcl
  rw [hna] at hca hb3
  obtain ⟨hnms, hnmL⟩ := sz_of hnm
  obtain ⟨htxs, htxL⟩ := sz_of htx
  obtain ⟨q, hq⟩ := isEnd_ex hi
  have hcost := cost_mono (l := l) (i := i + 1) (j := l.length) (by omega)
  have hin1 : (i : Int) < n := by omega
  have hin0 : (0 : Int) ≤ i := by omega
  have hwi : IntKind.i64.wrap ((i : Int) + 1) = ((i + 1 : Nat) : Int) := IntWalk.i64_in _ (by omega)
  have hq4 := hq.2.1
  have hq0 := hq.1
  have HQ := Lib.hid hq
  have HX := Lib.hid hx
  have HCL := Lib.hid hcl
  have HCA := Lib.hid hca
  have HVA := Lib.hid va
  have HL := Lib.hid hl
  have HW := Lib.hid hw
  have HC := Lib.hid hc
  have HIH := Lib.hid ih
  have HNML := Lib.hid hnmL
  have HTXL := Lib.hid htxL
  have HN := Lib.hid hn
  have HNA := Lib.hid hna
  have HI := Lib.hid hi
  have HM := Lib.hid hm
  have HWX := Lib.hid hwx
  have HB4 := Lib.hid hb4
  have HCOST := Lib.hid hcost
  have hq4n : q ≤ n := by omega
  have hn4 : n ≤ 4096 := by omega
  have hnm6 : nm.size ≤ 1000000 := by omega
  have htx6 : tx.size ≤ 1000000 := by omega
  have hnmz : ¬ (9223372036854775807 < (1 : Int) + nm.size) := by omega
  obtain ⟨y0, y1, y2, -, -⟩ := HCL.out w (Below.refl _ _)
  rw [hn] at HE ⊢
  clear hx hcl hca va hl hw hc ih hnmL htxL hi hm hn hav hc1 hwx hb4 hcost hq hna h hq4 hnms htxs
  have hcv2 := fun w s => run_bytes_of_string (P := Tryz.prog) w 9 36 5 s Tryz.underlying9 Tryz.underlying36 Tryz.underlying5
  go_enter Tryz.func80, Tryz.ntmps80
  go_wp2_with fail
  go_loopg [5, 6] (na + 1) (fun kk out k wr => ∃ j : Nat, k = .int .i64 j ∧ j ≤ na ∧ na - j < kk ∧ Hid (OwnG w.heap.size wr out (tagK x j)) ∧ Hid (Below w.heap.size w wr))
  case atStart =>
    refine ⟨0, rfl, Nat.zero_le _, by omega, ?_, Below.drew ((Below.refl _ _).alloc (Nat.le_refl _) _)⟩
    refine OwnG.eq (own_open w nm hnm6) ?_
    rw [HNML.out]
    simp [tagK]
  case round =>
    obtain ⟨j, rfl, hj, hk, HO, HB⟩ := hrel
    obtain ⟨y0, y1, y2, -, -⟩ := HCL.out wr HB.out
    by_cases hlt : j < na
    · have hd : decide ((j : Int) < na) = true := by simp; omega
      obtain ⟨g2, o2, rfl, hg2, hca2⟩ := HCA.out (by omega)
      obtain ⟨a, ha⟩ : ∃ a, x.attrs[j]? = some a := ⟨_, List.getElem?_eq_getElem (by rw [HNA.out]; exact hlt)⟩
      obtain ⟨ha1, ha2⟩ := HB4.out a (List.mem_of_getElem? ha)
      obtain ⟨an, han⟩ : ∃ an : ByteArray, (⟨a.name.toArray⟩ : ByteArray) = an := ⟨_, rfl⟩
      obtain ⟨vl, hvl⟩ : ∃ vl : ByteArray, (⟨a.value.toArray⟩ : ByteArray) = vl := ⟨_, rfl⟩
      have hcj := hca2 j a ha
      rw [han, hvl] at hcj
      obtain ⟨hans, hanL⟩ := sz_of han
      obtain ⟨hvls, hvlL⟩ := sz_of hvl
      obtain ⟨qv, hqv⟩ : ∃ qv : ByteArray, (⟨(Sp.quote (L vl)).toArray⟩ : ByteArray) = qv := ⟨_, rfl⟩
      obtain ⟨hqvs, hqvL⟩ := sz_of hqv
      have hq6 := quote_six (L vl)
      rw [L_length] at hq6
      have han6 : an.size ≤ 1000000 := by omega
      have hvl6 : vl.size ≤ 6000000 := by omega
      have hqv6 : qv.size ≤ 40000000 := by omega
      have htg : (tagK x j).length ≤ 1000000 := by
        have h1 := tagK_len x j
        have h2 := HWX.out
        omega
      have hnx := tagK_next ha
      have hLt : L (⟨#[32]⟩ ++ an ++ ⟨#[61]⟩ ++ qv) = 32 :: a.name ++ 61 :: Sp.quote a.value := by
        rw [app_str, app_str, app_str, hanL, hqvL, hvlL, show L (⟨#[32]⟩ : ByteArray) = [32] from rfl, show L (⟨#[61]⟩ : ByteArray) = [61] from rfl]
        simp
      have HTL := Lib.hid hLt
      clear hLt
      have hz1 : ¬ (9223372036854775807 < 1 + an.size) := by omega
      have hz2 : ¬ (9223372036854775807 < 1 + an.size + 1) := by omega
      have hz3 : ¬ (9223372036854775807 < 1 + an.size + 1 + qv.size) := by omega
      have hj0 : (0 : Int) ≤ j := by omega
      have hj1 : (j : Int) < na := by omega
      have HCJ := Lib.hid hcj
      have HQV := Lib.hid hqv
      have HNX := Lib.hid hnx
      have HANL := Lib.hid hanL
      have HVLL := Lib.hid hvlL
      have HQVL := Lib.hid hqvL
      have HTG := Lib.hid htg
      obtain ⟨z0, z1, -⟩ := HCJ.out wr HB.out
      clear hca2 ha han hvl hcj hans hanL hvls hvlL hqv hqvs hqvL hq6 ha1 ha2 hnx htg y0 y2
      go_upto_region 5 with fail
      go_region_law (first
        | (refine step_appTG rfl (.tmp 25) (.tmp 47) rfl w.heap.size _ (tagK x j) (⟨#[32]⟩ ++ an ++ ⟨#[61]⟩ ++ qv) (by simp [Act.eval, Act.put]) HO3.out (by simp [Act.eval, Act.put]) ?_ HB3.out.size ?_; (· (simp only [ByteArray.size_append]; show _ + (1 + an.size + 1 + qv.size) ≤ _; have := HTG.out; omega)); (intro v' w4 ho4 hb4))
        | (go_simp; go_at_call 27; refine (hquote_is vl qv _ hvl6 HQV.out).mono ?_; rintro e w3 ⟨rfl, hbl⟩; have HB3 := Lib.hid (below_then (Below.drew HB.out) hbl); have HO3 := Lib.hid (OwnG.below (OwnG.drew HO.out) hbl); obtain ⟨-, y1, -, -, -⟩ := HCL.out _ HB3.out; obtain ⟨z0, z1, -⟩ := HCJ.out _ HB3.out; clear hbl))
      all_goals
        go_wp2_with fail
        go_roundg (gk - 1)
        case measure => omega
        case rel =>
          refine ⟨j + 1, by simp, by omega, by omega, ?_, HB3.out.trans hb4⟩
          refine OwnG.eq ho4 ?_
          rw [HNX.out, HTL.out]
    · have hj' : j = na := by omega
      subst hj'
      have hd : decide ((j : Int) < j) = false := by simp
      have HTG : Hid (OwnG w.heap.size wr u5 (Sp.tag x)) := OwnG.eq HO.out (tagK_all HNA.out)
      have htl : (Sp.tag x).length ≤ 1000000 := by
        rw [← tagK_all HNA.out]
        have h1 := tagK_len x j
        have h2 := HWX.out
        omega
      have HTLN := Lib.hid htl
      have HCLn := fun (W : World) (hW : Below w.heap.size w W) => (HCL.out W hW).1
      clear htl HO
      by_cases hleaf : q = i + 1 ∧ x.text = []
      · obtain ⟨hqi, hte⟩ := hleaf
        have htx0 : tx.toList.isEmpty = true := by rw [toList_L, HTXL.out, hte]; rfl
        have hqe : ((q : Int) == (i : Int) + 1) = true := by rw [hqi]; simp
        have HTE := Lib.hid hte
        have HQI := Lib.hid hqi
        clear hqi hte
        go_wp2_with (first
          | (go_at_call 114; go_must (refine (rend_is _ _ l (HE.out.below HB.out) HL.out HVA.out i HI.out q HQ.out).mono ?_); rintro e w3 ⟨rfl, hb3⟩; have HB3 := Lib.hid (below_then HB.out hb3); have HO3 := Lib.hid (OwnG.below HTG.out hb3); obtain ⟨y0, y1, y2, -, -⟩ := HCL.out _ HB3.out; clear hb3)
          | (at_builtin; refine wpList_appTG rfl (.tmp 63) (.const (.string ⟨#[47, 62]⟩)) rfl w.heap.size _ _ ⟨#[47, 62]⟩ (by rfl) HO3.out (by rfl) ?_ HB3.out.size ?_; (· show _ + 2 ≤ _; have := HTLN.out; omega); (intro v' w4 ho4 hb4)))
        go_ret
        exact ⟨v', _, rfl, ho4, RW.leaf HX.out (HQI.out ▸ HQ.out) HTE.out, HB3.out.trans hb4⟩
      · have HLF := Lib.hid hleaf
        clear hleaf
        go_upto_region 6 with fail
        go_cut [62] (fun s62 wx => s62 = .bool false ∧ Hid (OwnG w.heap.size wx u5 (Sp.tag x)) ∧ Hid (Below w.heap.size w wx))
        case first =>
          by_cases hqi : q = i + 1
          · have hte : tx.toList.isEmpty = false := by
              rw [toList_L, HTXL.out]
              cases hh : x.text with
              | nil => exact absurd ⟨hqi, hh⟩ HLF.out
              | cons => rfl
            have hqe : ((q : Int) == (i : Int) + 1) = true := by rw [hqi]; simp
            clear hqi
            go_wp2_with (go_at_call 114; go_must (refine (rend_is _ _ l (HE.out.below HB.out) HL.out HVA.out i HI.out q HQ.out).mono ?_); rintro e w3 ⟨rfl, hb3⟩; have HB3 := Lib.hid (below_then HB.out hb3); have HO3 := Lib.hid (OwnG.below HTG.out hb3); obtain ⟨y0, y1, y2, -, -⟩ := HCL.out _ HB3.out; clear hb3)
            go_meet
            exact ⟨rfl, HO3, HB3⟩
          · have hqe : ((q : Int) == (i : Int) + 1) = false := by rw [beq_eq_false_iff_ne]; omega
            clear hqi
            go_wp2_with (go_at_call 114; go_must (refine (rend_is _ _ l (HE.out.below HB.out) HL.out HVA.out i HI.out q HQ.out).mono ?_); rintro e w3 ⟨rfl, hb3⟩; have HB3 := Lib.hid (below_then HB.out hb3); have HO3 := Lib.hid (OwnG.below HTG.out hb3); obtain ⟨y0, y1, y2, -, -⟩ := HCL.out _ HB3.out; clear hb3)
            go_meet
            exact ⟨rfl, HO3, HB3⟩
        case rest =>
          obtain ⟨rfl, HO3, HB3⟩ := hcut
          apply_assumption
          obtain ⟨ev, hev⟩ : ∃ ev : ByteArray, (⟨(Sp.escape (L tx)).toArray⟩ : ByteArray) = ev := ⟨_, rfl⟩
          obtain ⟨hevs, hevL⟩ := sz_of hev
          have he6 := escape_six (L tx)
          rw [L_length] at he6
          have htx7 : tx.size ≤ 6000000 := by omega
          have hev6 : ev.size ≤ 6000000 := by omega
          have hevz : ¬ (9223372036854775807 < 1 + ev.size) := by omega
          have HEV := Lib.hid hev
          have hevL2 : L (⟨#[62]⟩ ++ ev : ByteArray) = 62 :: Sp.escape x.text := by rw [app_str, hevL, HTXL.out]; rfl
          have HEVL := Lib.hid hevL2
          clear hev hevs hevL he6 hevL2 HTG HB y0 y1 y2
          obtain ⟨y0, y1, y2, -, -⟩ := HCL.out _ HB3.out
          go_wp2_with (first
            | (go_at_call 26; go_must (refine (hescape_is tx ev _ htx7 HEV.out).mono ?_); rintro e w4 ⟨rfl, hb4⟩; have HB4 := Lib.hid (below_then HB3.out hb4); have HO4 := Lib.hid (OwnG.below HO3.out hb4); clear hb4)
            | (at_builtin; refine wpList_appTG rfl (.tmp 65) (.tmp 72) rfl w.heap.size _ _ (⟨#[62]⟩ ++ ev) (by rfl) HO4.out (by rfl) ?_ HB4.out.size ?_; (· (rw [ByteArray.size_append]; show _ + (1 + ev.size) ≤ _; have := HTLN.out; omega)); (intro v' w5 ho5 hb5)))
          have HO5 : Hid (OwnG w.heap.size w5 v' (Sp.tag x ++ 62 :: Sp.escape x.text ++ [])) := OwnG.eq ho5 (by rw [HEVL.out, List.append_nil])
          have HB5 := Lib.hid (HB4.out.trans hb5)
          have hsl : (Sp.tag x ++ 62 :: Sp.escape x.text).length ≤ 8000000 := by
            have h1 := escape_six x.text
            have h2 := HTLN.out
            have h3 : x.text.length = tx.size := by rw [← HTXL.out, L_length]
            simp only [List.length_append, List.length_cons]
            omega
          have HSL := Lib.hid hsl
          clear ho5 hb5 HB3 HO3 HB4 HO4 y0 y1 y2 hsl
          go_loopg [5, 7] (n + 1) (fun kk out k wr2 => ∃ (k1 : Nat) (ks : List UInt8), k = .int .i64 k1 ∧ i < k1 ∧ k1 ≤ q ∧ q - k1 < kk ∧ Hid (OwnG w.heap.size wr2 out (Sp.tag x ++ 62 :: Sp.escape x.text ++ ks)) ∧ Hid (∀ ks', RW l (some q) k1 ks' → RW l (some q) (i + 1) (ks ++ ks')) ∧ Hid (ks.length + costTo l (i + 1) ≤ costTo l k1) ∧ Hid (Below w.heap.size w wr2))
          case atStart => exact ⟨i + 1, [], by simp, by omega, by omega, by omega, HO5, (fun ks' h => h), by show 0 + _ ≤ _; omega, HB5⟩
          case round =>
            clear HO5 HB5
            obtain ⟨k1, ks, rfl, hk1, hkq, hkk, HO5, HRW, HCK, HB5⟩ := hrel
            have hksl : ks.length ≤ 1000000 := by
              have h1 := HCK.out
              have h2 := cost_mono (l := l) (i := k1) (j := l.length) (by rw [HN.out]; omega)
              have h3 := HC.out
              omega
            have HKSL := Lib.hid hksl
            clear hksl
            by_cases hlt2 : k1 < q
            · have hd2 : decide ((k1 : Int) < q) = true := by simp; omega
              have hk1l : k1 < l.length := by rw [HN.out]; omega
              obtain ⟨k2, hk2⟩ := isEnd_ex hk1l
              have hk2q := isEnd_in HVA.out HQ.out hk1 hlt2 hk2
              have hk2g := hk2.1
              have hm2 : l.length - k1 ≤ m := by have := HM.out; omega
              have HK2 := Lib.hid hk2
              have HK1L := Lib.hid hk1l
              have HM2 := Lib.hid hm2
              clear hk2 hk1l hm2
              go_wp2_with (first
                | (go_at_call 114; (with_reducible refine (rend_is _ _ l (HE.out.below HB5.out) HL.out HVA.out i HI.out q HQ.out).mono ?_); rintro e w6 ⟨rfl, hb6⟩; have HB6 := Lib.hid (below_then HB5.out hb6); have HO6 := Lib.hid (OwnG.below HO5.out hb6); clear hb6)
                | (go_at_call 80; (refine (HIH.out k1 HM2.out HK1L.out _ _ (HE.out.below HB6.out)).mono ?_); (rintro e w7 ⟨v7, s7, rfl, ho7, hrw7, hb7⟩); have HS7 := Lib.hid ho7; have HRW7 := Lib.hid hrw7; have HB7 := Lib.hid (below_then HB6.out hb7); have HO7 := Lib.hid (OwnG.below HO6.out hb7); have hs7 := (rw_len hrw7).1 rfl k2 HK2.out; have HS7L := Lib.hid hs7; (have hs78 : s7.length ≤ 1000000 := by (have h2 := cost_mono (l := l) (i := k2) (j := l.length) (by rw [HN.out]; omega); have h3 := HC.out; omega)); have HS78 := Lib.hid hs78; clear ho7 hrw7 hb7 hs7 hs78)
                | (at_builtin; refine wpList_appBG rfl (.tmp 84) (.tmp 87) rfl w.heap.size _ _ v7 _ s7 (by rfl) HO7.out (by rfl) HS7.out ?_ HB7.out.size ?_; (· (rw [List.length_append]; have h1 := HSL.out; have h2 := HKSL.out; have h3 := HS78.out; omega)); (intro v8 w8 ho8 hb8; have HO8 := Lib.hid ho8; have HB8 := Lib.hid (HB7.out.trans hb8); clear ho8 hb8))
                | (go_at_call 114; (with_reducible refine (rend_is _ _ l (HE.out.below HB8.out) HL.out HVA.out k1 HK1L.out k2 HK2.out).mono ?_); rintro e w9 ⟨rfl, hb9⟩; have HB9 := Lib.hid (below_then HB8.out hb9); have HO9 := Lib.hid (OwnG.below HO8.out hb9); clear hb9))
              go_roundg (gk - 1)
              case measure => omega
              case rel =>
                refine ⟨k2, ks ++ s7, rfl, by omega, hk2q, by omega, OwnG.eq HO9.out (by simp), (fun ks' h => ?_), ?_, HB9.out⟩
                · rw [List.append_assoc]
                  exact HRW.out _ (RW.more hlt2 HRW7.out HK2.out h)
                · show _ ≤ _
                  rw [List.length_append]
                  have h1 := HCK.out
                  have h2 := HS7L.out
                  omega
            · have hkq' : k1 = q := by omega
              subst hkq'
              have hd2 : decide ((k1 : Int) < k1) = false := by simp
              have hL3 : L (⟨#[60, 47]⟩ ++ nm ++ ⟨#[62]⟩ : ByteArray) = Sp.closeT x.name := by rw [app_str, app_str, HNML.out]; rfl
              have HL3 := Lib.hid hL3
              have hz4 : ¬ (9223372036854775807 < 2 + nm.size) := by omega
              have hz5 : ¬ (9223372036854775807 < 2 + nm.size + 1) := by omega
              clear hL3
              go_wp2_with (first
                | (go_at_call 114; go_must (refine (rend_is _ _ l (HE.out.below HB5.out) HL.out HVA.out i HI.out k1 HQ.out).mono ?_); rintro e w6 ⟨rfl, hb6⟩; have HB6 := Lib.hid (below_then HB5.out hb6); have HO6 := Lib.hid (OwnG.below HO5.out hb6); obtain ⟨y0, y1, y2, -, -⟩ := HCL.out _ HB6.out; clear hb6)
                | (at_builtin; refine wpList_appTG rfl (.tmp 89) (.tmp 96) rfl w.heap.size _ _ (⟨#[60, 47]⟩ ++ nm ++ ⟨#[62]⟩) (by rfl) HO6.out (by rfl) ?_ HB6.out.size ?_; (· (rw [List.length_append, ByteArray.size_append, ByteArray.size_append]; show _ + (2 + nm.size + 1) ≤ _; have h1 := HSL.out; have h2 := HKSL.out; omega)); (intro v8 w8 ho8 hb8)))
              go_ret
              refine ⟨v8, _, rfl, OwnG.eq ho8 (by rw [HL3.out]), RW.node HX.out HQ.out HLF.out ?_, HB6.out.trans hb8⟩
              have h := HRW.out [] RW.done
              rw [List.append_nil] at h
              exact h
end Go.Proofs.YtokdclmikllepaaGreatDoor
namespace Go.Proofs.YtokdclmikllepaaGreatDoor
open Go.RowKit
set_option linter.unusedVariables false
set_option linter.unusedSimpArgs false

/-! ### ref09.Write, TreeWrites -/
theorem write_nonil {l : List Sp.EE} {T : List UInt8} (h : Sp.write l = some T) : l ≠ [] := by
  intro e
  subst e
  unfold Sp.write at h
  rw [if_pos (.inl rfl)] at h
  cases h
set_option maxHeartbeats 8000000 in
set_option maxRecDepth 100000 in
theorem refWrite_some (w : World) (v : Value) (l : List Sp.EE) (h : ElsR w v l) (hl : l.length ≤ 151) (hw : ∀ x ∈ l, wtEE x ≤ 100000) (hc : costTo l l.length ≤ 1000000) (T : List UInt8) (hT : Sp.write l = some T) (t : ByteArray) (ht : (⟨T.toArray⟩ : ByteArray) = t) :
    Calls Tryz.prog 43 #[v] w fun e w' => e = .returned (.tuple #[.string t, .int .i64 0]) ∧ Below w.heap.size w w' := by
  have hnil := write_nonil hT
  have hok : (okRun 0 l []).isSome = true := by rw [← write_isSome hnil (by omega), hT]; rfl
  have va := Va.of hok hnil
  have hpos : 0 < l.length := List.length_pos_iff.2 hnil
  have hM : Hid ((Sp.write l).isSome = true) := by show _ = _; rw [hT]; rfl
  have HE := Lib.hid h
  obtain ⟨a1, c1, rfl, -⟩ := h
  have HL : Hid (l.length ≤ 140737488351232) := by show _ ≤ _; omega
  have HW := Lib.hid hw
  have HWR := Lib.hid (fun w3 (hE : ElsR w3 (.slice a1 l.length c1) l) => rwrite_calls l va (by omega) hw hc l.length 0 (by omega) hpos w3 _ hE)
  have HT : Hid (∀ s, RW l none 0 s → (⟨s.toArray⟩ : ByteArray) = t) := fun s hs => by
    have := rw_write hnil (by omega) (by rw [hT]; rfl) hs
    rw [hT] at this
    injection this with this
    rw [← this]
    exact ht
  clear hnil hok va hpos hw hl hc hT ht
  go_enter Tryz.func43, Tryz.ntmps43
  go_wp2_with (first
    | (go_at_call 44; go_must (refine (rmay_calls _ _ l (HE.out.below (Below.refl _ _)) HL.out HW.out).mono ?_); rw [hM.out]; rintro e w4 ⟨rfl, hb4⟩; have HB4 := Lib.hid hb4; clear hb4)
    | (go_at_call 80; go_must (refine (HWR.out _ (HE.out.below HB4.out)).mono ?_); rintro e w5 ⟨v5, s5, rfl, ho5, hrw5, hb5⟩; have hcv := OwnG.conv ho5; rw [HT.out s5 hrw5] at hcv; have HB5 := Lib.hid (below_then HB4.out hb5); clear ho5 hrw5 hb5))
  go_ret2
  exact ⟨rfl, HB5.out⟩
set_option maxHeartbeats 8000000 in
set_option maxRecDepth 100000 in
theorem refWrite_none (w : World) (v : Value) (l : List Sp.EE) (h : ElsR w v l) (hl : l.length ≤ 151) (hw : ∀ x ∈ l, wtEE x ≤ 100000) (hT : Sp.write l = none) :
    Calls Tryz.prog 43 #[v] w fun e w' => e = .returned (.tuple #[.string ⟨#[]⟩, .int .i64 2]) ∧ Below w.heap.size w w' := by
  have hM : Hid ((Sp.write l).isSome = false) := by show _ = _; rw [hT]; rfl
  have HE := Lib.hid h
  obtain ⟨a1, c1, rfl, -⟩ := h
  have HL : Hid (l.length ≤ 140737488351232) := by show _ ≤ _; omega
  have HW := Lib.hid hw
  clear hw hl hT
  go_enter Tryz.func43, Tryz.ntmps43
  go_wp2_with (go_at_call 44; go_must (refine (rmay_calls _ _ l (HE.out.below (Below.refl _ _)) HL.out HW.out).mono ?_); rw [hM.out]; rintro e w4 ⟨rfl, hb4⟩; have HB4 := Lib.hid hb4; clear hb4)
  go_ret2
  exact ⟨rfl, HB4.out⟩

set_option maxHeartbeats 8000000 in
set_option maxRecDepth 100000 in
theorem writes_calls (w : World) (v : Value) (l : List Sp.EE) (hG : Gl w) (h : ElsR w v l) (hl : l.length ≤ 140737488351232) (hb : ∀ x ∈ l, BigBd x) :
    Calls Tryz.prog 10 #[v] w fun e w' => e = .returned (.bool true) ∧ Below w.heap.size w w' := by
  have HG := Lib.hid hG
  have HE := Lib.hid h
  obtain ⟨a1, c1, rfl, -⟩ := h
  have HBD := Lib.hid hb
  have HL := Lib.hid hl
  clear hG hb hl
  go_enter Tryz.func10, Tryz.ntmps10
  go_wp2_with fail
  refine (tawake_calls _ HG.out).mono ?_
  rintro e w1 ⟨rfl, hb1⟩
  have HB1 := Lib.hid hb1
  clear hb1
  go_wp2_with fail
  refine (few_calls _ _ l (HE.out.below HB1.out) HL.out HBD.out).mono ?_
  rintro e w2 ⟨b, rfl, hb2, hfw⟩
  have HB2 := Lib.hid (below_then HB1.out hb2)
  clear hb2
  cases b with
  | false =>
    clear hfw
    go_wp2_with fail
    refine (tawake_calls _ (HG.out.below HB2.out)).mono ?_
    rintro e w3 ⟨rfl, hb3⟩
    have HB3 := Lib.hid (below_then HB2.out hb3)
    clear hb3
    go_wp2_with fail
    go_ret
    exact ⟨rfl, HB3.out⟩
  | true =>
    obtain ⟨hn, hsum⟩ := hfw rfl
    have HW : Hid (∀ x ∈ l, wtEE x ≤ 100000) := by
      intro x hx
      have := sum_mem wtEE l x hx
      omega
    have hcost : costTo l l.length ≤ 1000000 := by
      unfold costTo
      rw [List.take_length, sum_cost]
      omega
    have HN1 := Lib.hid hn
    have HC := Lib.hid hcost
    cases hR : Sp.write l with
    | none =>
      have HR := Lib.hid hR
      clear hfw hn hsum hR hcost
      go_wp2_with fail
      refine (writeR_is l _ _ (HE.out.below HB2.out) HW.out (by have := HN1.out; omega) none HR.out).mono ?_
      rintro e w3 ⟨rfl, hb3⟩
      have HB3 := Lib.hid (below_then HB2.out hb3)
      clear hb3
      go_wp2_with fail
      refine (refWrite_none _ _ l (HE.out.below HB3.out) HN1.out HW.out HR.out).mono ?_
      rintro e w4 ⟨rfl, hb4⟩
      have HB4 := Lib.hid (below_then HB3.out hb4)
      clear hb4
      go_wp2_with fail
      go_ret
      exact ⟨rfl, HB4.out⟩
    | some T =>
      obtain ⟨t, ht⟩ : ∃ t : ByteArray, (⟨T.toArray⟩ : ByteArray) = t := ⟨_, rfl⟩
      have HR := Lib.hid hR
      have HT := Lib.hid ht
      clear hfw hn hsum hR hcost ht
      go_wp2_with fail
      refine (write_ok l _ _ (HE.out.below HB2.out) HW.out (by have := HN1.out; omega) T HR.out).mono ?_
      rw [HT.out]
      rintro e w3 ⟨rfl, hb3⟩
      have HB3 := Lib.hid (below_then HB2.out hb3)
      clear hb3
      go_wp2_with fail
      refine (refWrite_some _ _ l (HE.out.below HB3.out) HN1.out HW.out HC.out T HR.out t HT.out).mono ?_
      rintro e w4 ⟨rfl, hb4⟩
      have HB4 := Lib.hid (below_then HB3.out hb4)
      clear hb4
      go_wp2_with fail
      go_ret
      exact ⟨rfl, HB4.out⟩
end Go.Proofs.YtokdclmikllepaaGreatDoor
