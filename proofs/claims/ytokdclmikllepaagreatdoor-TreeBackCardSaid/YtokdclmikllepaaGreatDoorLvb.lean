import Derived.Test.YtokdclmikllepaaGreatDoorKt42
import Derived.Test.YtokdclmikllepaaGreatDoorLw
import Derived.Deep.Slices
import Derived.Deep.Fields
import Derived.ChangeSame
import Derived.WideKeyArgs
import Derived.SizedLaws
import Derived.Test.YtokdclmikllepaaGreatDoorLva
import Derived.Test.YtokdclmikllepaaGreatDoorLo
import Derived.Test.YtokdclmikllepaaGreatDoorLq
/-
  Plain: how long what tree.Write writes is, for elements that hold little.
-/
namespace Go.Proofs.YtokdclmikllepaaGreatDoor
set_option linter.unusedVariables false
set_option linter.unusedSimpArgs false

def costE (x : Sp.EE) : Nat := 6 * wtEE x + 20
def costTo (l : List Sp.EE) (i : Nat) : Nat := ((l.take i).map costE).sum
theorem costTo_next {l : List Sp.EE} {i : Nat} {x : Sp.EE} (h : l[i]? = some x) : costTo l (i + 1) = costTo l i + costE x := by
  unfold costTo
  rw [List.take_add_one, h, List.map_append, List.sum_append]
  simp
theorem swps_six9 (q : Bool) (l : List UInt8) : (l.flatMap (swp q)).length ≤ l.length * 6 := by
  have h := rep_bound (if q then quoPs else escPs) 6 (by cases q <;> decide) (by decide) l
  have e : Sp.rep (if q then quoPs else escPs) l = l.flatMap (swp q) := rfl
  rw [e] at h
  exact h
theorem quote_six (l : List UInt8) : (Sp.quote l).length ≤ 6 * l.length + 2 := by
  have h := swps_six9 true l
  have e : Sp.quote l = 34 :: l.flatMap (swp true) ++ [34] := rfl
  rw [e]
  simp only [List.length_append, List.length_cons, List.length_nil]
  omega
theorem escape_six (l : List UInt8) : (Sp.escape l).length ≤ 6 * l.length := by
  have h := swps_six9 false l
  have e : Sp.escape l = l.flatMap (swp false) := rfl
  rw [e]
  omega
theorem tags_six : ∀ l : List Sp.EA, (l.flatMap Sp.tagA).length ≤ 6 * (l.map wtEA).sum
  | [] => by simp
  | a :: l => by
    rw [List.flatMap_cons, List.length_append, List.map_cons, List.sum_cons]
    have h1 := tags_six l
    have h2 := quote_six a.value
    have h3 : (Sp.tagA a).length = a.name.length + (Sp.quote a.value).length + 2 := by
      simp [Sp.tagA]; omega
    have h4 : wtEA a = a.name.length + a.value.length + 1 := rfl
    omega
/-- An element's beginning, its text and two ends of it. -/
theorem elem_six (l : List Sp.EE) (i : Nat) (x : Sp.EE) : (Sp.tag x).length + (Sp.body l i x).length + (Sp.closeT x.name).length ≤ costE x := by
  have h1 := tags_six x.attrs
  have h2 := escape_six x.text
  have h3 : wtEE x = x.name.length + x.text.length + (x.attrs.map wtEA).sum := rfl
  have h4 : (Sp.closeT x.name).length = x.name.length + 3 := by simp [Sp.closeT]
  unfold costE Sp.tag Sp.body
  split
  · simp only [List.length_cons, List.length_append]; omega
  · split
    · simp only [List.length_cons, List.length_append, List.length_nil]; omega
    · simp only [List.length_cons, List.length_append, List.length_nil]; omega
theorem closes_app (l : List Sp.EE) (a b : List Nat) : (Sp.closes l (a ++ b)).length = (Sp.closes l a).length + (Sp.closes l b).length := by
  unfold Sp.closes
  rw [List.reverse_append, List.flatMap_append, List.length_append]
  omega
theorem closes_td (l : List Sp.EE) (b : List Nat) (t : Nat) : (Sp.closes l b).length = (Sp.closes l (b.take t)).length + (Sp.closes l (b.drop t)).length := by
  rw [← closes_app, List.take_append_drop]
def nm0 (l : List Sp.EE) (i : Nat) : Nat := if i = 0 then 0 else (Sp.closeT (Sp.nameAt l (i - 1))).length
theorem openAt_len {l : List Sp.EE} {i : Nat} (hi : i ≠ 0) (x : Sp.EE) (op : List Nat) : (Sp.closes l (Sp.openAt i x op)).length ≤ (Sp.closes l op).length + nm0 l i := by
  unfold Sp.openAt nm0
  rw [if_neg hi]
  split
  · rw [closes_app]
    have : Sp.closes l [i - 1] = Sp.closeT (Sp.nameAt l (i - 1)) := by simp [Sp.closes]
    rw [this]
    exact Nat.le_refl _
  · omega
theorem step_six {l : List Sp.EE} {i : Nat} {x : Sp.EE} {s s' : Sp.Wr} (hx : l[i]? = some x) (h : Sp.stepW l i x s = some s') (hp : s.1.length + (Sp.closes l s.2).length + nm0 l i ≤ costTo l i) :
    s'.1.length + (Sp.closes l s'.2).length + nm0 l (i + 1) ≤ costTo l (i + 1) := by
  rw [costTo_next hx]
  have he := elem_six l i x
  have hn : nm0 l (i + 1) = (Sp.closeT x.name).length := by
    unfold nm0
    rw [if_neg (by omega), Nat.add_sub_cancel, nameAt_of hx]
  rw [hn]
  unfold Sp.stepW at h
  split at h
  · cases h
  · split at h
    · rename_i h0
      split at h
      · injection h with h; subst h
        subst h0
        simp only [List.length_append]
        unfold nm0 at hp
        rw [if_pos rfl] at hp
        omega
      · cases h
    · rename_i h0
      split at h
      · cases h
      · injection h with h; subst h
        have h1 := openAt_len (l := l) h0 x s.2
        rw [closes_td l (Sp.openAt i x s.2) (Sp.toIx x.up (Sp.openAt i x s.2) (Sp.openAt i x s.2).length)] at h1
        simp only [List.length_append]
        omega
theorem runW_six {l : List Sp.EE} : ∀ (t : List Sp.EE) (i : Nat) (s s' : Sp.Wr), l.drop i = t → s.1.length + (Sp.closes l s.2).length + nm0 l i ≤ costTo l i → Sp.runW l i t s = some s' → s'.1.length + (Sp.closes l s'.2).length ≤ costTo l l.length
  | [], i, s, s', hd, hp, h => by
    injection h with h; subst h
    have hi : l.length ≤ i := List.drop_eq_nil_iff.1 hd
    have e : costTo l i = costTo l l.length := by
      unfold costTo
      rw [List.take_of_length_le hi, List.take_length]
    omega
  | x :: t, i, s, s', hd, hp, h => by
    have hx : l[i]? = some x := by
      have := congrArg List.head? hd
      rwa [List.head?_drop] at this
    have hd' : l.drop (i + 1) = t := by
      have := congrArg List.tail hd
      rwa [List.tail_drop] at this
    rw [Sp.runW] at h
    cases h1 : Sp.stepW l i x s with
    | none => rw [h1] at h; cases h
    | some s1 =>
      rw [h1] at h
      exact runW_six t (i + 1) s1 s' hd' (step_six hx h1 hp) h
theorem sum_cost : ∀ l : List Sp.EE, (l.map costE).sum = 6 * (l.map wtEE).sum + 20 * l.length
  | [] => by simp
  | a :: l => by
    rw [List.map_cons, List.sum_cons, List.map_cons, List.sum_cons, sum_cost l, List.length_cons]
    unfold costE
    omega
theorem write_six {l : List Sp.EE} {T : List UInt8} (h : Sp.write l = some T) : T.length ≤ 6 * (l.map wtEE).sum + 20 * l.length := by
  unfold Sp.write at h
  split at h
  · cases h
  · split at h
    · cases h
    · rename_i s hs
      injection h with h; subst h
      have h1 := runW_six l 0 ([], []) s (by rw [List.drop_zero]) (by unfold nm0 costTo; simp [Sp.closes]) hs
      unfold costTo at h1
      rw [List.take_length, sum_cost] at h1
      rw [List.length_append]
      omega
end Go.Proofs.YtokdclmikllepaaGreatDoor
namespace Go.Proofs.YtokdclmikllepaaGreatDoor
open Go.RowKit Go.ChangeShapes Go.WideShapes Go.Deep
set_option linter.unusedVariables false
set_option linter.unusedSimpArgs false

/-! ### elements that are handed in -/
section
variable {H : Type} {enc : TypeId × Value → H} {P : Program} {w : World} {base : Nat} {spare : Nat → Bool} {held : Bool}
theorem open_slice_fields {t e : TypeId} {fs : Array Field} {fuel : Nat} {cs : List Value} {x : DataW H × List MemPlace} (ht : P.underlying t = some (.slice e)) (he : P.underlying e = some (.struct fs))
    (hone : oneCellFields P fs = true) (hC : P.cellsOf e = fs.size) (h : DataW.trod enc P w base spare held fuel t cs = some x) :
    (cs = [.slice none 0 0] ∧ x = (.nil, [])) ∨
    ∃ (a : Addr) (len cap m : Nat) (D : Nat → DataW H) (Pl : Nat → List MemPlace), cs = [.slice (some a) len cap] ∧ base ≤ a.block ∧ len ≤ cap ∧ cap ≤ maxLen ∧ m = (if spare a.block then cap else len) ∧
      x = (.slice ((List.range len).map D) ((List.range (m - len)).map fun j => D (len + j)), MemPlace.row a (m * fs.size) ++ (List.range m).flatMap Pl) ∧
      ∀ i, i < m → ∃ (ys : List (DataW H × List MemPlace)) (n : Nat), D i = .agg (ys.map (·.1)) ∧ Pl i = ys.flatMap (·.2) ∧ ys.length = fs.size ∧
        ∀ (j : Nat) (f : Field), fs[j]? = some f → ∃ (v : Value) (y : DataW H × List MemPlace), w.cell? (a.add (i * fs.size + j)) = some v ∧ ys[j]? = some y ∧ DataW.trod enc P w base spare held n f.type [v] = some y := by
  rcases open_slice ht h with h0 | ⟨a, len, cap, m, n, D, Pl, hcs, hb, hl, hm, hmm, hx, hi⟩
  · exact .inl h0
  · refine .inr ⟨a, len, cap, m, D, Pl, hcs, hb, hl, hm, hmm, by rw [hC] at hx; exact hx, fun i him => ?_⟩
    obtain ⟨cs', hc, ht'⟩ := hi i him
    rw [hC] at hc
    obtain ⟨ys, n', hn', hy, hlen, hyl, hf⟩ := DataW.trod_struct he ht'
    obtain ⟨_, hcl, hat⟩ := World.cells?_some hc
    simp only [Prod.mk.injEq] at hy
    refine ⟨ys, n', hy.1, hy.2, hyl, fun j f hj => ?_⟩
    obtain ⟨ho, hk⟩ := hone_of hone j f hj
    have hjl : j < fs.size := (Array.getElem?_eq_some_iff.1 hj).1
    have hcell := hat j hjl
    have hv : cs'[j]? = some (cs'[j]'(by omega)) := List.getElem?_eq_getElem (by omega)
    have h1 := hf j f hj
    rw [ho, hk] at h1
    have hone' : (cs'.drop j).take 1 = [cs'[j]'(by omega)] := by
      rw [List.drop_eq_getElem_cons (by omega)]
      rfl
    rw [hone'] at h1
    have hys : ys[j]? = some (ys[j]'(by omega)) := List.getElem?_eq_getElem (by omega)
    refine ⟨_, _, ?_, hys, h1.trans hys⟩
    rw [← Go.Deep.add_add, hcell, hv]
end
theorem addr_plain {w : World} {a : Addr} {u : Value} (h : w.cell? a = some u) : a.spot = none ∧ a.block < w.heap.size := by
  unfold World.cell? at h
  split at h
  · rename_i c t z hb
    split at h
    · cases h
    · rename_i hs
      exact ⟨by simpa using hs, (Array.getElem?_eq_some_iff.1 hb).1⟩
  · cases h
theorem addr_add {g o k : Nat} : (⟨g, o, none⟩ : Addr).add k = ⟨g, o + k, none⟩ := by
  unfold Addr.add
  split
  · rename_i h; subst h; rfl
  · rfl
theorem weightsAll_mem {H : Type} {P : Program} {e : TypeId} : ∀ {ds : List (DataW H)} {d : DataW H}, d ∈ ds → ∀ n ∈ d.weights P e, n ∈ DataW.weightsAll P e ds
  | d0 :: ds, d, hd, n, hn => by
    rw [DataW.weightsAll, List.mem_append]
    rcases List.mem_cons.1 hd with rfl | hd
    · exact .inl hn
    · exact .inr (weightsAll_mem hd n hn)
theorem weights_elem {H : Type} {P : Program} {t e : TypeId} (hu : P.underlying t = some (.slice e)) {es sp : List (DataW H)} (hz : ∀ n ∈ (DataW.slice es sp).weights P t, n ≤ 140737488351232) {d : DataW H} (hd : d ∈ es) : ∀ n ∈ d.weights P e, n ≤ 140737488351232 := fun n hn =>
  hz n (by rw [DataW.weights, hu]; simp only [List.mem_cons, List.mem_append]; exact .inr (.inl (weightsAll_mem hd n hn)))
theorem weights_len {H : Type} {P : Program} {t e : TypeId} (hu : P.underlying t = some (.slice e)) {es sp : List (DataW H)} (hz : ∀ n ∈ (DataW.slice es sp).weights P t, n ≤ 140737488351232) (hb : 1 ≤ P.bytesOf e) : es.length ≤ 140737488351232 := by
  have h := hz ((es.length + sp.length) * P.bytesOf e) (by rw [DataW.weights, hu]; simp only [List.mem_cons, true_or])
  have h2 := Nat.le_mul_of_pos_right (es.length + sp.length) (show 0 < P.bytesOf e by omega)
  omega
theorem weights_field {H : Type} {P : Program} {e : TypeId} {fs : Array Field} (hu : P.underlying e = some (.struct fs)) {ds : List (DataW H)} (hz : ∀ n ∈ (DataW.agg ds).weights P e, n ≤ 140737488351232) {j : Nat} {f : Field} {d : DataW H} (hf : fs[j]? = some f) (hd : ds[j]? = some d) : ∀ n ∈ d.weights P f.type, n ≤ 140737488351232 := fun n hn =>
  hz n (by
    rw [DataW.weights, hu]
    exact DataW.weights_mem_each (by rw [List.getElem?_map, Array.getElem?_toList, hf]; rfl) hd n hn)
section
variable {H : Type} {enc : TypeId × Value → H} {w : World} {base : Nat} {spare : Nat → Bool} {held : Bool}
theorem ats_of_trod {fuel : Nat} {v : Value} {x : DataW H × List MemPlace} (h : DataW.trod enc Tryz.prog w base spare held fuel 38 [v] = some x) (hz : ∀ n ∈ x.1.weights Tryz.prog 38, n ≤ 140737488351232) :
    ∃ l : List Sp.EA, AtsR w v l ∧ l.length ≤ 140737488351232 ∧ ∀ a ∈ l, a.name.length ≤ 140737488351232 ∧ a.value.length ≤ 140737488351232 := by
  rcases open_slice_fields Tryz.underlying38 Tryz.underlying42 (by kernel_rfl) (by kernel_rfl) h with ⟨hv, _⟩ | ⟨a, len, cap, m, D, Pl, hv, hb, hl, hm, hmm, hx, hi⟩
  · injection hv with hv
    subst hv
    exact ⟨[], ⟨none, 0, rfl, fun h => absurd h (Nat.lt_irrefl _)⟩, by simp, fun a ha => nomatch ha⟩
  · injection hv with hv
    subst hv
    have hlm : len ≤ m := by rw [hmm]; split <;> omega
    rw [hx] at hz
    have hm47 : len ≤ 140737488351232 := by
      have := weights_len Tryz.underlying38 hz (of_decide_eq_true (by kernel_rfl))
      simpa using this
    have key : ∀ i : Nat, ∃ e : Sp.EA, i < len → (w.cell? (a.add (i * 3)) = some (.string ⟨e.name.toArray⟩) ∧ w.cell? (a.add (i * 3 + 1)) = some (.string ⟨e.value.toArray⟩) ∧ w.cell? (a.add (i * 3 + 2)) = some (.int .i64 e.at_)) ∧ e.name.length ≤ 140737488351232 ∧ e.value.length ≤ 140737488351232 := by
      intro i
      by_cases hil : i < len
      · obtain ⟨ys, n, hD, hP, hyl, hf⟩ := hi i (by omega)
        have hzi := weights_elem Tryz.underlying38 hz (List.mem_map.2 ⟨i, List.mem_range.2 hil, rfl⟩)
        rw [hD] at hzi
        obtain ⟨v0, y0, c0, g0, t0⟩ := hf 0 _ rfl
        obtain ⟨v1, y1, c1, g1, t1⟩ := hf 1 _ rfl
        obtain ⟨v2, y2, c2, _, t2⟩ := hf 2 _ rfl
        have w0 := weights_field (j := 0) Tryz.underlying42 hzi rfl (by rw [List.getElem?_map, g0]; rfl)
        have w1 := weights_field (j := 1) Tryz.underlying42 hzi rfl (by rw [List.getElem?_map, g1]; rfl)
        obtain ⟨s0, e0, q0, z0⟩ := DataW.trod_string Tryz.underlying9 t0
        obtain ⟨s1, e1, q1, z1⟩ := DataW.trod_string Tryz.underlying9 t1
        obtain ⟨n2, e2, _, _⟩ := DataW.trod_int Tryz.underlying3 t2
        injection e0 with e0
        injection e1 with e1
        injection e2 with e2
        subst e0 e1 e2
        refine ⟨⟨L s0, L s1, n2⟩, fun _ => ⟨⟨?_, ?_, ?_⟩, ?_, ?_⟩⟩
        · rw [bs_L]; exact c0
        · rw [bs_L]; exact c1
        · exact c2
        · rw [q0] at w0; exact w0 _ (by rw [DataW.weights]; exact List.mem_singleton.2 rfl)
        · rw [q1] at w1; exact w1 _ (by rw [DataW.weights]; exact List.mem_singleton.2 rfl)
      · exact ⟨⟨[], [], 0⟩, fun h => absurd h hil⟩
    obtain ⟨f, hf⟩ := Classical.axiomOfChoice key
    have hget : ∀ i x, ((List.range len).map f)[i]? = some x → i < len ∧ x = f i := by
      intro i x hx
      rw [List.getElem?_map] at hx
      obtain ⟨k, hk, rfl⟩ := Option.map_eq_some_iff.1 hx
      have hkl := (List.getElem?_eq_some_iff.1 hk)
      obtain ⟨h1, h2⟩ := hkl
      rw [List.length_range] at h1
      rw [List.getElem_range] at h2
      subst h2
      exact ⟨h1, rfl⟩
    refine ⟨(List.range len).map f, ⟨some a, cap, by simp, fun h0 => ?_⟩, by simp; omega, fun e he => ?_⟩
    · simp at h0
      obtain ⟨⟨c0, _, _⟩, _⟩ := hf 0 h0
      rw [Nat.zero_mul] at c0
      have hz : a.add 0 = a := by unfold Addr.add; rw [if_pos rfl]
      rw [hz] at c0
      obtain ⟨hsp, hlt⟩ := addr_plain c0
      obtain ⟨g, o, sp⟩ := a
      simp only at hsp hlt
      subst hsp
      refine ⟨g, o, rfl, hlt, fun i x hx => ?_⟩
      obtain ⟨hil, rfl⟩ := hget i x hx
      obtain ⟨⟨d0, d1, d2⟩, _⟩ := hf i hil
      rw [addr_add] at d0 d1 d2
      exact ⟨d0, d1, d2⟩
    · obtain ⟨i, hi⟩ := List.getElem?_of_mem he
      obtain ⟨hil, rfl⟩ := hget i e hi
      exact (hf i hil).2
theorem els_of_trod {fuel : Nat} {v : Value} {x : DataW H × List MemPlace} (h : DataW.trod enc Tryz.prog w base spare held fuel 45 [v] = some x) (hz : ∀ n ∈ x.1.weights Tryz.prog 45, n ≤ 140737488351232) :
    ∃ l : List Sp.EE, ElsR w v l ∧ l.length ≤ 140737488351232 ∧ ∀ x ∈ l, BigBd x := by
  rcases open_slice_fields Tryz.underlying45 Tryz.underlying53 (by kernel_rfl) (by kernel_rfl) h with ⟨hv, _⟩ | ⟨a, len, cap, m, D, Pl, hv, hb, hl, hm, hmm, hx, hi⟩
  · injection hv with hv
    subst hv
    exact ⟨[], ⟨none, 0, rfl, fun h => absurd h (Nat.lt_irrefl _)⟩, by simp, fun a ha => nomatch ha⟩
  · injection hv with hv
    subst hv
    have hlm : len ≤ m := by rw [hmm]; split <;> omega
    rw [hx] at hz
    have hm47 : len ≤ 140737488351232 := by
      have := weights_len Tryz.underlying45 hz (of_decide_eq_true (by kernel_rfl))
      simpa using this
    have key : ∀ i : Nat, ∃ e : Sp.EE, i < len → (∃ av, AtsR w av e.attrs ∧ w.cell? (a.add (i * 5)) = some (.string ⟨e.name.toArray⟩) ∧ w.cell? (a.add (i * 5 + 1)) = some av ∧ w.cell? (a.add (i * 5 + 2)) = some (.string ⟨e.text.toArray⟩) ∧ w.cell? (a.add (i * 5 + 3)) = some (.int .i64 e.up) ∧ w.cell? (a.add (i * 5 + 4)) = some (.int .i64 e.at_)) ∧ BigBd e := by
      intro i
      by_cases hil : i < len
      · obtain ⟨ys, n, hD, hP, hyl, hf⟩ := hi i (by omega)
        have hzi := weights_elem Tryz.underlying45 hz (List.mem_map.2 ⟨i, List.mem_range.2 hil, rfl⟩)
        rw [hD] at hzi
        obtain ⟨v0, y0, c0, g0, t0⟩ := hf 0 _ rfl
        obtain ⟨v1, y1, c1, g1, t1⟩ := hf 1 _ rfl
        obtain ⟨v2, y2, c2, g2, t2⟩ := hf 2 _ rfl
        have w0 := weights_field (j := 0) Tryz.underlying53 hzi rfl (by rw [List.getElem?_map, g0]; rfl)
        have w1 := weights_field (j := 1) Tryz.underlying53 hzi rfl (by rw [List.getElem?_map, g1]; rfl)
        have w2 := weights_field (j := 2) Tryz.underlying53 hzi rfl (by rw [List.getElem?_map, g2]; rfl)
        obtain ⟨v3, y3, c3, _, t3⟩ := hf 3 _ rfl
        obtain ⟨v4, y4, c4, _, t4⟩ := hf 4 _ rfl
        obtain ⟨s0, e0, q0, z0⟩ := DataW.trod_string Tryz.underlying9 t0
        obtain ⟨la, ha, hal, haz⟩ := ats_of_trod t1 w1
        obtain ⟨s2, e2, q2, z2⟩ := DataW.trod_string Tryz.underlying9 t2
        obtain ⟨n3, e3, _, _⟩ := DataW.trod_int Tryz.underlying3 t3
        obtain ⟨n4, e4, _, _⟩ := DataW.trod_int Tryz.underlying3 t4
        injection e0 with e0
        injection e2 with e2
        injection e3 with e3
        injection e4 with e4
        subst e0 e2 e3 e4
        refine ⟨⟨L s0, la, L s2, n3, n4⟩, fun _ => ⟨⟨v1, ha, ?_, c1, ?_, c3, c4⟩, ?_, ?_, hal, haz⟩⟩
        · rw [bs_L]; exact c0
        · rw [bs_L]; exact c2
        · rw [q0] at w0; exact w0 _ (by rw [DataW.weights]; exact List.mem_singleton.2 rfl)
        · rw [q2] at w2; exact w2 _ (by rw [DataW.weights]; exact List.mem_singleton.2 rfl)
      · exact ⟨⟨[], [], [], 0, 0⟩, fun h => absurd h hil⟩
    obtain ⟨f, hf⟩ := Classical.axiomOfChoice key
    have hget : ∀ i x, ((List.range len).map f)[i]? = some x → i < len ∧ x = f i := by
      intro i x hx
      rw [List.getElem?_map] at hx
      obtain ⟨k, hk, rfl⟩ := Option.map_eq_some_iff.1 hx
      have hkl := (List.getElem?_eq_some_iff.1 hk)
      obtain ⟨h1, h2⟩ := hkl
      rw [List.length_range] at h1
      rw [List.getElem_range] at h2
      subst h2
      exact ⟨h1, rfl⟩
    refine ⟨(List.range len).map f, ⟨some a, cap, by simp, fun h0 => ?_⟩, by simp; omega, fun e he => ?_⟩
    · simp at h0
      obtain ⟨⟨_, _, c0, _⟩, _⟩ := hf 0 h0
      rw [Nat.zero_mul] at c0
      have hz : a.add 0 = a := by unfold Addr.add; rw [if_pos rfl]
      rw [hz] at c0
      obtain ⟨hsp, hlt⟩ := addr_plain c0
      obtain ⟨g, o, sp⟩ := a
      simp only at hsp hlt
      subst hsp
      refine ⟨g, o, rfl, hlt, fun i x hx => ?_⟩
      obtain ⟨hil, rfl⟩ := hget i x hx
      obtain ⟨⟨av, d, d0, d1, d2, d3, d4⟩, _⟩ := hf i hil
      rw [addr_add] at d0 d1 d2 d3 d4
      exact ⟨av, d, d0, d1, d2, d3, d4⟩
    · obtain ⟨i, hi⟩ := List.getElem?_of_mem he
      obtain ⟨hil, rfl⟩ := hget i e hi
      exact (hf i hil).2
end
end Go.Proofs.YtokdclmikllepaaGreatDoor
namespace Go.Proofs.YtokdclmikllepaaGreatDoor
open Go.RowKit
set_option linter.unusedVariables false
set_option linter.unusedSimpArgs false

set_option maxHeartbeats 8000000 in
set_option maxRecDepth 100000 in
theorem back_calls (w : World) (v : Value) (l : List Sp.EE) (hG : Gl w) (h : ElsR w v l) (hl : l.length ≤ 140737488351232) (hb : ∀ x ∈ l, BigBd x) :
    Calls Tryz.prog 11 #[v] w fun e w' => e = .returned (.bool true) ∧ Below w.heap.size w w' := by
  have HG := Lib.hid hG
  have HE := Lib.hid h
  obtain ⟨a1, c1, rfl, -⟩ := h
  have HBD := Lib.hid hb
  have HL := Lib.hid hl
  clear hG hb hl
  go_enter Tryz.func11, Tryz.ntmps11
  go_wp2_with fail
  refine (tawake_calls _ HG.out).mono ?_
  rintro e w1 ⟨rfl, hb1⟩
  have HB1 := Lib.hid hb1
  clear hb1
  go_wp2_with fail
  refine (few_calls _ _ l (HE.out.below HB1.out) HL.out HBD.out).mono ?_
  rintro e w2 ⟨b, rfl, hb2, hfw⟩
  have HB2 := Lib.hid (below_then HB1.out hb2)
  clear hb2
  cases b with
  | false =>
    clear hfw
    go_wp2_with fail
    refine (tawake_calls _ (HG.out.below HB2.out)).mono ?_
    rintro e w3 ⟨rfl, hb3⟩
    have HB3 := Lib.hid (below_then HB2.out hb3)
    clear hb3
    go_wp2_with fail
    go_ret
    exact ⟨rfl, HB3.out⟩
  | true =>
    obtain ⟨hn, hsum⟩ := hfw rfl
    have HW : Hid (∀ x ∈ l, wtEE x ≤ 100000) := by
      intro x hx
      have := sum_mem wtEE l x hx
      omega
    have HN1 : Hid (l.length ≤ 4096) := by show _ ≤ _; omega
    cases hR : Sp.write l with
    | none =>
      have HR := Lib.hid hR
      have HM : Hid ((Sp.write l).isSome = false) := by show _ = _; rw [hR]; rfl
      clear hfw hn hsum hR
      go_wp2_with fail
      refine (writeR_is l _ _ (HE.out.below HB2.out) HW.out (by have := HN1.out; omega) none HR.out).mono ?_
      rintro e w3 ⟨rfl, hb3⟩
      have HB3 := Lib.hid (below_then HB2.out hb3)
      clear hb3
      go_wp2_with (go_at_call 44; go_must (refine (rmay_calls _ _ l (HE.out.below HB3.out) (by have := HN1.out; omega) HW.out).mono ?_); rw [HM.out]; rintro e w4 ⟨rfl, hb4⟩; have HB4 := Lib.hid (below_then HB3.out hb4); clear hb4)
      go_ret
      exact ⟨rfl, HB4.out⟩
    | some T =>
      have hTl := write_six hR
      have hT6 : T.length ≤ 65536 := by omega
      obtain ⟨m, hm1, hm2⟩ := write_parse l T hR hT6
      obtain ⟨t, ht⟩ : ∃ t : ByteArray, (⟨T.toArray⟩ : ByteArray) = t := ⟨_, rfl⟩
      obtain ⟨hts, htL⟩ := sz_of ht
      rw [← htL] at hm1
      have hts6 : t.size ≤ 65536 := by omega
      obtain ⟨hml, hmi⟩ := (show SamL l m from hm2.symm).sm
      have HR := Lib.hid hR
      have HT := Lib.hid ht
      have HP := Lib.hid hm1
      have HML := Lib.hid hml
      have HMI := Lib.hid hmi
      clear hfw hn hsum hR hTl hT6 hm1 hm2 hts htL hml hmi ht
      go_wp2_with fail
      refine (write_ok l _ _ (HE.out.below HB2.out) HW.out (by have := HN1.out; omega) T HR.out).mono ?_
      rw [HT.out]
      rintro e w3 ⟨rfl, hb3⟩
      have HB3 := Lib.hid (below_then HB2.out hb3)
      clear hb3
      go_wp2_with fail
      refine (parse_is t _ (HG.out.below HB3.out) (by omega) _ HP.out).mono ?_
      rintro e w4 ⟨hb4, v4, rfl, hn4⟩
      have HN4 := Lib.hid hn4.toR
      obtain ⟨a4, c4, rfl, -⟩ := hn4.toR
      have HB4 := Lib.hid (below_then HB3.out hb4)
      clear hb4 hn4
      go_wp2_with fail
      refine (same9_calls _ _ _ l m false (HE.out.below HB4.out) HN4.out HN1.out HML.out HMI.out HW.out).mono ?_
      rintro e w5 ⟨rfl, hb5⟩
      have HB5 := Lib.hid (below_then HB4.out hb5)
      clear hb5
      go_wp2_with fail
      go_ret
      exact ⟨rfl, HB5.out⟩
end Go.Proofs.YtokdclmikllepaaGreatDoor
