import Derived.Test.YtokdclmikllepaaGreatDoorKt24
import Derived.Test.YtokdclmikllepaaGreatDoorLya
import Derived.Laws.IdiomMaps
import Derived.DeepKeys4
import Derived.Shelf.Strings.Cut
import Derived.Shelf.Strings.Search3
import Derived.Shelf.Small.Wraps
import Derived.Lib.IndexBytes
import Derived.Test.YtokdclmikllepaaGreatDoorKt4
import Derived.Test.YtokdclmikllepaaGreatDoorKt25
import Derived.Shelf.SlMaps.Clone
import Derived.Test.YtokdclmikllepaaGreatDoorMa
import Derived.BigQuiet
import Derived.Test.YtokdclmikllepaaGreatDoorSv
namespace Go.Proofs.YtokdclmikllepaaGreatDoor
open Go.RowKit Go.Maps
set_option linter.unusedVariables false
set_option linter.unusedSimpArgs false

/-! ### elements with their name spaces in memory -/
def saCells (a : Sp.SA) : List Value := [.string ⟨a.space.toArray⟩, .string ⟨a.name.toArray⟩, .string ⟨a.value.toArray⟩, .int .i64 a.at_]
def seCells (x : Sp.SE) (av : Value) : List Value := [.string ⟨x.space.toArray⟩, .string ⟨x.name.toArray⟩, av, .string ⟨x.text.toArray⟩, .int .i64 x.up, .int .i64 x.at_]
def SasAt (B : Nat) (w : World) (v : Value) (l : List Sp.SA) : Prop := w.ownsRow B 58 4 v l.length (l.flatMap saCells)
def SesAt (B : Nat) (w : World) (v : Value) (l : List Sp.SE) : Prop := ∃ ps : List (Sp.SE × Value), ps.map Prod.fst = l ∧ (∀ x ∈ ps, SasAt B w x.2 x.1.attrs) ∧
  w.ownsRow B 56 6 v ps.length (ps.flatMap fun x => seCells x.1 x.2)
theorem infoSA : (Tryz.prog.info? 58).map (fun i => (i.zero, i.size, i.bytes)) = some (some (.agg #[.string ⟨#[]⟩, .string ⟨#[]⟩, .string ⟨#[]⟩, .int .i64 0]), 4, 56) := by kernel_rfl
theorem infoSE : (Tryz.prog.info? 56).map (fun i => (i.zero, i.size, i.bytes)) = some (some (.agg #[.string ⟨#[]⟩, .string ⟨#[]⟩, .slice none 0 0, .string ⟨#[]⟩, .int .i64 0, .int .i64 0]), 6, 88) := by kernel_rfl

theorem SasAt.nil (B : Nat) (w : World) : SasAt B w (.slice none 0 0) [] := ⟨rfl, .inl ⟨rfl, rfl⟩⟩
theorem SesAt.nil (B : Nat) (w : World) : SesAt B w (.slice none 0 0) [] := ⟨[], rfl, (fun x hx => by cases hx), ⟨rfl, .inl ⟨rfl, rfl⟩⟩⟩
theorem grown_none {w w' : World} (h : Below w.heap.size w w') : w.grownBy w' none := ⟨h.os, h.tape, h.output, h.size, fun i hi _ => h.block i hi⟩
theorem ob_none (v : Value) : v.ownBlock = none ∨ v.ownBlock ≠ none := by cases v.ownBlock <;> simp
theorem row_below {w w' : World} {B n size : Nat} {e : TypeId} {v : Value} {xs : List Value} (h : w.ownsRow B e size v n xs) (hb : Below w.heap.size w w') : w'.ownsRow B e size v n xs := h.kept (grown_none hb) (ob_none v)
theorem row_lower {w : World} {B B' n size : Nat} {e : TypeId} {v : Value} {xs : List Value} (h : w.ownsRow B e size v n xs) (hb : B' ≤ B) : w.ownsRow B' e size v n xs := by
  refine ⟨h.1, ?_⟩
  rcases h.2 with hn | ⟨g, cap, cur, rfl, hbg, rest⟩
  · exact .inl hn
  · exact .inr ⟨g, cap, cur, rfl, Nat.le_trans hb hbg, rest⟩
theorem SasAt.below {B : Nat} {w w' : World} {v : Value} {l : List Sp.SA} (h : SasAt B w v l) (hb : Below w.heap.size w w') : SasAt B w' v l := row_below h hb
theorem SesAt.below {B : Nat} {w w' : World} {v : Value} {l : List Sp.SE} (h : SesAt B w v l) (hb : Below w.heap.size w w') : SesAt B w' v l := by
  obtain ⟨ps, h1, h2, h3⟩ := h
  exact ⟨ps, h1, fun x hx => (h2 x hx).below hb, row_below h3 hb⟩
theorem own_row_ge {w : World} {B n size : Nat} {e : TypeId} {v : Value} {xs : List Value} (h : w.ownsRow B e size v n xs) {j : Nat} (hj : v.ownBlock = some j) : B ≤ j := (World.ownsRow.lt h j hj).1
theorem row_grown {w w' : World} {B n size : Nat} {e : TypeId} {v : Value} {xs : List Value} (h : w.ownsRow B e size v n xs) (hb : B ≤ w.heap.size) (hg : w.grownBy w' v.ownBlock) : Below B w w' :=
  ⟨hg.os, hg.tape, hg.output, hg.size, fun k hk => hg.block k (by omega) (fun e => by
    have := own_row_ge h e.symm
    omega)⟩

theorem row_ne_map {w : World} {B n size b : Nat} {e : TypeId} {v : Value} {xs : List Value} {es : Array MapEntry} {c : Nat} (h : w.ownsRow B e size v n xs) (hb : w.heap[b]? = some (.map es c)) : v.ownBlock ≠ some b := by
  intro e1
  rcases h.2 with ⟨rfl, _⟩ | ⟨g, cap, cur, rfl, _, hg, _⟩
  · cases e1
  · injection e1 with e1
    subst e1
    rw [hb] at hg
    cases hg
theorem wpList_appSA {ops : Array Oper} {rest : List Oper} {o : Oper} {a : Act} {Q : Exit → Act → World → Prop} (hgd : o.guard = none) (s x : Operand)
    (ho : o.op = .call { callee := .builtin .append, args := #[s, x], argTypes := #[54, 54] })
    {base : Nat} {wr W : World} {v : Value} {acc : List Sp.SA} (m : Sp.SA) (hs : a.eval s = v) (hv : SasAt base wr v acc) (hbW : Below wr.heap.size wr W) (hbase : base ≤ wr.heap.size) (hn : acc.length < 65537)
    (cs : Array Value) (hcs : cs.toList = saCells m) (hx : a.eval x = .slice (some ⟨W.heap.size, 0, none⟩) 1 1)
    (h : ∀ v' w', SasAt base w' v' (acc ++ [m]) → (W.alloc (.cells cs 58)).grownBy w' v.ownBlock → Below base W w' → wpList Tryz.prog ops Q rest (a.put o.dst v') w') : wpList Tryz.prog ops Q (o :: rest) a (W.alloc (.cells cs 58)) := by
  obtain ⟨i0, hi, hz0, hz1, hz2⟩ := info_parts infoSA
  have hbA : Below wr.heap.size wr (W.alloc (.cells cs 58)) := hbW.alloc hbW.size _
  have hownA := row_below hv hbA
  have hsz : wr.heap.size ≤ W.heap.size := hbW.size
  refine wpList_append_own _ hgd s x 54 ho base 58 i0 _ 4 56 Tryz.underlying54 hi hz0 hz1 hz2 rfl (by decide) v acc.length (acc.flatMap saCells) hs hownA ⟨W.heap.size, 0, none⟩ 1 1 (saCells m) hx rfl
    (World.news_of_block (cs := cs) (heap_alloc_new W _) |> fun hh => by rw [← hcs]; exact hh) ?_ (by unfold maxLen; omega) (by omega) (by rw [sz_alloc]; omega) ?_
  · intro u hu
    simp only [saCells, List.mem_cons, List.not_mem_nil, or_false] at hu
    rcases hu with rfl | rfl | rfl | rfl <;> rfl
  · intro v' w' h1 h2 _
    refine h v' w' ?_ h2 ?_
    · unfold SasAt
      rw [List.flatMap_append, List.length_append]
      simpa using h1
    · refine ⟨h2.os, h2.tape, h2.output, Nat.le_trans (by rw [sz_alloc]; omega) h2.size, fun k hk => ?_⟩
      have hk2 : k < (W.alloc (.cells cs 58)).heap.size := by rw [sz_alloc]; omega
      refine (h2.block k hk2 (fun e => ?_)).trans (heap_alloc_old _ _ (by omega))
      have := own_row_ge hownA e.symm
      omega

theorem wpList_appSE {ops : Array Oper} {rest : List Oper} {o : Oper} {a : Act} {Q : Exit → Act → World → Prop} (hgd : o.guard = none) (s x : Operand)
    (ho : o.op = .call { callee := .builtin .append, args := #[s, x], argTypes := #[47, 47] })
    {base : Nat} {wr W : World} {v av : Value} {acc : List Sp.SE} (m : Sp.SE) (hs : a.eval s = v) (hv : SesAt base wr v acc) (hbW : Below wr.heap.size wr W) (hav : SasAt base W av m.attrs) (hbase : base ≤ wr.heap.size) (hn : acc.length < 65537)
    (cs : Array Value) (hcs : cs.toList = seCells m av) (hx : a.eval x = .slice (some ⟨W.heap.size, 0, none⟩) 1 1)
    (h : ∀ v' w', SesAt base w' v' (acc ++ [m]) → (W.alloc (.cells cs 56)).grownBy w' v.ownBlock → Below base W w' → wpList Tryz.prog ops Q rest (a.put o.dst v') w') : wpList Tryz.prog ops Q (o :: rest) a (W.alloc (.cells cs 56)) := by
  obtain ⟨ps, hps, hat, hown⟩ := hv
  have hpl : ps.length = acc.length := by rw [← hps, List.length_map]
  obtain ⟨i0, hi, hz0, hz1, hz2⟩ := info_parts infoSE
  have hbA : Below wr.heap.size wr (W.alloc (.cells cs 56)) := hbW.alloc hbW.size _
  have hatA : ∀ x ∈ ps, SasAt base (W.alloc (.cells cs 56)) x.2 x.1.attrs := fun x hx => (hat x hx).below hbA
  have hownA := row_below hown hbA
  have havA : SasAt base (W.alloc (.cells cs 56)) av m.attrs := hav.below ((Below.refl _ _).alloc (Nat.le_refl _) _)
  have hone : av.oneCell' = true := by rcases hav.2 with ⟨rfl, _⟩ | ⟨g', cap, cur, rfl, _⟩ <;> rfl
  have hsz : wr.heap.size ≤ W.heap.size := hbW.size
  refine wpList_append_own _ hgd s x 47 ho base 56 i0 _ 6 88 Tryz.underlying47 hi hz0 hz1 hz2 rfl (by decide) v ps.length (ps.flatMap fun x => seCells x.1 x.2) hs hownA ⟨W.heap.size, 0, none⟩ 1 1 (seCells m av) hx rfl
    (World.news_of_block (cs := cs) (heap_alloc_new W _) |> fun hh => by rw [← hcs]; exact hh) ?_ (by unfold maxLen; omega) (by omega) (by rw [sz_alloc]; omega) ?_
  · intro u hu
    simp only [seCells, List.mem_cons, List.not_mem_nil, or_false] at hu
    rcases hu with rfl | rfl | rfl | rfl | rfl | rfl <;> first | exact hone | rfl
  · intro v' w' h1 h2 _
    refine h v' w' ⟨ps ++ [(m, av)], by rw [List.map_append, hps]; rfl, fun x hx => ?_, ?_⟩ h2 ?_
    · rcases List.mem_append.1 hx with hx | hx
      · exact (hatA x hx).kept h2 (own_own_ne (hatA x hx) hownA (by decide))
      · rw [List.mem_singleton.1 hx]
        exact havA.kept h2 (own_own_ne havA hownA (by decide))
    · rw [List.flatMap_append, List.length_append]
      simpa using h1
    · refine ⟨h2.os, h2.tape, h2.output, Nat.le_trans (by rw [sz_alloc]; omega) h2.size, fun k hk => ?_⟩
      have hk2 : k < (W.alloc (.cells cs 56)).heap.size := by rw [sz_alloc]; omega
      refine (h2.block k hk2 (fun e => ?_)).trans (heap_alloc_old _ _ (by omega))
      have := own_row_ge hownA e.symm
      omega

/-- Attributes and elements as they are read. -/
def SasR (w : World) (v : Value) (l : List Sp.SA) : Prop := ∃ a c, v = .slice a l.length c ∧ (0 < l.length → ∃ g o, a = some ⟨g, o, none⟩ ∧ g < w.heap.size ∧ ∀ i x, l[i]? = some x →
  w.cell? ⟨g, o + i * 4, none⟩ = some (.string ⟨x.space.toArray⟩) ∧ w.cell? ⟨g, o + i * 4 + 1, none⟩ = some (.string ⟨x.name.toArray⟩) ∧ w.cell? ⟨g, o + i * 4 + 2, none⟩ = some (.string ⟨x.value.toArray⟩) ∧ w.cell? ⟨g, o + i * 4 + 3, none⟩ = some (.int .i64 x.at_))
def SesR (w : World) (v : Value) (l : List Sp.SE) : Prop := ∃ a c, v = .slice a l.length c ∧ (0 < l.length → ∃ g o, a = some ⟨g, o, none⟩ ∧ g < w.heap.size ∧ ∀ i x, l[i]? = some x → ∃ av, SasR w av x.attrs ∧
  w.cell? ⟨g, o + i * 6, none⟩ = some (.string ⟨x.space.toArray⟩) ∧ w.cell? ⟨g, o + i * 6 + 1, none⟩ = some (.string ⟨x.name.toArray⟩) ∧ w.cell? ⟨g, o + i * 6 + 2, none⟩ = some av ∧ w.cell? ⟨g, o + i * 6 + 3, none⟩ = some (.string ⟨x.text.toArray⟩) ∧
  w.cell? ⟨g, o + i * 6 + 4, none⟩ = some (.int .i64 x.up) ∧ w.cell? ⟨g, o + i * 6 + 5, none⟩ = some (.int .i64 x.at_))
theorem SasR.below {w w' : World} {v : Value} {l : List Sp.SA} (h : SasR w v l) (hb : Below w.heap.size w w') : SasR w' v l := by
  obtain ⟨a, c, rfl, hc⟩ := h
  refine ⟨a, c, rfl, fun hl => ?_⟩
  obtain ⟨g, o, rfl, hg, h2⟩ := hc hl
  refine ⟨g, o, rfl, Nat.lt_of_lt_of_le hg hb.size, fun i x hx => ?_⟩
  have e : ∀ j, w'.cell? ⟨g, j, none⟩ = w.cell? ⟨g, j, none⟩ := fun j => World.cell?_of_block (hb.block g hg)
  simp only [e]
  exact h2 i x hx
theorem SesR.below {w w' : World} {v : Value} {l : List Sp.SE} (h : SesR w v l) (hb : Below w.heap.size w w') : SesR w' v l := by
  obtain ⟨a, c, rfl, hc⟩ := h
  refine ⟨a, c, rfl, fun hl => ?_⟩
  obtain ⟨g, o, rfl, hg, h2⟩ := hc hl
  refine ⟨g, o, rfl, Nat.lt_of_lt_of_le hg hb.size, fun i x hx => ?_⟩
  have e : ∀ j, w'.cell? ⟨g, j, none⟩ = w.cell? ⟨g, j, none⟩ := fun j => World.cell?_of_block (hb.block g hg)
  obtain ⟨av, h3, h4⟩ := h2 i x hx
  simp only [e]
  exact ⟨av, h3.below hb, h4⟩
theorem SasAt.toR {B : Nat} {w : World} {v : Value} {l : List Sp.SA} (h : SasAt B w v l) : SasR w v l := by
  by_cases h0 : l.length = 0
  · rcases h.2 with ⟨rfl, _⟩ | ⟨q, cap, cur, rfl, _⟩
    · exact ⟨none, 0, by rw [h0], fun h => by omega⟩
    · exact ⟨_, cap, rfl, fun h => by omega⟩
  · obtain ⟨g, cap, rfl, hb, hlt, hc⟩ := ownsRow_cells h (by omega)
    refine ⟨_, _, rfl, fun _ => ⟨g, 0, rfl, hlt, fun i a ha => ?_⟩⟩
    have hf := fun k hk => flat_get saCells 4 (fun _ => rfl) l i k hk
    rw [Nat.zero_add]
    refine ⟨hc _ _ ?_, hc _ _ ?_, hc _ _ ?_, hc _ _ ?_⟩
    · rw [show i * 4 = i * 4 + 0 from rfl, hf 0 (by omega), ha]; rfl
    · rw [hf 1 (by omega), ha]; rfl
    · rw [hf 2 (by omega), ha]; rfl
    · rw [hf 3 (by omega), ha]; rfl
theorem SesAt.toR {B : Nat} {w : World} {v : Value} {l : List Sp.SE} (h : SesAt B w v l) : SesR w v l := by
  obtain ⟨ps, hps, hat, hown⟩ := h
  subst hps
  by_cases h0 : ps.length = 0
  · rcases hown.2 with ⟨rfl, _⟩ | ⟨q, cap, cur, rfl, _⟩
    · exact ⟨none, 0, by rw [List.length_map, h0], fun h => by rw [List.length_map] at h; omega⟩
    · exact ⟨_, cap, by rw [List.length_map], fun h => by rw [List.length_map] at h; omega⟩
  · obtain ⟨g, cap, rfl, hb, hlt, hc⟩ := ownsRow_cells hown (by omega)
    refine ⟨_, _, by rw [List.length_map], fun _ => ⟨g, 0, rfl, hlt, fun i a ha => ?_⟩⟩
    have hf := fun k hk => flat_get (fun x : Sp.SE × Value => seCells x.1 x.2) 6 (fun _ => rfl) ps i k hk
    rw [Nat.zero_add]
    rw [List.getElem?_map] at ha
    cases hx : ps[i]? with
    | none => rw [hx] at ha; cases ha
    | some x =>
      rw [hx] at ha
      injection ha with ha
      subst ha
      refine ⟨x.2, (hat x (List.mem_of_getElem? hx)).toR, hc _ _ ?_, hc _ _ ?_, hc _ _ ?_, hc _ _ ?_, hc _ _ ?_, hc _ _ ?_⟩
      · rw [show i * 6 = i * 6 + 0 from rfl, hf 0 (by omega), hx]; rfl
      · rw [hf 1 (by omega), hx]; rfl
      · rw [hf 2 (by omega), hx]; rfl
      · rw [hf 3 (by omega), hx]; rfl
      · rw [hf 4 (by omega), hx]; rfl
      · rw [hf 5 (by omega), hx]; rfl

/-! ### scopes: a map of the call's own from texts to texts -/
def ScD (D : DataW Unit) (sc : Sp.Sc) : Prop := ∀ (t : List UInt8) (zd : DataW Unit), D.atKey (.string t) zd = match sc.lookup t with | none => zd | some v => .lit (.string v)
theorem scd_nil : ScD (.map []) [] := fun _ _ => rfl
theorem scd_put {D : DataW Unit} {sc : Sp.Sc} (h : ScD D sc) (hD : IsMap D) (t v : List UInt8) : ScD (D.put (.string t) (.lit (.string v))) ((t, v) :: sc) := by
  intro u zd
  by_cases hu : u = t
  · subst hu
    rw [atKey_put_same (k := .string u) hD trivial]
    simp [List.lookup]
  · rw [atKey_put_other (by intro e; injection e with e; exact hu e), h u zd]
    have : (u == t) = false := by simpa using hu
    rw [List.lookup, this]
/-- A scope in block b of at most n entries. -/
def ScAt (w : World) (b n : Nat) (sc : Sp.Sc) : Prop := ∃ D : DataW Unit, w.ownsMap Tryz.prog 9 (plainElem Tryz.prog 9) b n D ∧ ScD D sc
theorem ScAt.lt {w : World} {b n : Nat} {sc : Sp.Sc} (h : ScAt w b n sc) : b < w.heap.size := by
  obtain ⟨D, h1, _⟩ := h
  exact h1.lt
theorem ScAt.below {w w' : World} {b n : Nat} {sc : Sp.Sc} (h : ScAt w b n sc) (hb : Below w.heap.size w w') : ScAt w' b n sc := by
  obtain ⟨D, h1, h2⟩ := h
  exact ⟨D, h1.kept (grown_none hb) (by simp), h2⟩
theorem ScAt.grown {w w' : World} {b n : Nat} {sc : Sp.Sc} {row : Option Nat} (h : ScAt w b n sc) (hg : w.grownBy w' row) (hne : some b ≠ row) : ScAt w' b n sc := by
  obtain ⟨D, h1, h2⟩ := h
  exact ⟨D, h1.kept hg hne, h2⟩
theorem ScAt.mono {w : World} {b n m : Nat} {sc : Sp.Sc} (h : ScAt w b n sc) (hnm : n ≤ m) : ScAt w b m sc := by
  obtain ⟨D, h1, h2⟩ := h
  exact ⟨D, h1.mono hnm, h2⟩
theorem keyS {s : ByteArray} (hs : s.size ≤ maxLen) : keyOf Tryz.prog 9 (.string s) = some (.string s.data.toList) := Go.WideMaps.keyOf_string_mk Tryz.underlying9 hs

/-- 'm[k] = v' in a scope. -/
theorem wpList_putSc (w : World) {ops : Array Oper} {rest : List Oper} {o : Oper} {a : Act} {Q : Exit → Act → World → Prop}
    (hg : o.guard = none) (m x v : Operand) (t : TypeId) (hop : o.op = Op.mapUpdate t m x v) (ht : Tryz.prog.underlying t = some (.map 9 9)) (b n : Nat) (sc : Sp.Sc)
    (hm : a.eval m = .map (some b)) (hown : ScAt w b n sc) (hn : n < maxLen) (k s : ByteArray) (hx : a.eval x = .string k) (hv : a.eval v = .string s) (hk : k.size ≤ maxLen) (hs : s.size ≤ maxLen)
    (hK : ∀ w', ScAt w' b (n + 1) ((k.data.toList, s.data.toList) :: sc) → w.grownBy w' (some b) → wpList Tryz.prog ops Q rest (a.put o.dst undef) w') :
    wpList Tryz.prog ops Q (o :: rest) a w := by
  obtain ⟨D, h1, h2⟩ := hown
  refine wpList_mapUpdate_own w hg m x v t hop 9 9 keyStr ht (plainElem (H := Unit) Tryz.prog 9) b n D hm h1 hn _ _ _ hx hv (keyS hk) _ [] (plainElem_string Tryz.underlying9 hs) ?_
  intro w' h3 h4
  exact hK w' ⟨_, h3, scd_put h2 (h1.tidy keyStr).isMap _ _⟩ h4

/-- An entry of a composite literal. -/
theorem wpList_insSc (w : World) {ops : Array Oper} {rest : List Oper} {o : Oper} {a : Act} {Q : Exit → Act → World → Prop}
    (hg : o.guard = none) (m x v : Operand) (t : TypeId) (hop : o.op = Op.insert t m x v) (ht : Tryz.prog.underlying t = some (.map 9 9)) (b n : Nat) (sc : Sp.Sc)
    (hm : a.eval m = .map (some b)) (hown : ScAt w b n sc) (hn : n < maxLen) (k s : ByteArray) (hx : a.eval x = .string k) (hv : a.eval v = .string s) (hk : k.size ≤ maxLen) (hs : s.size ≤ maxLen)
    (hK : ∀ w', ScAt w' b (n + 1) ((k.data.toList, s.data.toList) :: sc) → w.grownBy w' (some b) → wpList Tryz.prog ops Q rest (a.put o.dst undef) w') :
    wpList Tryz.prog ops Q (o :: rest) a w := by
  obtain ⟨D, h1, h2⟩ := hown
  refine wpList_plain hg fun K' hK' => ?_
  obtain ⟨w', hrun, r1, r2⟩ := h1.update keyStr ht hn (keyS hk) (plainElem_string Tryz.underlying9 hs)
  unfold Oper.wp
  simp [execOp, hop, hm, hx, hv, hrun, Result.andThen]
  exact hK' _ _ (hK w' ⟨_, r1, scd_put h2 (h1.tidy keyStr).isMap _ _⟩ r2)

set_option maxRecDepth 100000 in
/-- 'v, ok := m[k]' in a scope. -/
theorem wpList_lookSc (w : World) {ops : Array Oper} {rest : List Oper} {o : Oper} {a : Act} {Q : Exit → Act → World → Prop}
    (hg : o.guard = none) (m x : Operand) (t : TypeId) (hop : o.op = Op.lookup t m x true) (ht : Tryz.prog.underlying t = some (.map 9 9)) (b n : Nat) (sc : Sp.Sc)
    (hm : a.eval m = .map (some b)) (hown : ScAt w b n sc) (k : ByteArray) (hx : a.eval x = .string k) (hk : k.size ≤ maxLen)
    (hK : ∀ (s : ByteArray) (c : Bool), (c = false → sc.lookup k.data.toList = none) → (c = true → sc.lookup k.data.toList = some s.data.toList) → s.size ≤ maxLen → wpList Tryz.prog ops Q rest (a.put o.dst (.tuple #[.string s, .bool c])) w) :
    wpList Tryz.prog ops Q (o :: rest) a w := by
  obtain ⟨D, ⟨es, clock, hb, F, hsz, rfl⟩, h2⟩ := hown
  have hz : (zeroValue 9).run Tryz.prog w = .ok (.string ⟨#[]⟩) w := by kernel_rfl
  refine wpList_plain hg fun K' hK' => ?_
  unfold Oper.wp
  rcases WideElems.fit_lookup_ok (WideMaps.string_law Tryz.underlying9) ht hz hb F (keyS hk) with ⟨hrun, hat⟩ | ⟨v, y, hrun, hR, hat, _⟩
  · simp [execOp, hop, hm, hx, hrun, Result.andThen]
    refine hK' _ _ (hK ⟨#[]⟩ false (fun _ => ?_) (fun h => by cases h) (by simp [maxLen, ByteArray.size]))
    have h3 := h2 k.data.toList (.lit (.bool true))
    rw [hat] at h3
    cases hl : sc.lookup k.data.toList with
    | none => rfl
    | some v => rw [hl] at h3; cases h3
  · obtain ⟨s, rfl, rfl, hs⟩ := plainElem_string_inv Tryz.underlying9 hR
    simp [execOp, hop, hm, hx, hrun, Result.andThen]
    refine hK' _ _ (hK s true (fun h => by cases h) (fun _ => ?_) hs)
    have h3 := h2 k.data.toList (.lit (.bool true))
    rw [hat] at h3
    cases hl : sc.lookup k.data.toList with
    | none =>
      rw [hl] at h3
      have h4 : (DataW.lit (.string s.data.toList) : DataW Unit) = .lit (.bool true) := h3
      injection h4 with h4
      injection h4
    | some v =>
      rw [hl] at h3
      have h4 : (DataW.lit (.string s.data.toList) : DataW Unit) = .lit (.string v) := h3
      injection h4 with h4
      injection h4 with h4
      rw [h4]
end Go.Proofs.YtokdclmikllepaaGreatDoor
namespace Go.Proofs.YtokdclmikllepaaGreatDoor
open Go.Shelf Go.RowKit Go.Lib
set_option linter.unusedVariables false
set_option linter.unusedSimpArgs false

/-! ### strings.Cut at a sep of one byte: no bound on the text -/
section
variable {P : Program} {ρ : Ren}
set_option maxHeartbeats 2000000 in
set_option maxRecDepth 100000 in
theorem lite_Cut_one (L : Lays.n220 P ρ) (s : ByteArray) (c : UInt8) (w : World) (hs : s.size ≤ 9223372036854775807) :
    Calls P (ρ.f 220) #[.string s, .string ⟨#[c]⟩] w fun e w' => e = .returned (.tuple #[.string ⟨(Lib.cut s.data.toList [c]).1.toArray⟩, .string ⟨(Lib.cut s.data.toList [c]).2.1.toArray⟩, .bool (Lib.cut s.data.toList [c]).2.2]) ∧ ∃ n, w' = w.drewN n := by
  have hone : ∀ s : List UInt8, Lib.indexByte s c = Lib.index s [c] := fun s => (Lib.index_one s c).symm
  obtain ⟨sep, hsep⟩ : ∃ sep : ByteArray, (⟨#[c]⟩ : ByteArray) = sep := ⟨_, rfl⟩
  have hse : sep.data.toList = [c] := by rw [← hsep]
  rw [← hse] at hone ⊢
  rcases Lib.indexB_cases s sep with hix | ⟨i, hix, hroom⟩
  · obtain ⟨e1, e2, e3⟩ := Lib.cutB_miss s sep hix
    rw [e1, e2, e3]
    subst hsep
    have t3 := L.t3; have t4 := L.t4; have t9 := L.t9
    have a3 : ∀ w, (isAgg (ρ.t 3)).run P w = .ok false w := run_isAgg_plain L.t3 rfl; have a4 : ∀ w, (isAgg (ρ.t 4)).run P w = .ok false w := run_isAgg_plain L.t4 rfl; have a9 : ∀ w, (isAgg (ρ.t 9)).run P w = .ok false w := run_isAgg_plain L.t9 rfl
    have e219 : ∀ args w, (callFunc (ρ.f 219) args).run P w = .ok (.enter (ρ.f 219) args) w := enters_of L.f219 (by kernel_rfl) rfl
    have mixed := L.mixed; have z3 := L.z3; have v3 := L.v3; have z4 := L.z4; have v4 := L.v4; have z9 := L.z9; have v9 := L.v9
    go_enter L.f220, Body.n220_ntmps ρ
    go_wp2_with (go_at_fn (ρ.f 219); refine (Any.stringslite_Index_one { L with } _ _ _).mono ?_; rintro e w' ⟨rfl, rfl⟩; rw [hone, show Lib.index s.data.toList _ = _ from hix])
    go_ret3
    exact ⟨rfl, 0, rfl⟩
  · obtain ⟨e1, e2, e3⟩ := Lib.cutB_hit s sep i hix
    rw [e1, e2, e3]
    have hs1 : sep.size = 1 := by rw [← hsep]; rfl
    rw [hs1] at hroom ⊢
    subst hsep
    have c1 : (0 : Int) ≤ ↑i := by omega
    have c2 : (↑i : Int) ≤ ↑s.size := by omega
    have c3 : (0 : Int) ≤ ↑i + 1 := by omega
    have c4 : (↑i + 1 : Int) ≤ ↑s.size := by omega
    have c5 : wrap64 ((i : Int) + 1) = (i : Int) + 1 := by unfold wrap64; omega
    have t3 := L.t3; have t4 := L.t4; have t9 := L.t9
    have a3 : ∀ w, (isAgg (ρ.t 3)).run P w = .ok false w := run_isAgg_plain L.t3 rfl; have a4 : ∀ w, (isAgg (ρ.t 4)).run P w = .ok false w := run_isAgg_plain L.t4 rfl; have a9 : ∀ w, (isAgg (ρ.t 9)).run P w = .ok false w := run_isAgg_plain L.t9 rfl
    have e219 : ∀ args w, (callFunc (ρ.f 219) args).run P w = .ok (.enter (ρ.f 219) args) w := enters_of L.f219 (by kernel_rfl) rfl
    have mixed := L.mixed; have z3 := L.z3; have v3 := L.v3; have z4 := L.z4; have v4 := L.v4; have z9 := L.z9; have v9 := L.v9
    go_enter L.f220, Body.n220_ntmps ρ
    go_wp2_with (go_at_fn (ρ.f 219); refine (Any.stringslite_Index_one { L with } _ _ _).mono ?_; rintro e w' ⟨rfl, rfl⟩; rw [hone, show Lib.index s.data.toList _ = _ from hix])
    go_region_o
    go_wp2
    go_ret3
    exact ⟨rfl, 1, rfl⟩

set_option maxHeartbeats 1000000 in
theorem strings_Cut_one (L : Lays.n145 P ρ) (s : ByteArray) (c : UInt8) (w : World) (hs : s.size ≤ 9223372036854775807) :
    Calls P (ρ.f 145) #[.string s, .string ⟨#[c]⟩] w fun e w' => e = .returned (.tuple #[.string ⟨(Lib.cut s.data.toList [c]).1.toArray⟩, .string ⟨(Lib.cut s.data.toList [c]).2.1.toArray⟩, .bool (Lib.cut s.data.toList [c]).2.2]) ∧ ∃ n, w' = w.drewN n := by
  have t4 := L.t4; have t9 := L.t9; have t59 := L.t59
  have a4 : ∀ w, (isAgg (ρ.t 4)).run P w = .ok false w := run_isAgg_plain L.t4 rfl; have a9 : ∀ w, (isAgg (ρ.t 9)).run P w = .ok false w := run_isAgg_plain L.t9 rfl; have a59 : ∀ w, (isAgg (ρ.t 59)).run P w = .ok false w := run_isAgg_plain L.t59 rfl
  have e220 : ∀ args w, (callFunc (ρ.f 220) args).run P w = .ok (.enter (ρ.f 220) args) w := enters_of L.f220 (by kernel_rfl) rfl
  have mixed := L.mixed; have z4 := L.z4; have v4 := L.v4; have z9 := L.z9; have v9 := L.v9; have z59 := L.z59; have v59 := L.v59
  go_enter L.f145, Body.n145_ntmps ρ
  go_wp2_with (go_at_fn (ρ.f 220); refine (lite_Cut_one { L with } _ _ _ hs).mono ?_; rintro e w' ⟨rfl, n, rfl⟩)
  go_ret3
  exact ⟨rfl, n, rfl⟩
end

theorem colon_index : ∀ s : List UInt8, Lib.indexByte s 58 = match Sp.colon s with | none => (-1 : Int) | some i => (i : Int)
  | [] => rfl
  | b :: l => by
    have ih := colon_index l
    unfold Sp.colon at ih ⊢
    rw [Lib.indexByte, List.findIdx?_cons, ih]
    by_cases h : b = 58
    · subst h; rfl
    · have hb : (b == 58) = false := by simpa using h
      simp only [hb]
      cases hf : l.findIdx? (· == 58) with
      | none => rfl
      | some i =>
        simp only [Option.map_some]
        rw [if_neg (by decide)]
        have : ((i : Int) == -1) = false := by rw [beq_eq_false_iff_ne]; omega
        rw [this]
        rfl
theorem cut_lib (s : List UInt8) : Lib.cut s [58] = match Sp.colon s with | none => (s, [], false) | some i => (s.take i, s.drop (i + 1), true) := by
  unfold Lib.cut
  rw [Lib.index_one, colon_index]
  cases Sp.colon s with
  | none => rfl
  | some i =>
    simp only
    rw [if_pos (by omega)]
    rfl
theorem has_colon (s : List UInt8) : decide (0 ≤ Lib.indexByte s 58) = (Sp.colon s).isSome := by
  rw [colon_index]
  cases Sp.colon s with
  | none => rfl
  | some i => simp
end Go.Proofs.YtokdclmikllepaaGreatDoor
namespace Go.Proofs.YtokdclmikllepaaGreatDoor
set_option linter.unusedVariables false
set_option linter.unusedSimpArgs false

/-! ### the references' words on names -/
theorem ne_xmlns {p q : List UInt8} (h : Sp.colon p = none) : p ++ 58 :: q ≠ Sp.xmlnsB := by
  intro e
  have := colon_mk (q := q) h
  rw [e, xmlns_colon] at this
  cases this
theorem decl_ref10 (s : List UInt8) : (Sp.declares s).2 = (decide (s = Sp.xmlnsB) || (decide (Sp.colon s = some 5) && decide (s.take 5 = Sp.xmlnsB))) := by
  rcases cut_ways s with h | ⟨p, q, rfl, hp⟩
  · rw [decl_no h, h]
    by_cases hs : s = Sp.xmlnsB <;> simp [hs]
  · rw [decl_mk hp, colon_mk hp]
    have h0 := ne_xmlns (q := q) hp
    by_cases h : p = Sp.xmlnsB
    · subst h
      rw [if_pos rfl]
      simp [Sp.xmlnsB]
    · rw [if_neg h]
      by_cases hl : p.length = 5
      · have : (p ++ 58 :: q).take 5 = p := List.take_left' hl
        simp [h0, h, this]
      · simp [h0, hl]
theorem cut_ref10 (s : List UInt8) : (Sp.cut s).1 = (match Sp.colon s with | none => [] | some i => s.take i) ∧ (Sp.cut s).2.1 = s.drop (match Sp.colon s with | none => 0 | some i => i + 1) := by
  unfold Sp.cut
  cases Sp.colon s with
  | none => exact ⟨rfl, rfl⟩
  | some i => exact ⟨rfl, rfl⟩
theorem colon_lt {s : List UInt8} {i : Nat} (h : Sp.colon s = some i) : i < s.length := by
  unfold Sp.colon at h
  exact (List.findIdx?_eq_some_iff_getElem.1 h).1
theorem colon_step {s : List UInt8} {j : Nat} (hj : j < s.length) (h : ∀ k, k < j → ∀ c, s[k]? = some c → c ≠ 58) : (s[j] = 58 → Sp.colon s = some j) := by
  intro h1
  unfold Sp.colon
  rw [List.findIdx?_eq_some_iff_getElem]
  refine ⟨hj, by simpa using h1, fun k hk => ?_⟩
  have := h k hk _ (List.getElem?_eq_getElem (by omega))
  simpa using this
theorem colon_all {s : List UInt8} (h : ∀ k, k < s.length → ∀ c, s[k]? = some c → c ≠ 58) : Sp.colon s = none := by
  rw [colon_none]
  intro c hc
  obtain ⟨k, hk, rfl⟩ := List.mem_iff_getElem.1 hc
  exact h k hk _ (List.getElem?_eq_getElem hk)
end Go.Proofs.YtokdclmikllepaaGreatDoor
namespace Go.Proofs.YtokdclmikllepaaGreatDoor
open Go.RowKit Go.Maps
set_option linter.unusedVariables false
set_option linter.unusedSimpArgs false

/-! ### spaces: cut, declares, means, maps.Clone -/
set_option maxHeartbeats 4000000 in
set_option maxRecDepth 100000 in
theorem sdecl_calls (s : ByteArray) (w : World) (dp : List UInt8) (db : Bool) (hd : Sp.declares (L s) = (dp, db)) :
    Calls Tryz.prog 107 #[.string s] w fun e w' => (∃ p : ByteArray, e = .returned (.tuple #[.string p, .bool db]) ∧ L p = dp) ∧ Below w.heap.size w w' := by
  by_cases h : L s = Sp.xmlnsB
  · have h1 : (s.toList == [120, 109, 108, 110, 115]) = true := by rw [toList_L, h]; rfl
    have hd2 : Sp.declares (L s) = ([], true) := by unfold Sp.declares; rw [if_pos h]
    rw [hd2] at hd
    injection hd with hd3 hd4
    subst hd3 hd4
    clear h hd2
    go_enter Tryz.func107, Tryz.ntmps107
    go_wp2_with fail
    go_ret2
    exact ⟨⟨_, rfl, rfl⟩, Below.refl _ _⟩
  · have h1 : (s.toList == [120, 109, 108, 110, 115]) = false := by rw [toList_L, beq_eq_false_iff_ne]; exact h
    have hd2 : Lib.trimPrefix s.data.toList (⟨#[120, 109, 108, 110, 115, 58]⟩ : ByteArray).data.toList = dp ∧ Lib.hasPrefix s.data.toList (⟨#[120, 109, 108, 110, 115, 58]⟩ : ByteArray).data.toList = db := by
      unfold Sp.declares at hd
      rw [if_neg h] at hd
      unfold Lib.trimPrefix Lib.hasPrefix
      rw [show (⟨#[120, 109, 108, 110, 115, 58]⟩ : ByteArray).data.toList = Sp.xmlnsB ++ [58] from rfl]
      split at hd
      · rename_i h3
        rw [if_pos h3, h3]
        injection hd with hd3 hd4
        exact ⟨hd3, hd4⟩
      · rename_i h3
        rw [if_neg h3]
        injection hd with hd3 hd4
        exact ⟨hd3, (Bool.eq_false_iff.2 h3).trans hd4⟩
    have HD := Lib.hid hd2
    clear hd hd2 h
    go_enter Tryz.func107, Tryz.ntmps107
    go_wp2_with (go_at_call 134; go_must (refine (Tryz.strings_CutPrefix _ _ _).mono ?_); rw [HD.out.1, HD.out.2]; rintro e w' ⟨rfl, rfl⟩)
    go_ret2
    exact ⟨⟨_, rfl, rfl⟩, Below.refl _ _⟩
theorem decl_len (s : List UInt8) : (Sp.declares s).1.length ≤ s.length := by
  unfold Sp.declares
  split
  · exact Nat.zero_le _
  · split
    · simp
    · exact Nat.le_refl _
theorem cut_len (s : List UInt8) : (Sp.cut s).1.length ≤ s.length ∧ (Sp.cut s).2.1.length ≤ s.length := by
  unfold Sp.cut
  split
  · simp
  · simp; omega

/-- A byte array out of a list. -/
theorem mkL (l : List UInt8) : L (⟨l.toArray⟩ : ByteArray) = l := rfl
theorem empt (x : ByteArray) : x.toList.isEmpty = decide (L x = []) := by
  rw [toList_L]
  cases L x <;> rfl

set_option maxHeartbeats 4000000 in
set_option maxRecDepth 100000 in
theorem scut_calls (s : ByteArray) (w : World) (hs : s.size ≤ 9223372036854775807) (cp cl : List UInt8) (cb : Bool) (hd : Sp.cut (L s) = (cp, cl, cb)) :
    Calls Tryz.prog 64 #[.string s] w fun e w' => (∃ p l : ByteArray, e = .returned (.tuple #[.string p, .string l, .bool cb]) ∧ L p = cp ∧ L l = cl) ∧ Below w.heap.size w w' := by
  cases hc : Sp.colon (L s) with
  | none =>
    have h1 : Lib.cut s.data.toList [58] = (L s, [], false) := by rw [cut_lib]; show (match Sp.colon (L s) with | none => _ | some i => _) = _; rw [hc]
    have h2 : Sp.cut (L s) = ([], L s, decide (L s ≠ [])) := by unfold Sp.cut; rw [hc]
    rw [h2] at hd
    injection hd with hd1 hd2
    injection hd2 with hd2 hd3
    subst hd1 hd2
    have H1 := Lib.hid h1
    have hne : (!s.toList.isEmpty) = cb := by rw [empt, ← hd3]; simp
    clear h1 h2 hc hd3
    go_enter Tryz.func64, Tryz.ntmps64
    go_wp2_with (go_at_call 104; go_must (refine (strings_Cut_one Tryz.lays145 _ _ _ hs).mono ?_); rw [H1.out]; rintro e w' ⟨rfl, m, rfl⟩)
    go_ret3
    exact ⟨⟨⟨#[]⟩, s, rfl, rfl, rfl⟩, below_drewN (Below.refl _ _) _⟩
  | some i =>
    have h1 : Lib.cut s.data.toList [58] = ((L s).take i, (L s).drop (i + 1), true) := by rw [cut_lib]; show (match Sp.colon (L s) with | none => _ | some i => _) = _; rw [hc]
    have h2 : Sp.cut (L s) = ((L s).take i, (L s).drop (i + 1), decide ((L s).take i ≠ []) && decide ((L s).drop (i + 1) ≠ []) && (Sp.colon ((L s).drop (i + 1))).isNone) := by unfold Sp.cut; rw [hc]
    rw [h2] at hd
    injection hd with hd1 hd2
    injection hd2 with hd2 hd3
    obtain ⟨p, hp⟩ : ∃ p : ByteArray, (⟨((L s).take i).toArray⟩ : ByteArray) = p := ⟨_, rfl⟩
    obtain ⟨l, hl⟩ : ∃ l : ByteArray, (⟨((L s).drop (i + 1)).toArray⟩ : ByteArray) = l := ⟨_, rfl⟩
    have E : Hid ((⟨(Lib.cut s.data.toList [58]).1.toArray⟩ : ByteArray) = p ∧ (⟨(Lib.cut s.data.toList [58]).2.1.toArray⟩ : ByteArray) = l ∧ (Lib.cut s.data.toList [58]).2.2 = true) := by
      show _ ∧ _ ∧ _
      rw [h1]
      exact ⟨hp, hl, rfl⟩
    have hpL : L p = (L s).take i := by rw [← hp]
    have hlL : L l = (L s).drop (i + 1) := by rw [← hl]
    rw [← hpL] at hd1 hd3
    rw [← hlL] at hd2 hd3
    have HF : Hid (L p = cp ∧ L l = cl) := ⟨hd1, hd2⟩
    clear hd1 hd2 hpL hlL h1 h2 hc hp hl
    by_cases hpe : L p = []
    · have hpz : p.toList.isEmpty = true := by rw [empt, hpe]; rfl
      have hcb : cb = false := by rw [← hd3, hpe]; rfl
      subst hcb
      clear hd3 hpe
      go_enter Tryz.func64, Tryz.ntmps64
      go_wp2_with (go_at_call 104; go_must (refine (strings_Cut_one Tryz.lays145 _ _ _ hs).mono ?_); rw [E.out.1, E.out.2.1, E.out.2.2]; rintro e w' ⟨rfl, m, rfl⟩)
      go_ret3
      exact ⟨⟨p, l, rfl, HF.out.1, HF.out.2⟩, below_drewN (Below.refl _ _) _⟩
    · have hpz : p.toList.isEmpty = false := by rw [empt]; simp [hpe]
      by_cases hle : L l = []
      · have hlz : l.toList.isEmpty = true := by rw [empt, hle]; rfl
        have hcb : cb = false := by rw [← hd3, hle]; simp
        subst hcb
        clear hd3 hpe hle
        go_enter Tryz.func64, Tryz.ntmps64
        go_wp2_with (go_at_call 104; go_must (refine (strings_Cut_one Tryz.lays145 _ _ _ hs).mono ?_); rw [E.out.1, E.out.2.1, E.out.2.2]; rintro e w' ⟨rfl, m, rfl⟩)
        go_ret3
        exact ⟨⟨p, l, rfl, HF.out.1, HF.out.2⟩, below_drewN (Below.refl _ _) _⟩
      · have hlz : l.toList.isEmpty = false := by rw [empt]; simp [hle]
        have hcb : (!decide (0 ≤ Lib.indexByte l.data.toList 58)) = cb := by
          rw [← hd3, has_colon]
          simp only [hpe, hle, ne_eq, not_false_eq_true, decide_true, Bool.true_and]
          cases Sp.colon (L l) <;> rfl
        obtain ⟨hb, hhb⟩ : ∃ b, decide (0 ≤ Lib.indexByte l.data.toList 58) = b := ⟨_, rfl⟩
        rw [hhb] at hcb
        subst hcb
        have HHB := Lib.hid hhb
        clear hd3 hpe hle hhb
        go_enter Tryz.func64, Tryz.ntmps64
        go_wp2_with (first
          | (go_at_call 104; go_must (refine (strings_Cut_one Tryz.lays145 _ _ _ hs).mono ?_); rw [E.out.1, E.out.2.1, E.out.2.2]; rintro e w' ⟨rfl, m, rfl⟩)
          | (go_at_call 105; go_must (refine (Any.strings_Contains_one Tryz.lays144 l 58 _).mono ?_); rw [HHB.out]; rintro e w' ⟨rfl, rfl⟩))
        go_ret3
        exact ⟨⟨p, l, rfl, HF.out.1, HF.out.2⟩, below_drewN (Below.refl _ _) _⟩

set_option maxHeartbeats 4000000 in
set_option maxRecDepth 100000 in
theorem smeans_calls (w : World) (b n : Nat) (sc : Sp.Sc) (hS : ScAt w b n sc) (k : ByteArray) (hk : k.size ≤ maxLen) :
    Calls Tryz.prog 66 #[.map (some b), .string k] w fun e w' => (∃ (s : ByteArray) (c : Bool), e = .returned (.tuple #[.string s, .bool c]) ∧ (c = false → sc.lookup (L k) = none) ∧ (c = true → sc.lookup (L k) = some (L s)) ∧ s.size ≤ maxLen) ∧ w' = w := by
  have HS := Lib.hid hS
  have HK := Lib.hid hk
  clear hS hk
  go_enter Tryz.func66, Tryz.ntmps66
  go_wp2_with (refine wpList_lookSc _ rfl _ _ 97 rfl Tryz.underlying97 b n sc rfl HS.out k rfl HK.out ?_; intro s c h1 h2 h3)
  go_ret2
  exact ⟨⟨s, c, rfl, h1, h2, h3⟩, rfl⟩

set_option maxHeartbeats 4000000 in
set_option maxRecDepth 100000 in
theorem clone_calls (w : World) (b n : Nat) (sc : Sp.Sc) (hS : ScAt w b n sc) :
    Calls Tryz.prog 106 #[.map (some b)] w fun e w' => e = .returned (.map (some w.heap.size)) ∧ ScAt w' w.heap.size n sc ∧ Below w.heap.size w w' := by
  obtain ⟨D, ⟨es, clock, hb, F, hsz, hD⟩, h2⟩ := hS
  have hq := fun w => run_eql_map_nil_sl (P := Tryz.prog) w 97 _ _ (some b) Tryz.underlying97
  have HP : Hid (ScAt (w.alloc (.map es clock)) w.heap.size n sc) := ⟨D, ⟨es, clock, (MapKept.heap_alloc w _).1, F, hsz, hD⟩, h2⟩
  have HH := Lib.hid hb
  clear hb F hsz hD h2
  go_enter Tryz.func106, Tryz.ntmps106
  go_wp2_with fail
  rw [run_callFunc_extern Tryz.func133 (by kernel_rfl) (by kernel_rfl) (by kernel_rfl) (e := Extern.MapsClone.clone) (by kernel_rfl), run_maps_clone_sl w 97 HH.out]
  simp only [Result.andThen]
  rw [Oper.upon_value]
  go_wp2_with fail
  rw [run_typeAssert_map_sl _ 97 20 _ _ _ Tryz.underlying97]
  simp only [Result.andThen]
  rw [Oper.upon_value]
  go_wp2_with fail
  go_ret
  exact ⟨rfl, HP.out, (Below.refl _ w).alloc (Nat.le_refl _) _⟩
end Go.Proofs.YtokdclmikllepaaGreatDoor
namespace Go.Proofs.YtokdclmikllepaaGreatDoor
open Go.RowKit Go.Maps
set_option linter.unusedVariables false
set_option linter.unusedSimpArgs false

/-! ### spaces.scope.with -/
theorem badA_eq {a : Sp.EA} {dp cp cl : List UInt8} {db cb : Bool} (hd : Sp.declares a.name = (dp, db)) (hc : Sp.cut a.name = (cp, cl, cb)) :
    Sp.badA a = (!cb || (db && (decide (dp = Sp.xmlnsB) || decide (dp = Sp.xmlB))) || (db && decide (dp ≠ []) && decide (a.value = []))) := by
  unfold Sp.badA
  rw [hd, hc]
theorem withS_bad {a : Sp.EA} {s : Sp.Sc} {t : List Sp.EA} (h : Sp.badA a = true) : Sp.withS s (a :: t) = .error (a.at_, 101) := by
  rw [Sp.withS, if_pos h]
theorem withS_put {a : Sp.EA} {s : Sp.Sc} {t : List Sp.EA} {dp : List UInt8} (h : Sp.badA a = false) (hd : Sp.declares a.name = (dp, true)) : Sp.withS s (a :: t) = Sp.withS ((dp, a.value) :: s) t := by
  rw [Sp.withS, if_neg (by rw [h]; exact Bool.false_ne_true), hd, if_pos rfl]
theorem withS_skip {a : Sp.EA} {s : Sp.Sc} {t : List Sp.EA} {dp : List UInt8} (h : Sp.badA a = false) (hd : Sp.declares a.name = (dp, false)) : Sp.withS s (a :: t) = Sp.withS s t := by
  rw [Sp.withS, if_neg (by rw [h]; exact Bool.false_ne_true), hd, if_neg Bool.false_ne_true]
def NB (a : Sp.EA) : Prop := a.name.length ≤ 1152921504606846976 ∧ a.value.length ≤ 1152921504606846976
def WithEnd (R : Except Sp.FltI Sp.Sc) (m : Nat) (w : World) (e : Ending) (w' : World) : Prop := Below w.heap.size w w' ∧
  match R with
  | .ok sc => e = .returned (.tuple #[.map (some w.heap.size), .int .i64 0, .int .i64 0]) ∧ ScAt w' w.heap.size m sc
  | .error f => e = .returned (.tuple #[.map none, .int .i64 f.1, .int .i64 (f.2 : Int)])

set_option maxHeartbeats 16000000 in
set_option maxRecDepth 100000 in
theorem with_calls (w : World) (b n0 : Nat) (sc : Sp.Sc) (hS : ScAt w b n0 sc) (v : Value) (l : List Sp.EA) (h : AtsR w v l) (hl : l.length ≤ 1000000) (hn0 : n0 ≤ 1000000000000) (hnb : ∀ a ∈ l, NB a) (R : Except Sp.FltI Sp.Sc) (hR : Sp.withS sc l = R) :
    Calls Tryz.prog 65 #[.map (some b), v] w (WithEnd R (n0 + l.length) w) := by
  obtain ⟨n, hn⟩ : ∃ n, l.length = n := ⟨_, rfl⟩
  obtain ⟨a1, c1, rfl, hc1⟩ := h.cells
  rw [hn] at hl hc1 ⊢
  have HN := Lib.hid hn
  have HNB := Lib.hid hnb
  have HS := Lib.hid hS
  have HR0 : Hid (Sp.withS sc (l.drop 0) = R) := hR
  have hmx : maxLen = 9223372036854775807 := rfl
  have HMX := Lib.hid hmx
  by_cases h0 : n = 0
  · have hl0 : l = [] := List.eq_nil_of_length_eq_zero (by omega)
    subst hl0 h0
    have hR2 : R = .ok sc := hR.symm
    subst hR2
    clear hc1 hn hnb hS hR hl h HR0 hmx
    go_enter Tryz.func65, Tryz.ntmps65
    go_wp2_with (go_at_call 106; go_must (refine (clone_calls _ b n0 sc HS.out).mono ?_); rintro e w1 ⟨rfl, hs1, hb1⟩; have HS1 := Lib.hid hs1; have HB1 := Lib.hid hb1; clear hs1 hb1)
    refine wp_loop_rounds 1 ?_
    rw [rounds_succ]
    go_wp2_with fail
    go_ret3
    exact ⟨HB1.out, rfl, HS1.out⟩
  · obtain ⟨g1, o1, rfl, hg1, hc1⟩ := hc1 (by omega)
    have HC := Lib.hid hc1
    clear hc1 h0 hn hnb hS hR h hmx
    go_enter Tryz.func65, Tryz.ntmps65
    go_wp2_with (go_at_call 106; go_must (refine (clone_calls _ b n0 sc HS.out).mono ?_); rintro e w1 ⟨rfl, hs1, hb1⟩; have HS1 := Lib.hid hs1; have HB1 := Lib.hid hb1; clear hs1 hb1)
    go_loopg [19] (n + 1) (fun k i wr => ∃ (j : Nat) (s : Sp.Sc), i = .int .i64 j ∧ j ≤ n ∧ n - j < k ∧ Hid (ScAt wr w.heap.size (n0 + j) s) ∧ Hid (Sp.withS s (l.drop j) = R) ∧ Hid (Below w.heap.size w wr))
    case atStart => exact ⟨0, sc, rfl, Nat.zero_le _, by omega, HS1, HR0, HB1⟩
    case round =>
      clear HS1 HB1 HR0
      obtain ⟨j, s, rfl, hj, hk, HO, HR, HB⟩ := hrel
      by_cases hlt : j < n
      · have hd : decide ((j : Int) < n) = true := by simp; omega
        have hj0 : (0 : Int) ≤ j := by omega
        have hj1 : (j : Int) < n := by omega
        have hdr : l.drop j = l[j]'(by rw [HN.out]; exact hlt) :: l.drop (j + 1) := List.drop_eq_getElem_cons _
        obtain ⟨x, hx⟩ : ∃ x, l[j]'(by rw [HN.out]; exact hlt) = x := ⟨_, rfl⟩
        rw [hx] at hdr
        have hxg : l[j]? = some x := by rw [List.getElem?_eq_getElem (by rw [HN.out]; exact hlt), hx]
        obtain ⟨y0, y1, y2⟩ := HC.out j x hxg wr HB.out
        obtain ⟨hnx1, hnx2⟩ := HNB.out x (List.mem_of_getElem? hxg)
        obtain ⟨nm, hnm⟩ : ∃ nm : ByteArray, (⟨x.name.toArray⟩ : ByteArray) = nm := ⟨_, rfl⟩
        obtain ⟨vl, hvl⟩ : ∃ vl : ByteArray, (⟨x.value.toArray⟩ : ByteArray) = vl := ⟨_, rfl⟩
        rw [hnm] at y0
        rw [hvl] at y1
        obtain ⟨hnms, hnmL⟩ := sz_of hnm
        obtain ⟨hvls, hvlL⟩ := sz_of hvl
        obtain ⟨dp, db, hD⟩ : ∃ dp db, Sp.declares x.name = (dp, db) := ⟨_, _, rfl⟩
        obtain ⟨cp, cl, cb, hC⟩ : ∃ cp cl cb, Sp.cut x.name = (cp, cl, cb) := ⟨_, _, _, rfl⟩
        have hbad := badA_eq hD hC
        have hRx := HR.out
        rw [hdr] at hRx
        have hdpl := decl_len x.name
        rw [hD] at hdpl
        have hdpm : dp.length ≤ maxLen := by rw [HMX.out]; simp only at hdpl; omega
        have hvlm : vl.size ≤ maxLen := by rw [HMX.out]; omega
        have hnm9 : nm.size ≤ 9223372036854775807 := by omega
        have hD1 := hD
        have hC1 := hC
        rw [← hnmL] at hD1 hC1
        have HD := Lib.hid hD1
        have HCU := Lib.hid hC1
        have HRX := Lib.hid hRx
        have HBAD := Lib.hid hbad
        have HDX := Lib.hid hD
        have HDPM := Lib.hid hdpm
        have HVLM := Lib.hid hvlm
        have HNM9 := Lib.hid hnm9
        have HVLL := Lib.hid hvlL
        clear hdr hx hxg hnm hvl hnmL hnms hvls hvlL hD hC hbad hRx hdpl hdpm hvlm hnm9 hD1 hC1 hnx1 hnx2
        go_upto_region 5 with fail
        have zz := heap_alloc_new wr (.cells #[.string nm, .string vl, .int .i64 x.at_] 42)
        have hbA : Below w.heap.size w (wr.alloc (.cells #[.string nm, .string vl, .int .i64 x.at_] 42)) := HB.out.alloc HB.out.size _
        have hsA : ScAt (wr.alloc (.cells #[.string nm, .string vl, .int .i64 x.at_] 42)) w.heap.size (n0 + j) s := HO.out.below ((Below.refl _ _).alloc (Nat.le_refl _) _)
        have hltA : wr.heap.size < (wr.alloc (.cells #[.string nm, .string vl, .int .i64 x.at_] 42)).heap.size := by rw [sz_alloc]; omega
        have z0 : (wr.alloc (.cells #[.string nm, .string vl, .int .i64 x.at_] 42)).cell? ⟨wr.heap.size, 0, none⟩ = some (.string nm) := cell_of_row _ _ 0 _ _ _ zz
        generalize wr.alloc (.cells #[.string nm, .string vl, .int .i64 x.at_] 42) = wa at zz hbA hsA hltA z0 ⊢
        have HZZ := Lib.hid zz
        have HBA := Lib.hid hbA
        have HSA := Lib.hid hsA
        have HLA := Lib.hid hltA
        clear zz hbA hsA hltA y0 y1 y2
        cases cb with
        | false =>
          have HBD : Hid (Sp.badA x = true) := by show _ = _; rw [HBAD.out]; rfl
          go_wp2_with (first
            | (go_at_call 107; go_must (refine (sdecl_calls nm _ dp db HD.out).mono ?_); rintro e w1 ⟨⟨p, rfl, hpL⟩, hb1⟩; have zz1 := (hb1.block _ HLA.out).trans HZZ.out; have hl1 := Nat.lt_of_lt_of_le HLA.out hb1.size; clear z0; have z0 : w1.cell? ⟨wr.heap.size, 0, none⟩ = some (.string nm) := cell_of_row _ _ 0 _ _ _ zz1; have HZ1 := Lib.hid zz1; have HL1 := Lib.hid hl1; have HB1 := Lib.hid (below_then HBA.out hb1); have HS1 := Lib.hid (HSA.out.below hb1);  have HPL := Lib.hid hpL; clear hb1 zz1 hl1 hpL)
            | (go_at_call 64; go_must (refine (scut_calls nm _ HNM9.out cp cl false HCU.out).mono ?_); rintro e w2 ⟨⟨q, lq, rfl, -, -⟩, hb2⟩; have zz2 := (hb2.block _ HL1.out).trans HZ1.out; clear z0; have z1 : w2.cell? ⟨wr.heap.size, 1, none⟩ = some (.string vl) := cell_of_row _ _ 1 _ _ _ zz2; have z2 : w2.cell? ⟨wr.heap.size, 2, none⟩ = some (.int .i64 x.at_) := cell_of_row _ _ 2 _ _ _ zz2; have HB2 := Lib.hid (below_then HB1.out hb2); have HS2 := Lib.hid (HS1.out.below hb2); clear hb2 zz2))
          go_quiet (fail)
          go_wp2_with fail
          go_ret3
          have hR := HRX.out
          rw [withS_bad HBD.out] at hR
          subst hR
          exact ⟨below_drewN HB2.out _, rfl⟩
        | true =>
          cases db with
          | false =>
            have HBD : Hid (Sp.badA x = false) := by show _ = _; rw [HBAD.out]; rfl
            go_wp2_with (first
              | (go_at_call 107; go_must (refine (sdecl_calls nm _ dp false HD.out).mono ?_); rintro e w1 ⟨⟨p, rfl, hpL⟩, hb1⟩; have zz1 := (hb1.block _ HLA.out).trans HZZ.out; have hl1 := Nat.lt_of_lt_of_le HLA.out hb1.size; clear z0; have z0 : w1.cell? ⟨wr.heap.size, 0, none⟩ = some (.string nm) := cell_of_row _ _ 0 _ _ _ zz1; have HZ1 := Lib.hid zz1; have HL1 := Lib.hid hl1; have HB1 := Lib.hid (below_then HBA.out hb1); have HS1 := Lib.hid (HSA.out.below hb1);  have HPL := Lib.hid hpL; clear hb1 zz1 hl1 hpL)
              | (go_at_call 64; go_must (refine (scut_calls nm _ HNM9.out cp cl true HCU.out).mono ?_); rintro e w2 ⟨⟨q, lq, rfl, -, -⟩, hb2⟩; have zz2 := (hb2.block _ HL1.out).trans HZ1.out; clear z0; have z1 : w2.cell? ⟨wr.heap.size, 1, none⟩ = some (.string vl) := cell_of_row _ _ 1 _ _ _ zz2; have z2 : w2.cell? ⟨wr.heap.size, 2, none⟩ = some (.int .i64 x.at_) := cell_of_row _ _ 2 _ _ _ zz2; have HB2 := Lib.hid (below_then HB1.out hb2); have HS2 := Lib.hid (HS1.out.below hb2); clear hb2 zz2))
            go_roundg (gk - 1)
            case measure => omega
            case rel =>
              have hR := HRX.out
              rw [withS_skip HBD.out HDX.out] at hR
              exact ⟨j + 1, _, by simp, by omega, by omega, HS2.out.mono (by omega), hR, HB2.out⟩
          | true =>
            by_cases h1 : dp = Sp.xmlnsB
            · have HBD : Hid (Sp.badA x = true) := by show _ = _; rw [HBAD.out]; simp [h1]
              have Hf1 : Hid ((dp == [120, 109, 108, 110, 115]) = true) := by show _ = _; rw [h1]; rfl
              clear h1
              go_wp2_with (first
                | (go_at_call 107; go_must (refine (sdecl_calls nm _ dp true HD.out).mono ?_); rintro e w1 ⟨⟨p, rfl, hpL⟩, hb1⟩; have zz1 := (hb1.block _ HLA.out).trans HZZ.out; have hl1 := Nat.lt_of_lt_of_le HLA.out hb1.size; clear z0; have z0 : w1.cell? ⟨wr.heap.size, 0, none⟩ = some (.string nm) := cell_of_row _ _ 0 _ _ _ zz1; have HZ1 := Lib.hid zz1; have HL1 := Lib.hid hl1; have HB1 := Lib.hid (below_then HBA.out hb1); have HS1 := Lib.hid (HSA.out.below hb1); (have f1 : (p.toList == [120, 109, 108, 110, 115]) = true := by (rw [toList_L, hpL]; exact Hf1.out));  have HPL := Lib.hid hpL; clear hb1 zz1 hl1 hpL)
                | (go_at_call 64; go_must (refine (scut_calls nm _ HNM9.out cp cl true HCU.out).mono ?_); rintro e w2 ⟨⟨q, lq, rfl, -, -⟩, hb2⟩; have zz2 := (hb2.block _ HL1.out).trans HZ1.out; clear z0; have z1 : w2.cell? ⟨wr.heap.size, 1, none⟩ = some (.string vl) := cell_of_row _ _ 1 _ _ _ zz2; have z2 : w2.cell? ⟨wr.heap.size, 2, none⟩ = some (.int .i64 x.at_) := cell_of_row _ _ 2 _ _ _ zz2; have HB2 := Lib.hid (below_then HB1.out hb2); have HS2 := Lib.hid (HS1.out.below hb2); clear hb2 zz2))
              go_quiet (fail)
              go_wp2_with fail
              go_ret3
              have hR := HRX.out
              rw [withS_bad HBD.out] at hR
              subst hR
              exact ⟨below_drewN HB2.out _, rfl⟩
            · have Hf1 : Hid ((dp == [120, 109, 108, 110, 115]) = false) := by show _ = _; rw [beq_eq_false_iff_ne]; exact h1
              by_cases h2 : dp = Sp.xmlB
              · have HBD : Hid (Sp.badA x = true) := by show _ = _; rw [HBAD.out]; simp [h2]
                have Hf2 : Hid ((dp == [120, 109, 108]) = true) := by show _ = _; rw [h2]; rfl
                clear h1 h2
                go_wp2_with (first
                  | (go_at_call 107; go_must (refine (sdecl_calls nm _ dp true HD.out).mono ?_); rintro e w1 ⟨⟨p, rfl, hpL⟩, hb1⟩; have zz1 := (hb1.block _ HLA.out).trans HZZ.out; have hl1 := Nat.lt_of_lt_of_le HLA.out hb1.size; clear z0; have z0 : w1.cell? ⟨wr.heap.size, 0, none⟩ = some (.string nm) := cell_of_row _ _ 0 _ _ _ zz1; have HZ1 := Lib.hid zz1; have HL1 := Lib.hid hl1; have HB1 := Lib.hid (below_then HBA.out hb1); have HS1 := Lib.hid (HSA.out.below hb1); (have f1 : (p.toList == [120, 109, 108, 110, 115]) = false := by (rw [toList_L, hpL]; exact Hf1.out)); (have f2 : (p.toList == [120, 109, 108]) = true := by (rw [toList_L, hpL]; exact Hf2.out));  have HPL := Lib.hid hpL; clear hb1 zz1 hl1 hpL)
                  | (go_at_call 64; go_must (refine (scut_calls nm _ HNM9.out cp cl true HCU.out).mono ?_); rintro e w2 ⟨⟨q, lq, rfl, -, -⟩, hb2⟩; have zz2 := (hb2.block _ HL1.out).trans HZ1.out; clear z0; have z1 : w2.cell? ⟨wr.heap.size, 1, none⟩ = some (.string vl) := cell_of_row _ _ 1 _ _ _ zz2; have z2 : w2.cell? ⟨wr.heap.size, 2, none⟩ = some (.int .i64 x.at_) := cell_of_row _ _ 2 _ _ _ zz2; have HB2 := Lib.hid (below_then HB1.out hb2); have HS2 := Lib.hid (HS1.out.below hb2); clear hb2 zz2))
                go_quiet (fail)
                go_wp2_with fail
                go_ret3
                have hR := HRX.out
                rw [withS_bad HBD.out] at hR
                subst hR
                exact ⟨below_drewN HB2.out _, rfl⟩
              · have Hf2 : Hid ((dp == [120, 109, 108]) = false) := by show _ = _; rw [beq_eq_false_iff_ne]; exact h2
                by_cases h3 : dp = []
                · have HBD : Hid (Sp.badA x = false) := by show _ = _; rw [HBAD.out]; simp [h3, Sp.xmlnsB, Sp.xmlB]
                  have Hf3 : Hid (decide (dp = []) = true) := by show _ = _; simp [h3]
                  clear h1 h2 h3
                  go_wp2_with (first
                    | (go_at_call 107; go_must (refine (sdecl_calls nm _ dp true HD.out).mono ?_); rintro e w1 ⟨⟨p, rfl, hpL⟩, hb1⟩; have zz1 := (hb1.block _ HLA.out).trans HZZ.out; have hl1 := Nat.lt_of_lt_of_le HLA.out hb1.size; clear z0; have z0 : w1.cell? ⟨wr.heap.size, 0, none⟩ = some (.string nm) := cell_of_row _ _ 0 _ _ _ zz1; have HZ1 := Lib.hid zz1; have HL1 := Lib.hid hl1; have HB1 := Lib.hid (below_then HBA.out hb1); have HS1 := Lib.hid (HSA.out.below hb1); (have f1 : (p.toList == [120, 109, 108, 110, 115]) = false := by (rw [toList_L, hpL]; exact Hf1.out)); (have f2 : (p.toList == [120, 109, 108]) = false := by (rw [toList_L, hpL]; exact Hf2.out)); (have f3 : p.toList.isEmpty = true := by (rw [empt, hpL]; exact Hf3.out));  have HPL := Lib.hid hpL; clear hb1 zz1 hl1 hpL)
                    | (go_at_call 64; go_must (refine (scut_calls nm _ HNM9.out cp cl true HCU.out).mono ?_); rintro e w2 ⟨⟨q, lq, rfl, -, -⟩, hb2⟩; have zz2 := (hb2.block _ HL1.out).trans HZ1.out; clear z0; have z1 : w2.cell? ⟨wr.heap.size, 1, none⟩ = some (.string vl) := cell_of_row _ _ 1 _ _ _ zz2; have z2 : w2.cell? ⟨wr.heap.size, 2, none⟩ = some (.int .i64 x.at_) := cell_of_row _ _ 2 _ _ _ zz2; have HB2 := Lib.hid (below_then HB1.out hb2); have HS2 := Lib.hid (HS1.out.below hb2); clear hb2 zz2)
                    | (at_mapUpdate; refine wpList_putSc _ rfl _ _ _ 97 rfl Tryz.underlying97 w.heap.size (n0 + j) s rfl HS2.out (by rw [HMX.out]; omega) p vl rfl rfl (by rw [← L_length, HPL.out]; exact HDPM.out) HVLM.out ?_; intro w3 hs3 hg3; have HS3 := Lib.hid hs3; have HG3 := Lib.hid hg3; clear hs3 hg3))
                  go_roundg (gk - 1)
                  case measure => omega
                  case rel =>
                    have hR := HRX.out
                    rw [withS_put HBD.out HDX.out, ← HPL.out, ← HVLL.out] at hR
                    exact ⟨j + 1, _, by simp, by omega, by omega, HS3.out, hR, HB2.out.grown HG3.out HB2.out.size (fun j hj => by cases hj; exact Nat.le_refl _)⟩
                · have Hf3 : Hid (decide (dp = []) = false) := by show _ = _; simp [h3]
                  by_cases h4 : x.value = []
                  · have HBD : Hid (Sp.badA x = true) := by show _ = _; rw [HBAD.out]; simp [h3, h4]
                    have hvz : vl.toList.isEmpty = true := by rw [empt, HVLL.out]; simp [h4]
                    clear h1 h2 h3 h4
                    go_wp2_with (first
                      | (go_at_call 107; go_must (refine (sdecl_calls nm _ dp true HD.out).mono ?_); rintro e w1 ⟨⟨p, rfl, hpL⟩, hb1⟩; have zz1 := (hb1.block _ HLA.out).trans HZZ.out; have hl1 := Nat.lt_of_lt_of_le HLA.out hb1.size; clear z0; have z0 : w1.cell? ⟨wr.heap.size, 0, none⟩ = some (.string nm) := cell_of_row _ _ 0 _ _ _ zz1; have HZ1 := Lib.hid zz1; have HL1 := Lib.hid hl1; have HB1 := Lib.hid (below_then HBA.out hb1); have HS1 := Lib.hid (HSA.out.below hb1); (have f1 : (p.toList == [120, 109, 108, 110, 115]) = false := by (rw [toList_L, hpL]; exact Hf1.out)); (have f2 : (p.toList == [120, 109, 108]) = false := by (rw [toList_L, hpL]; exact Hf2.out)); (have f3 : p.toList.isEmpty = false := by (rw [empt, hpL]; exact Hf3.out));  have HPL := Lib.hid hpL; clear hb1 zz1 hl1 hpL)
                      | (go_at_call 64; go_must (refine (scut_calls nm _ HNM9.out cp cl true HCU.out).mono ?_); rintro e w2 ⟨⟨q, lq, rfl, -, -⟩, hb2⟩; have zz2 := (hb2.block _ HL1.out).trans HZ1.out; clear z0; have z1 : w2.cell? ⟨wr.heap.size, 1, none⟩ = some (.string vl) := cell_of_row _ _ 1 _ _ _ zz2; have z2 : w2.cell? ⟨wr.heap.size, 2, none⟩ = some (.int .i64 x.at_) := cell_of_row _ _ 2 _ _ _ zz2; have HB2 := Lib.hid (below_then HB1.out hb2); have HS2 := Lib.hid (HS1.out.below hb2); clear hb2 zz2))
                    go_quiet (fail)
                    go_wp2_with fail
                    go_ret3
                    have hR := HRX.out
                    rw [withS_bad HBD.out] at hR
                    subst hR
                    exact ⟨below_drewN HB2.out _, rfl⟩
                  · have HBD : Hid (Sp.badA x = false) := by show _ = _; rw [HBAD.out]; simp [h1, h2, h4]
                    have hvz : vl.toList.isEmpty = false := by rw [empt, HVLL.out]; simp [h4]
                    clear h1 h2 h3 h4
                    go_wp2_with (first
                      | (go_at_call 107; go_must (refine (sdecl_calls nm _ dp true HD.out).mono ?_); rintro e w1 ⟨⟨p, rfl, hpL⟩, hb1⟩; have zz1 := (hb1.block _ HLA.out).trans HZZ.out; have hl1 := Nat.lt_of_lt_of_le HLA.out hb1.size; clear z0; have z0 : w1.cell? ⟨wr.heap.size, 0, none⟩ = some (.string nm) := cell_of_row _ _ 0 _ _ _ zz1; have HZ1 := Lib.hid zz1; have HL1 := Lib.hid hl1; have HB1 := Lib.hid (below_then HBA.out hb1); have HS1 := Lib.hid (HSA.out.below hb1); (have f1 : (p.toList == [120, 109, 108, 110, 115]) = false := by (rw [toList_L, hpL]; exact Hf1.out)); (have f2 : (p.toList == [120, 109, 108]) = false := by (rw [toList_L, hpL]; exact Hf2.out)); (have f3 : p.toList.isEmpty = false := by (rw [empt, hpL]; exact Hf3.out));  have HPL := Lib.hid hpL; clear hb1 zz1 hl1 hpL)
                      | (go_at_call 64; go_must (refine (scut_calls nm _ HNM9.out cp cl true HCU.out).mono ?_); rintro e w2 ⟨⟨q, lq, rfl, -, -⟩, hb2⟩; have zz2 := (hb2.block _ HL1.out).trans HZ1.out; clear z0; have z1 : w2.cell? ⟨wr.heap.size, 1, none⟩ = some (.string vl) := cell_of_row _ _ 1 _ _ _ zz2; have z2 : w2.cell? ⟨wr.heap.size, 2, none⟩ = some (.int .i64 x.at_) := cell_of_row _ _ 2 _ _ _ zz2; have HB2 := Lib.hid (below_then HB1.out hb2); have HS2 := Lib.hid (HS1.out.below hb2); clear hb2 zz2)
                      | (at_mapUpdate; refine wpList_putSc _ rfl _ _ _ 97 rfl Tryz.underlying97 w.heap.size (n0 + j) s rfl HS2.out (by rw [HMX.out]; omega) p vl rfl rfl (by rw [← L_length, HPL.out]; exact HDPM.out) HVLM.out ?_; intro w3 hs3 hg3; have HS3 := Lib.hid hs3; have HG3 := Lib.hid hg3; clear hs3 hg3))
                    go_roundg (gk - 1)
                    case measure => omega
                    case rel =>
                      have hR := HRX.out
                      rw [withS_put HBD.out HDX.out, ← HPL.out, ← HVLL.out] at hR
                      exact ⟨j + 1, _, by simp, by omega, by omega, HS3.out, hR, HB2.out.grown HG3.out HB2.out.size (fun j hj => by cases hj; exact Nat.le_refl _)⟩
      · have hj' : j = n := by omega
        subst hj'
        have hd : decide ((j : Int) < j) = false := by simp
        go_wp2_with fail
        go_ret3
        have hR := HR.out
        rw [List.drop_eq_nil_of_le (by rw [HN.out]; exact Nat.le_refl _)] at hR
        subst hR
        exact ⟨HB.out, rfl, HO.out⟩
end Go.Proofs.YtokdclmikllepaaGreatDoor
