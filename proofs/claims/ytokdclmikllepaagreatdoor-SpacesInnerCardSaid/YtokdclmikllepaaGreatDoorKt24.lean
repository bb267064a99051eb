import Derived.Maps.OwnOps
import Derived.Test.YtokdclmikllepaaGreatDoorKt0
import Derived.Test.YtokdclmikllepaaGreatDoorKt23
import Derived.Maps.OwnSet
namespace Go.Proofs.YtokdclmikllepaaGreatDoor
open Go Go.Maps
set_option linter.unusedVariables false

theorem plainElem_bool_inv {H : Type} {P : Program} {e : TypeId} (he : P.underlying e = some .bool) {v : Value} {z : DataW H × List MemPlace} (h : plainElem P e v = some z) : ∃ a, v = .bool a ∧ z = (.lit (.bool a), []) := by
  unfold plainElem at h
  rw [he] at h
  cases v <;> simp at h
  rename_i a
  exact ⟨a, rfl, h.symm⟩
theorem ownsMap_lookup_bool {H : Type} {P : Program} {w : World} {k : TypeId} {b n : Nat} {D : DataW H} {t e : TypeId} (h : w.ownsMap P k (plainElem P e) b n D) (K : Keyed P k) (ht : P.underlying t = some (.map k e)) (he : P.underlying e = some .bool) (hz : (zeroValue e).run P w = .ok (.bool false) w)
    {key : Value} {kl : Lit} (hkey : keyOf P k key = some kl) : ∃ c, (Instr.lookup t (.map (some b)) key false).run P w = .ok (.bool c) w ∧ D.atKey kl (.lit (.bool false)) = .lit (.bool c) := by
  obtain ⟨v, ps, hrun, hv⟩ := h.lookup K ht hz (plainElem_bool he false) hkey
  obtain ⟨c, rfl, hc⟩ := plainElem_bool_inv he hv
  simp only [Prod.mk.injEq] at hc
  exact ⟨c, hrun, hc.1⟩
/-- 'm[k]' (without 'ok') at elements that are bools. -/
theorem wpList_lookup_own_bool {H : Type} {P : Program} (w : World) {ops : Array Oper} {rest : List Oper} {o : Oper} {a : Act} {Q : Exit → Act → World → Prop}
    (hg : o.guard = none) (m x : Operand) (t : TypeId) (hop : o.op = Op.lookup t m x false)
    (k e : TypeId) (K : Keyed P k) (ht : P.underlying t = some (.map k e)) (he : P.underlying e = some .bool) (hz : (zeroValue e).run P w = .ok (.bool false) w) (b n : Nat) (D : DataW H)
    (hm : a.eval m = .map (some b)) (hown : w.ownsMap P k (plainElem P e) b n D) (key : Value) (kl : Lit) (hx : a.eval x = key) (hkey : keyOf P k key = some kl)
    (hK : ∀ c : Bool, D.atKey kl (.lit (.bool false)) = .lit (.bool c) → wpList P ops Q rest (a.put o.dst (.bool c)) w) :
    wpList P ops Q (o :: rest) a w := by
  refine wpList_plain hg fun K' hK' => ?_
  obtain ⟨c, hrun, hat⟩ := ownsMap_lookup_bool hown K ht he hz hkey
  unfold Oper.wp
  simp [execOp, hop, hm, hx, hrun, Result.andThen]
  exact hK' _ _ (hK c hat)
end Go.Proofs.YtokdclmikllepaaGreatDoor
namespace Go.Proofs.YtokdclmikllepaaGreatDoor
open Go.RowKit Go.Maps
set_option linter.unusedVariables false
set_option linter.unusedSimpArgs false

def eaCells (a : Sp.EA) : List Value := [.string ⟨a.name.toArray⟩, .string ⟨a.value.toArray⟩, .int .i64 a.at_]
def eeCells (x : Sp.EE) (av : Value) : List Value := [.string ⟨x.name.toArray⟩, av, .string ⟨x.text.toArray⟩, .int .i64 x.up, .int .i64 x.at_]
/-- Attributes that the call owns from block B on. -/
def EasAt (B : Nat) (w : World) (v : Value) (l : List Sp.EA) : Prop := w.ownsRow B 42 3 v l.length (l.flatMap eaCells)
theorem AtsAt.eas {B : Nat} {w : World} {v : Value} {l : List Sp.At} (h : AtsAt B w v l) : EasAt B w v (l.map Sp.At.ea) := by
  unfold EasAt
  rw [List.length_map, List.flatMap_map]
  exact h
/-- Attributes as they are read. -/
def AtsR (w : World) (v : Value) (l : List Sp.EA) : Prop := ∃ a c, v = .slice a l.length c ∧ (0 < l.length → ∃ g o, a = some ⟨g, o, none⟩ ∧ g < w.heap.size ∧ ∀ i x, l[i]? = some x →
  w.cell? ⟨g, o + i * 3, none⟩ = some (.string ⟨x.name.toArray⟩) ∧ w.cell? ⟨g, o + i * 3 + 1, none⟩ = some (.string ⟨x.value.toArray⟩) ∧ w.cell? ⟨g, o + i * 3 + 2, none⟩ = some (.int .i64 x.at_))
theorem AtsR.below {w w' : World} {v : Value} {l : List Sp.EA} (h : AtsR w v l) (hb : Below w.heap.size w w') : AtsR w' v l := by
  obtain ⟨a, c, rfl, hc⟩ := h
  refine ⟨a, c, rfl, fun hl => ?_⟩
  obtain ⟨g, o, rfl, hg, h2⟩ := hc hl
  refine ⟨g, o, rfl, Nat.lt_of_lt_of_le hg hb.size, fun i x hx => ?_⟩
  have e : ∀ j, w'.cell? ⟨g, j, none⟩ = w.cell? ⟨g, j, none⟩ := fun j => World.cell?_of_block (hb.block g hg)
  simp only [e]
  exact h2 i x hx
theorem EasAt.toR {B : Nat} {w : World} {v : Value} {l : List Sp.EA} (h : EasAt B w v l) : AtsR w v l := by
  by_cases h0 : l.length = 0
  · rcases h.2 with ⟨rfl, _⟩ | ⟨q, cap, cur, rfl, _⟩
    · exact ⟨none, 0, by rw [h0], fun h => by omega⟩
    · exact ⟨_, cap, rfl, fun h => by omega⟩
  · obtain ⟨g, cap, rfl, hb, hlt, hc⟩ := ownsRow_cells h (by omega)
    refine ⟨_, _, rfl, fun _ => ⟨g, 0, rfl, hlt, fun i a ha => ?_⟩⟩
    have hf := fun k hk => flat_get eaCells 3 (fun _ => rfl) l i k hk
    rw [Nat.zero_add]
    refine ⟨hc _ _ ?_, hc _ _ ?_, hc _ _ ?_⟩
    · rw [show i * 3 = i * 3 + 0 from rfl, hf 0 (by omega), ha]; rfl
    · rw [hf 1 (by omega), ha]; rfl
    · rw [hf 2 (by omega), ha]; rfl
/-- Elements as they are read. -/
def ElsR (w : World) (v : Value) (l : List Sp.EE) : Prop := ∃ a c, v = .slice a l.length c ∧ (0 < l.length → ∃ g o, a = some ⟨g, o, none⟩ ∧ g < w.heap.size ∧ ∀ i x, l[i]? = some x → ∃ av, AtsR w av x.attrs ∧
  w.cell? ⟨g, o + i * 5, none⟩ = some (.string ⟨x.name.toArray⟩) ∧ w.cell? ⟨g, o + i * 5 + 1, none⟩ = some av ∧ w.cell? ⟨g, o + i * 5 + 2, none⟩ = some (.string ⟨x.text.toArray⟩) ∧
  w.cell? ⟨g, o + i * 5 + 3, none⟩ = some (.int .i64 x.up) ∧ w.cell? ⟨g, o + i * 5 + 4, none⟩ = some (.int .i64 x.at_))
theorem ElsR.below {w w' : World} {v : Value} {l : List Sp.EE} (h : ElsR w v l) (hb : Below w.heap.size w w') : ElsR w' v l := by
  obtain ⟨a, c, rfl, hc⟩ := h
  refine ⟨a, c, rfl, fun hl => ?_⟩
  obtain ⟨g, o, rfl, hg, h2⟩ := hc hl
  refine ⟨g, o, rfl, Nat.lt_of_lt_of_le hg hb.size, fun i x hx => ?_⟩
  have e : ∀ j, w'.cell? ⟨g, j, none⟩ = w.cell? ⟨g, j, none⟩ := fun j => World.cell?_of_block (hb.block g hg)
  obtain ⟨av, h3, h4⟩ := h2 i x hx
  simp only [e]
  exact ⟨av, h3.below hb, h4⟩

def twI : Option Nat → Int
  | some i => (i : Int)
  | none => -1
theorem keyStr : Keyed Tryz.prog 9 := string_keyed Tryz.underlying9
theorem zeroBool (w : World) : (zeroValue 4).run Tryz.prog w = .ok (.bool false) w := by kernel_rfl
/-- The map holds just the names that were met. -/
def Met (D : DataW Unit) (seen : List (List UInt8)) : Prop := ∀ t : List UInt8, D.atKey (.string t) (.lit (.bool false)) = .lit (.bool (seen.contains t))
theorem met_nil : Met (.map []) [] := fun t => rfl
theorem met_put {D : DataW Unit} {seen : List (List UInt8)} (h : Met D seen) (hD : IsMap D) (t : List UInt8) : Met (D.put (.string t) (.lit (.bool true))) (t :: seen) := by
  intro u
  by_cases hu : u = t
  · subst hu
    rw [atKey_put_same (k := .string u) hD trivial]
    simp
  · rw [atKey_put_other (by intro e; injection e with e; exact hu e), h u]
    simp [List.contains_cons, hu]
end Go.Proofs.YtokdclmikllepaaGreatDoor
namespace Go.Proofs.YtokdclmikllepaaGreatDoor
open Go.RowKit Go.Maps
set_option linter.unusedVariables false
set_option linter.unusedSimpArgs false

theorem twiceN_cons (seen : List (List UInt8)) (i : Nat) (a : Sp.EA) (t : List Sp.EA) : Sp.twiceN seen i (a :: t) = if seen.contains a.name = true then some i else Sp.twiceN (a.name :: seen) (i + 1) t := rfl
set_option maxHeartbeats 4000000 in
set_option maxRecDepth 100000 in
theorem twice_calls (w : World) (v : Value) (l : List Sp.EA) (h : AtsR w v l) (hl : l.length ≤ 100000) (hn : ∀ a ∈ l, a.name.length ≤ 140737488351232) :
    Calls Tryz.prog 109 #[v] w fun e w' => e = .returned (.int .i64 (twI (Sp.twice l))) ∧ Below w.heap.size w w' := by
  obtain ⟨a, c, rfl, hc⟩ := h
  obtain ⟨n, hln⟩ : ∃ n, l.length = n := ⟨_, rfl⟩
  have hmm := @run_makeMap Tryz.prog
  by_cases h0 : n = 0
  · have hl0 : l = [] := List.eq_nil_of_length_eq_zero (by omega)
    subst hl0
    clear hc hn hln h0
    go_enter Tryz.func109, Tryz.ntmps109
    go_wp2_with fail
    refine wp_loop_rounds 1 ?_
    rw [rounds_succ]
    go_wp2_with fail
    go_ret
    exact ⟨rfl, (Below.refl _ _).alloc (Nat.le_refl _) _⟩
  · obtain ⟨g, o, rfl, hg, h2⟩ := hc (by omega)
    rw [hln] at hl ⊢
    have HC : Hid (∀ i, i < n → ∃ (x : Sp.EA) (s t : ByteArray), l.drop i = x :: l.drop (i + 1) ∧ x.name = s.data.toList ∧ s.size ≤ maxLen ∧ ∀ W, Below w.heap.size w W →
        W.cell? ⟨g, o + i * 3, none⟩ = some (.string s) ∧ W.cell? ⟨g, o + i * 3 + 1, none⟩ = some (.string t) ∧ W.cell? ⟨g, o + i * 3 + 2, none⟩ = some (.int .i64 x.at_)) := fun i hi => by
      obtain ⟨x, hx⟩ : ∃ x, l[i]? = some x := ⟨l[i]'(by omega), List.getElem?_eq_getElem (by omega)⟩
      refine ⟨x, ⟨x.name.toArray⟩, ⟨x.value.toArray⟩, ?_, rfl, ?_, fun W hW => ?_⟩
      · rw [List.drop_eq_getElem_cons (by omega)]
        congr 1
        rw [List.getElem?_eq_getElem (by omega)] at hx
        injection hx
      · have := hn x (List.mem_of_getElem? hx)
        unfold maxLen
        simp only [ByteArray.size, List.size_toArray]
        omega
      · have e : ∀ j, W.cell? ⟨g, j, none⟩ = w.cell? ⟨g, j, none⟩ := fun j => World.cell?_of_block (hW.block g hg)
        simp only [e]
        exact h2 i x hx
    obtain ⟨R, hR⟩ : ∃ R, Sp.twice l = R := ⟨_, rfl⟩
    rw [hR]
    have HR : Hid (Sp.twiceN [] 0 (l.drop 0) = R) := hR
    have HLN := Lib.hid hln
    clear hc h2 hn hln h0 hR
    go_enter Tryz.func109, Tryz.ntmps109
    go_wp2_with fail
    go_loopg [9] (n + 1) (fun k i wr => ∃ (j : Nat) (D : DataW Unit) (seen : List (List UInt8)), i = .int .i64 j ∧ j ≤ n ∧ n - j < k ∧ Hid (wr.ownsMap Tryz.prog 9 (plainElem Tryz.prog 4) w.heap.size j D) ∧ Hid (Met D seen) ∧ Hid (Sp.twiceN seen j (l.drop j) = R) ∧ Hid (Below w.heap.size w wr))
    case atStart => exact ⟨0, .map [], [], rfl, Nat.zero_le _, by omega, World.ownsMap_made _ _ _ _, met_nil, HR, (Below.refl _ _).alloc (Nat.le_refl _) _⟩
    case round =>
      clear HR
      obtain ⟨j, D, seen, rfl, hj, hk, HO, HM, HR, HB⟩ := hrel
      by_cases hlt : j < n
      · have hd : decide ((j : Int) < n) = true := by simp; omega
        have hx0 : (0 : Int) ≤ j := by omega
        have hx1 : (j : Int) < n := by omega
        obtain ⟨x, s, t, hdr, hxs, hs, hcell⟩ := HC.out j hlt
        obtain ⟨y0, y1, y2⟩ := hcell wr HB.out
        have HDR := Lib.hid hdr
        have HXS := Lib.hid hxs
        clear hcell hdr hxs
        have hlt2 := HO.out.lt
        have hkey : keyOf Tryz.prog 9 (.string s) = some (.string s.data.toList) := Go.WideMaps.keyOf_string_mk Tryz.underlying9 hs
        go_wp2_with (first
          | (at_lookup; refine wpList_lookup_own_bool _ rfl _ _ 175 rfl 9 4 keyStr Tryz.underlying175 Tryz.underlying4 (zeroBool _) w.heap.size j D rfl (HO.out.alloc _) _ _ rfl hkey ?_; intro c hat; have HAT := Lib.hid hat; clear hat)
          | (at_mapUpdate; refine wpList_mapUpdate_own _ rfl _ _ _ 175 rfl 9 4 keyStr Tryz.underlying175 (plainElem (H := Unit) Tryz.prog 4) w.heap.size j D rfl (HO.out.alloc _) (by unfold maxLen; omega) _ _ _ rfl rfl hkey _ [] (plainElem_bool Tryz.underlying4 true) ?_; intro w1 hown1 hgrow1))
        · go_ret
          have h3 := HR.out
          have h4 := (HM.out s.data.toList).symm.trans HAT.out
          injection h4 with h4; injection h4 with h4
          have h6 : c = true := by assumption
          rw [HDR.out, twiceN_cons, HXS.out, if_pos (h4.trans h6)] at h3
          refine ⟨?_, HB.out.alloc HB.out.size _⟩
          rw [← h3]
          rfl
        · have h3 := HR.out
          have h4 := (HM.out s.data.toList).symm.trans HAT.out
          injection h4 with h4; injection h4 with h4
          have h7 : c = false := by assumption
          rw [HDR.out, twiceN_cons, HXS.out, if_neg (by rw [h4, h7]; simp)] at h3
          have h5 := met_put HM.out (HO.out.tidy keyStr).isMap s.data.toList
          have h6 : Below w.heap.size w w1 := (HB.out.alloc HB.out.size _).grown hgrow1 (by rw [sz_alloc]; have := HB.out.size; omega) (fun j hj => by cases hj; exact Nat.le_refl _)
          go_roundg (gk - 1)
          case measure => omega
          case rel => exact ⟨j + 1, _, _, by simp, by omega, by omega, hown1, h5, h3, h6⟩
      · have hj' : j = n := by omega
        subst hj'
        have hd : decide ((j : Int) < j) = false := by simp
        go_wp2_with fail
        go_ret
        have h3 := HR.out
        rw [List.drop_eq_nil_of_le (by have := HLN.out; omega)] at h3
        refine ⟨?_, HB.out⟩
        rw [← h3]
        rfl
end Go.Proofs.YtokdclmikllepaaGreatDoor
