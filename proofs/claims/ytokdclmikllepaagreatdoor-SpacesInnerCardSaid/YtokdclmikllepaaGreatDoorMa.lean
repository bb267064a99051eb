import Derived.Test.YtokdclmikllepaaGreatDoorKt42
import Derived.StillTailTactics
import Derived.BigQuiet
import Derived.Deep.Slices
import Derived.Deep.Fields
import Derived.ChangeSame
import Derived.WideKeyArgs
import Derived.SizedLaws
namespace Go.Proofs.YtokdclmikllepaaGreatDoor
open Go.RowKit
set_option linter.unusedVariables false
set_option linter.unusedSimpArgs false

/-! ### elements in memory, cell by cell -/
theorem ElsAt.cell {B : Nat} {w : World} {v : Value} {l : List Sp.EE} (h : ElsAt B w v l) (h0 : 0 < l.length) :
    ∃ g cap, v = .slice (some ⟨g, 0, none⟩) l.length cap ∧ B ≤ g ∧ g < w.heap.size ∧ ∀ i x, l[i]? = some x → ∃ av, EasAt B w av x.attrs ∧
      w.cell? ⟨g, i * 5, none⟩ = some (.string ⟨x.name.toArray⟩) ∧ w.cell? ⟨g, i * 5 + 1, none⟩ = some av ∧ w.cell? ⟨g, i * 5 + 2, none⟩ = some (.string ⟨x.text.toArray⟩) ∧
      w.cell? ⟨g, i * 5 + 3, none⟩ = some (.int .i64 x.up) ∧ w.cell? ⟨g, i * 5 + 4, none⟩ = some (.int .i64 x.at_) := by
  obtain ⟨ps, hps, hat, hown⟩ := h
  have hpl : ps.length = l.length := by rw [← hps, List.length_map]
  obtain ⟨g, cap, rfl, hb, hlt, hc⟩ := ownsRow_cells hown (by omega)
  refine ⟨g, cap, by rw [hpl], hb, hlt, fun i x hx => ?_⟩
  rw [← hps, List.getElem?_map] at hx
  obtain ⟨y, hy, rfl⟩ := Option.map_eq_some_iff.1 hx
  have hf := fun k hk => flat_get (fun x : Sp.EE × Value => eeCells x.1 x.2) 5 (fun _ => rfl) ps i k hk
  refine ⟨y.2, hat y (List.mem_of_getElem? hy), hc _ _ ?_, hc _ _ ?_, hc _ _ ?_, hc _ _ ?_, hc _ _ ?_⟩
  · rw [show i * 5 = i * 5 + 0 from rfl, hf 0 (by omega), hy]; rfl
  · rw [hf 1 (by omega), hy]; rfl
  · rw [hf 2 (by omega), hy]; rfl
  · rw [hf 3 (by omega), hy]; rfl
  · rw [hf 4 (by omega), hy]; rfl

/-! ### the answers that the document fixes -/
def tdoc1 : ByteArray := ⟨#[60, 97, 62, 120, 60, 98, 47, 62, 121, 60, 47, 97, 62]⟩
def tdoc2 : ByteArray := ⟨#[60, 97, 62, 60, 47, 98, 62]⟩
def tels1 : List Sp.EE := [⟨[97], [], [120, 121], -1, 0⟩, ⟨[98], [], [], 0, 4⟩]
theorem tdoc1_parse : Sp.parse (L tdoc1) = .ok tels1 := by rfl
theorem tdoc2_parse : Sp.parse (L tdoc2) = .error (3, 91) := by rfl
theorem tels1_write : Sp.write tels1 = some [60, 97, 62, 120, 121, 60, 98, 47, 62, 60, 47, 97, 62] := by rfl
theorem writeR_is (l : List Sp.EE) (lv : Value) (w : World) (hl : ElsR w lv l) (hsm : ∀ x ∈ l, wtEE x ≤ 100000) (hl3 : l.length ≤ 100000000) (R : Option Sp.Bs) (hR : Sp.write l = R) :
    Calls Tryz.prog 42 #[lv] w (WEnd R w) := hR ▸ write_calls l lv w hl hsm hl3
theorem write_ok (l : List Sp.EE) (lv : Value) (w : World) (hl : ElsR w lv l) (hsm : ∀ x ∈ l, wtEE x ≤ 100000) (hl3 : l.length ≤ 100000000) (T : Sp.Bs) (hR : Sp.write l = some T) :
    Calls Tryz.prog 42 #[lv] w fun e w' => e = .returned (.tuple #[.string ⟨T.toArray⟩, .int .i64 0]) ∧ Below w.heap.size w w' :=
  (writeR_is l lv w hl hsm hl3 _ hR).mono fun e w' h => h
theorem parse_err_is (s : ByteArray) (w : World) (hG : Gl w) (hs : s.size ≤ 140737488351232) (p c : Nat) (hR : Sp.parse (L s) = .error (p, c)) :
    Calls Tryz.prog 37 #[.string s] w fun e w' => e = .returned (.tuple #[.slice none 0 0, .int .i64 p, .int .i64 c]) ∧ Below w.heap.size w w' :=
  (parse_is s w hG hs _ hR).mono fun e w' ⟨hb, he⟩ => ⟨he, hb⟩

set_option maxHeartbeats 4000000 in
set_option maxRecDepth 100000 in
theorem tawake_calls (w : World) (hG : Gl w) : Calls Tryz.prog 39 #[] w fun e w' => e = .returned (.bool true) ∧ Below w.heap.size w w' := by
  have HG := Lib.hid hG
  clear hG
  go_enter Tryz.func39, Tryz.ntmps39
  go_wp2_with fail
  refine (parse_is tdoc1 _ HG.out (by decide) _ tdoc1_parse).mono ?_
  rintro e w1 ⟨hb1, v, rfl, hm⟩
  have HR := Lib.hid hm.toR
  obtain ⟨g, cap, rfl, hg1, hg2, hc⟩ := hm.cell (by decide)
  obtain ⟨av, hat, c0, c1, c2, c3, c4⟩ := hc 0 _ rfl
  obtain ⟨av', hat', d0, d1, d2, d3, d4⟩ := hc 1 _ rfl
  clear hc hat hat' hm
  have HB1 := Lib.hid hb1
  clear hb1
  go_wp2_with fail
  refine (parse_err_is tdoc2 _ (HG.out.below HB1.out) (by decide) 3 91 tdoc2_parse).mono ?_
  rintro e w2 ⟨rfl, hb2⟩
  go_wp2_with fail
  refine (write_ok tels1 _ _ (HR.out.below hb2) (by decide) (by decide) _ tels1_write).mono ?_
  rintro e w3 ⟨rfl, hb3⟩
  have k : ∀ b i u, b < w1.heap.size → w1.cell? ⟨b, i, none⟩ = some u → w3.cell? ⟨b, i, none⟩ = some u := fun b i u hb h =>
    (World.cell?_of_block ((below_then hb2 hb3).block b hb)).trans h
  have e2 := k _ _ _ hg2 c2
  have e3 := k _ _ _ hg2 c3
  have x0 := k _ _ _ hg2 d0
  have x3 := k _ _ _ hg2 d3
  have HB3 := Lib.hid (below_then HB1.out (below_then hb2 hb3))
  clear k c0 c1 c2 c3 c4 d0 d1 d2 d3 d4 hb2 hb3 HB1 HR
  simp only [Nat.zero_mul, Nat.zero_add, Nat.one_mul, Nat.reduceAdd] at e2 e3 x0 x3
  go_wp2_with fail
  go_ret
  exact ⟨rfl, HB3.out⟩
end Go.Proofs.YtokdclmikllepaaGreatDoor
namespace Go.Proofs.YtokdclmikllepaaGreatDoor
open Go.RowKit
set_option linter.unusedVariables false
set_option linter.unusedSimpArgs false

theorem AtsR.cells {w : World} {v : Value} {l : List Sp.EA} (h : AtsR w v l) : ∃ a c, v = .slice a l.length c ∧ (0 < l.length → ∃ g o, a = some ⟨g, o, none⟩ ∧ g < w.heap.size ∧ ∀ i x, l[i]? = some x → ∀ W, Below w.heap.size w W →
    W.cell? ⟨g, o + i * 3, none⟩ = some (.string ⟨x.name.toArray⟩) ∧ W.cell? ⟨g, o + i * 3 + 1, none⟩ = some (.string ⟨x.value.toArray⟩) ∧ W.cell? ⟨g, o + i * 3 + 2, none⟩ = some (.int .i64 x.at_)) := by
  obtain ⟨a, c, rfl, hc⟩ := h
  refine ⟨a, c, rfl, fun hl => ?_⟩
  obtain ⟨g, o, rfl, hg, h2⟩ := hc hl
  refine ⟨g, o, rfl, hg, fun i x hx W hW => ?_⟩
  have e : ∀ j, W.cell? ⟨g, j, none⟩ = w.cell? ⟨g, j, none⟩ := fun j => World.cell?_of_block (hW.block g hg)
  simp only [e]
  exact h2 i x hx
theorem ElsR.cells {w : World} {v : Value} {l : List Sp.EE} (h : ElsR w v l) : ∃ a c, v = .slice a l.length c ∧ (0 < l.length → ∃ g o, a = some ⟨g, o, none⟩ ∧ g < w.heap.size ∧ ∀ i x, l[i]? = some x → ∃ av, AtsR w av x.attrs ∧ ∀ W, Below w.heap.size w W →
    W.cell? ⟨g, o + i * 5, none⟩ = some (.string ⟨x.name.toArray⟩) ∧ W.cell? ⟨g, o + i * 5 + 1, none⟩ = some av ∧ W.cell? ⟨g, o + i * 5 + 2, none⟩ = some (.string ⟨x.text.toArray⟩) ∧
    W.cell? ⟨g, o + i * 5 + 3, none⟩ = some (.int .i64 x.up) ∧ W.cell? ⟨g, o + i * 5 + 4, none⟩ = some (.int .i64 x.at_)) := by
  obtain ⟨a, c, rfl, hc⟩ := h
  refine ⟨a, c, rfl, fun hl => ?_⟩
  obtain ⟨g, o, rfl, hg, h2⟩ := hc hl
  refine ⟨g, o, rfl, hg, fun i x hx => ?_⟩
  obtain ⟨av, h3, h4⟩ := h2 i x hx
  refine ⟨av, h3, fun W hW => ?_⟩
  have e : ∀ j, W.cell? ⟨g, j, none⟩ = w.cell? ⟨g, j, none⟩ := fun j => World.cell?_of_block (hW.block g hg)
  simp only [e]
  exact h4
end Go.Proofs.YtokdclmikllepaaGreatDoor
namespace Go.Proofs.YtokdclmikllepaaGreatDoor
open Go.RowKit
set_option linter.unusedVariables false
set_option linter.unusedSimpArgs false

/-! ### few -/
def wtNV (a : Sp.EA) : Nat := a.name.length + a.value.length
theorem wtEA_sum : ∀ l : List Sp.EA, (l.map wtEA).sum = l.length + (l.map wtNV).sum
  | [] => rfl
  | a :: t => by
    rw [List.map_cons, List.sum_cons, List.map_cons, List.sum_cons, List.length_cons, wtEA_sum t]
    unfold wtEA wtNV
    omega
def wt0 (x : Sp.EE) (k : Nat) : Nat := x.name.length + x.text.length + x.attrs.length + ((x.attrs.take k).map wtNV).sum
theorem wt0_all (x : Sp.EE) : wt0 x x.attrs.length = wtEE x := by
  unfold wt0 wtEE
  rw [List.take_length, wtEA_sum]
  omega
theorem wt0_next {x : Sp.EE} {k : Nat} {a : Sp.EA} (h : x.attrs[k]? = some a) : wt0 x (k + 1) = wt0 x k + a.name.length + a.value.length := by
  unfold wt0
  rw [List.take_add_one, h, List.map_append, List.sum_append]
  simp [wtNV]
  omega
def sumTo (l : List Sp.EE) (i : Nat) : Nat := ((l.take i).map wtEE).sum
theorem sumTo_next {l : List Sp.EE} {i : Nat} {x : Sp.EE} (h : l[i]? = some x) : sumTo l (i + 1) = sumTo l i + wtEE x := by
  unfold sumTo
  rw [List.take_add_one, h, List.map_append, List.sum_append]
  simp
def BigBd (x : Sp.EE) : Prop := x.name.length ≤ 140737488351232 ∧ x.text.length ≤ 140737488351232 ∧ x.attrs.length ≤ 140737488351232 ∧ ∀ a ∈ x.attrs, a.name.length ≤ 140737488351232 ∧ a.value.length ≤ 140737488351232
def FewEnd (l : List Sp.EE) (w : World) (e : Ending) (w' : World) : Prop := ∃ b : Bool, e = .returned (.bool b) ∧ Below w.heap.size w w' ∧ (b = true → l.length ≤ 151 ∧ (l.map wtEE).sum ≤ 5000)
theorem w64 {a : Int} (h1 : -1000000000000000000 ≤ a) (h2 : a ≤ 1000000000000000000) : IntKind.i64.wrap a = a := IntWalk.i64_in _ (by omega)

set_option maxHeartbeats 8000000 in
set_option maxRecDepth 100000 in
theorem few_calls (w : World) (v : Value) (l : List Sp.EE) (h : ElsR w v l) (hl : l.length ≤ 140737488351232) (hb : ∀ x ∈ l, BigBd x) :
    Calls Tryz.prog 41 #[v] w (FewEnd l w) := by
  obtain ⟨n, hn⟩ : ∃ n, l.length = n := ⟨_, rfl⟩
  obtain ⟨a1, c1, rfl, hc1⟩ := h.cells
  rw [hn] at hl hc1 ⊢
  clear h
  have HN := Lib.hid hn
  by_cases h0 : n = 0
  · have hl0 : l = [] := List.eq_nil_of_length_eq_zero (by omega)
    subst hl0 h0
    clear hc1 hn hb
    go_enter Tryz.func41, Tryz.ntmps41
    go_wp2_with fail
    refine wp_loop_rounds 1 ?_
    rw [rounds_succ]
    go_wp2_with fail
    go_ret
    exact ⟨_, rfl, Below.refl _ _, fun _ => by simp⟩
  · obtain ⟨g1, o1, rfl, hg1, hc1⟩ := hc1 (by omega)
    have HC : Hid (∀ i, i < n → ∃ (x : Sp.EE) (av : Value), l[i]? = some x ∧ BigBd x ∧ AtsR w av x.attrs ∧ ∀ W, Below w.heap.size w W → W.cell? ⟨g1, o1 + i * 5, none⟩ = some (.string ⟨x.name.toArray⟩) ∧ W.cell? ⟨g1, o1 + i * 5 + 1, none⟩ = some av ∧ W.cell? ⟨g1, o1 + i * 5 + 2, none⟩ = some (.string ⟨x.text.toArray⟩)) := fun i hi => by
      have hx := List.getElem?_eq_getElem (l := l) (i := i) (by omega)
      obtain ⟨av, h1, h2⟩ := hc1 i _ hx
      exact ⟨_, av, hx, hb _ (List.mem_of_getElem? hx), h1, fun W hW => ⟨(h2 W hW).1, (h2 W hW).2.1, (h2 W hW).2.2.1⟩⟩
    clear hc1 h0 hb hn
    go_enter Tryz.func41, Tryz.ntmps41
    go_wp2_with fail
    go_loopg [3, 4, 5] (n + 1) (fun k nn i _ wr => ∃ j S : Nat, i = .int .i64 j ∧ nn = .int .i64 S ∧ Hid (S = sumTo l j) ∧ S ≤ 5000 ∧ j ≤ n ∧ j ≤ 151 ∧ n - j < k ∧ Hid (Below w.heap.size w wr))
    case atStart => exact ⟨0, 0, rfl, rfl, rfl, by omega, Nat.zero_le _, by omega, by omega, Below.refl _ _⟩
    case round =>
      obtain ⟨j, S, rfl, rfl, HS, hS, hj, hj2, hk, HB⟩ := hrel
      by_cases hlt : j < n
      · have hd : decide ((j : Int) < n) = true := by simp; omega
        have hx0 : (0 : Int) ≤ j := by omega
        have hx1 : (j : Int) < n := by omega
        obtain ⟨x, av, hx, hbx, hav, hcl⟩ := HC.out j hlt
        obtain ⟨m, hm⟩ : ∃ m, x.attrs.length = m := ⟨_, rfl⟩
        obtain ⟨b1, d1, rfl, hka⟩ := hav.cells
        rw [hm] at hka
        rw [hm] at hcl
        obtain ⟨nm, hnm⟩ : ∃ nm : ByteArray, (⟨x.name.toArray⟩ : ByteArray) = nm := ⟨_, rfl⟩
        obtain ⟨tx, htx⟩ : ∃ tx : ByteArray, (⟨x.text.toArray⟩ : ByteArray) = tx := ⟨_, rfl⟩
        obtain ⟨hns, _⟩ := sz_of hnm
        obtain ⟨hts, _⟩ := sz_of htx
        rw [hnm, htx] at hcl
        obtain ⟨hb1, hb2, hb3, hb4⟩ := hbx
        rw [hm] at hb3
        obtain ⟨T, hT⟩ : ∃ T, S + nm.size + tx.size + m = T := ⟨_, rfl⟩
        have hT0 : T = S + wt0 x 0 := by unfold wt0; simp; omega
        have hw1 := w64 (a := (S : Int) + nm.size) (by omega) (by omega)
        have hw2 := w64 (a := (S : Int) + nm.size + tx.size) (by omega) (by omega)
        have hw3 := w64 (a := (S : Int) + nm.size + tx.size + m) (by omega) (by omega)
        have hTT : (S : Int) + nm.size + tx.size + m = (T : Int) := by omega
        have hTb : T ≤ 1000000000000000 := by omega
        rw [hTT] at hw3
        have HX := Lib.hid hx
        have HM := Lib.hid hm
        have HKA := Lib.hid hka
        have HB4 := Lib.hid hb4
        have HT0 := Lib.hid hT0
        have HCL := Lib.hid hcl
        obtain ⟨y0, y1, y2⟩ := hcl wr HB.out
        clear hka hx hm hb4 hT0 hT hb1 hb2 hns hts hnm htx hcl hav
        obtain ⟨gk0, rfl⟩ : ∃ z, z = gk := ⟨_, rfl⟩
        have hjb : ∀ b : Bool, decide ((150 : Int) < j) = b → (b = false → j + 1 ≤ 151) := fun b hb hf => by subst hf; simp at hb; omega
        have HJB := Lib.hid hjb
        clear hjb
        go_wp2_with fail
        go_quiet (fail)
        go_wp2_with fail
        go_loopg [3, 5] (m + 1) (fun k2 nn q2 wr2 => ∃ q T2 : Nat, nn = .int .i64 T2 ∧ q2 = .int .i64 q ∧ Hid (T2 = S + wt0 x q) ∧ T2 ≤ 1000000000000000 ∧ q ≤ m ∧ m - q < k2 ∧ Hid (Below w.heap.size w wr2))
        case atStart => exact ⟨0, T, rfl, rfl, HT0, hTb, Nat.zero_le _, by omega, below_drewN HB.out _⟩
        case round =>
          clear HB HT0 y0 y1 y2 hw1 hw2 hw3 hTb
          obtain ⟨q, T2, rfl, rfl, HT2, hT2, hq, hk2, HB⟩ := hrel
          obtain ⟨y0, y1, y2⟩ := HCL.out wr HB.out
          have stop : ∀ (b : Bool), decide ((5000 : Int) < T2) = b → (b = true ∨ (q = m ∧ b = false)) → True := fun _ _ _ => trivial
          clear stop
          by_cases h5 : T2 ≤ 5000
          · have hd5 : decide ((T2 : Int) ≤ 5000) = true := by simp; omega
            have hd6 : decide ((5000 : Int) < T2) = false := by simp; omega
            by_cases hlt2 : q < m
            · have hd2 : decide ((q : Int) < m) = true := by simp; omega
              have hq0 : (0 : Int) ≤ q := by omega
              have hq1 : (q : Int) < m := by omega
              obtain ⟨ga, oa, rfl, hga, ha⟩ := HKA.out (by omega)
              have hax := List.getElem?_eq_getElem (l := x.attrs) (i := q) (by rw [HM.out]; exact hlt2)
              obtain ⟨a, hae⟩ : ∃ a, x.attrs[q]? = some a := ⟨_, hax⟩
              obtain ⟨u0, u1, u2⟩ := ha q a hae wr HB.out
              have hab := HB4.out a (List.mem_of_getElem? hae)
              obtain ⟨an, han⟩ : ∃ an : ByteArray, (⟨a.name.toArray⟩ : ByteArray) = an := ⟨_, rfl⟩
              obtain ⟨vl, hvl⟩ : ∃ vl : ByteArray, (⟨a.value.toArray⟩ : ByteArray) = vl := ⟨_, rfl⟩
              obtain ⟨has, _⟩ := sz_of han
              obtain ⟨hvs, _⟩ := sz_of hvl
              rw [han] at u0
              rw [hvl] at u1
              have hv1 := w64 (a := (T2 : Int) + an.size) (by omega) (by omega)
              have hv2 := w64 (a := (T2 : Int) + an.size + vl.size) (by omega) (by omega)
              have hTT2 : (T2 : Int) + an.size + vl.size = ((T2 + an.size + vl.size : Nat) : Int) := by omega
              have hnx : T2 + an.size + vl.size = S + wt0 x (q + 1) := by rw [wt0_next hae, HT2.out, has, hvs]; omega
              have hbd : T2 + an.size + vl.size ≤ 1000000000000000 := by omega
              obtain ⟨T3, hT3⟩ : ∃ T3, T2 + an.size + vl.size = T3 := ⟨_, rfl⟩
              rw [hT3] at hTT2 hnx hbd
              rw [hTT2] at hv2
              have HNX := Lib.hid hnx
              clear ha hax hae hab han hvl has hvs hnx hT3
              go_wp2_with fail
              go_quiet (fail)
              go_wp2_with fail
              go_roundg (gk - 1)
              case measure => omega
              case rel => exact ⟨q + 1, T3, by simp, by simp; (try (unfold wrap64; omega)), HNX, hbd, by omega, by omega, below_drewN HB.out _⟩
            · have hqm : q = m := by omega
              subst hqm
              have hd2 : decide ((q : Int) < q) = false := by simp
              have hsum : T2 = sumTo l (j + 1) := by
                rw [sumTo_next HX.out, ← HS.out, HT2.out, ← HM.out, wt0_all]
              have HSUM := Lib.hid hsum
              clear hsum
              cases hb150 : decide ((150 : Int) < j) with
              | true =>
                go_wp2_with fail
                go_ret
                exact ⟨_, rfl, HB.out, fun h => by cases h⟩
              | false =>
                have hj151 := HJB.out _ hb150 rfl
                go_wp2_with fail
                go_roundg (gk0 - 1)
                case measure => omega
                case rel => exact ⟨j + 1, T2, by simp, rfl, HSUM, h5, by omega, hj151, by omega, HB⟩
          · have hd5 : decide ((T2 : Int) ≤ 5000) = false := by simp; omega
            have hd6 : decide ((5000 : Int) < T2) = true := by simp; omega
            by_cases hlt2 : q < m
            · have hd2 : decide ((q : Int) < m) = true := by simp; omega
              go_wp2_with fail
              go_ret
              exact ⟨_, rfl, HB.out, fun h => by cases h⟩
            · have hqm : q = m := by omega
              subst hqm
              have hd2 : decide ((q : Int) < q) = false := by simp
              go_wp2_with fail
              go_ret
              exact ⟨_, rfl, HB.out, fun h => by cases h⟩
      · have hj' : j = n := by omega
        subst hj'
        have hd : decide ((j : Int) < j) = false := by simp
        go_wp2_with fail
        go_ret
        refine ⟨_, rfl, HB.out, fun _ => ⟨by rw [HN.out]; exact hj2, ?_⟩⟩
        have h := HS.out
        unfold sumTo at h
        rw [List.take_of_length_le (by rw [HN.out]; exact Nat.le_refl _)] at h
        omega
end Go.Proofs.YtokdclmikllepaaGreatDoor
namespace Go.Proofs.YtokdclmikllepaaGreatDoor
open Go.RowKit Go.ChangeShapes Go.WideShapes Go.Deep
set_option linter.unusedVariables false
set_option linter.unusedSimpArgs false

/-! ### elements that are handed in -/
section
variable {H : Type} {enc : TypeId × Value → H} {P : Program} {w : World} {base : Nat} {spare : Nat → Bool} {held : Bool}
theorem open_slice_fields {t e : TypeId} {fs : Array Field} {fuel : Nat} {cs : List Value} {x : DataW H × List MemPlace} (ht : P.underlying t = some (.slice e)) (he : P.underlying e = some (.struct fs))
    (hone : oneCellFields P fs = true) (hC : P.cellsOf e = fs.size) (h : DataW.trod enc P w base spare held fuel t cs = some x) :
    (cs = [.slice none 0 0] ∧ x = (.nil, [])) ∨
    ∃ (a : Addr) (len cap m : Nat) (D : Nat → DataW H) (Pl : Nat → List MemPlace), cs = [.slice (some a) len cap] ∧ base ≤ a.block ∧ len ≤ cap ∧ cap ≤ maxLen ∧ m = (if spare a.block then cap else len) ∧
      x = (.slice ((List.range len).map D) ((List.range (m - len)).map fun j => D (len + j)), MemPlace.row a (m * fs.size) ++ (List.range m).flatMap Pl) ∧
      ∀ i, i < m → ∃ (ys : List (DataW H × List MemPlace)) (n : Nat), D i = .agg (ys.map (·.1)) ∧ Pl i = ys.flatMap (·.2) ∧ ys.length = fs.size ∧
        ∀ (j : Nat) (f : Field), fs[j]? = some f → ∃ (v : Value) (y : DataW H × List MemPlace), w.cell? (a.add (i * fs.size + j)) = some v ∧ ys[j]? = some y ∧ DataW.trod enc P w base spare held n f.type [v] = some y := by
  rcases open_slice ht h with h0 | ⟨a, len, cap, m, n, D, Pl, hcs, hb, hl, hm, hmm, hx, hi⟩
  · exact .inl h0
  · refine .inr ⟨a, len, cap, m, D, Pl, hcs, hb, hl, hm, hmm, by rw [hC] at hx; exact hx, fun i him => ?_⟩
    obtain ⟨cs', hc, ht'⟩ := hi i him
    rw [hC] at hc
    obtain ⟨ys, n', hn', hy, hlen, hyl, hf⟩ := DataW.trod_struct he ht'
    obtain ⟨_, hcl, hat⟩ := World.cells?_some hc
    simp only [Prod.mk.injEq] at hy
    refine ⟨ys, n', hy.1, hy.2, hyl, fun j f hj => ?_⟩
    obtain ⟨ho, hk⟩ := hone_of hone j f hj
    have hjl : j < fs.size := (Array.getElem?_eq_some_iff.1 hj).1
    have hcell := hat j hjl
    have hv : cs'[j]? = some (cs'[j]'(by omega)) := List.getElem?_eq_getElem (by omega)
    have h1 := hf j f hj
    rw [ho, hk] at h1
    have hone' : (cs'.drop j).take 1 = [cs'[j]'(by omega)] := by
      rw [List.drop_eq_getElem_cons (by omega)]
      rfl
    rw [hone'] at h1
    have hys : ys[j]? = some (ys[j]'(by omega)) := List.getElem?_eq_getElem (by omega)
    refine ⟨_, _, ?_, hys, h1.trans hys⟩
    rw [← Go.Deep.add_add, hcell, hv]
end
theorem addr_plain {w : World} {a : Addr} {u : Value} (h : w.cell? a = some u) : a.spot = none ∧ a.block < w.heap.size := by
  unfold World.cell? at h
  split at h
  · rename_i c t z hb
    split at h
    · cases h
    · rename_i hs
      exact ⟨by simpa using hs, (Array.getElem?_eq_some_iff.1 hb).1⟩
  · cases h
theorem addr_add {g o k : Nat} : (⟨g, o, none⟩ : Addr).add k = ⟨g, o + k, none⟩ := by
  unfold Addr.add
  split
  · rename_i h; subst h; rfl
  · rfl
theorem weightsAll_mem {H : Type} {P : Program} {e : TypeId} : ∀ {ds : List (DataW H)} {d : DataW H}, d ∈ ds → ∀ n ∈ d.weights P e, n ∈ DataW.weightsAll P e ds
  | d0 :: ds, d, hd, n, hn => by
    rw [DataW.weightsAll, List.mem_append]
    rcases List.mem_cons.1 hd with rfl | hd
    · exact .inl hn
    · exact .inr (weightsAll_mem hd n hn)
theorem weights_elem {H : Type} {P : Program} {t e : TypeId} (hu : P.underlying t = some (.slice e)) {es sp : List (DataW H)} (hz : ∀ n ∈ (DataW.slice es sp).weights P t, n ≤ 140737488351232) {d : DataW H} (hd : d ∈ es) : ∀ n ∈ d.weights P e, n ≤ 140737488351232 := fun n hn =>
  hz n (by rw [DataW.weights, hu]; simp only [List.mem_cons, List.mem_append]; exact .inr (.inl (weightsAll_mem hd n hn)))
theorem weights_len {H : Type} {P : Program} {t e : TypeId} (hu : P.underlying t = some (.slice e)) {es sp : List (DataW H)} (hz : ∀ n ∈ (DataW.slice es sp).weights P t, n ≤ 140737488351232) (hb : 1 ≤ P.bytesOf e) : es.length ≤ 140737488351232 := by
  have h := hz ((es.length + sp.length) * P.bytesOf e) (by rw [DataW.weights, hu]; simp only [List.mem_cons, true_or])
  have h2 := Nat.le_mul_of_pos_right (es.length + sp.length) (show 0 < P.bytesOf e by omega)
  omega
theorem weights_field {H : Type} {P : Program} {e : TypeId} {fs : Array Field} (hu : P.underlying e = some (.struct fs)) {ds : List (DataW H)} (hz : ∀ n ∈ (DataW.agg ds).weights P e, n ≤ 140737488351232) {j : Nat} {f : Field} {d : DataW H} (hf : fs[j]? = some f) (hd : ds[j]? = some d) : ∀ n ∈ d.weights P f.type, n ≤ 140737488351232 := fun n hn =>
  hz n (by
    rw [DataW.weights, hu]
    exact DataW.weights_mem_each (by rw [List.getElem?_map, Array.getElem?_toList, hf]; rfl) hd n hn)
section
variable {H : Type} {enc : TypeId × Value → H} {w : World} {base : Nat} {spare : Nat → Bool} {held : Bool}
theorem ats_of_trod {fuel : Nat} {v : Value} {x : DataW H × List MemPlace} (h : DataW.trod enc Tryz.prog w base spare held fuel 38 [v] = some x) (hz : ∀ n ∈ x.1.weights Tryz.prog 38, n ≤ 140737488351232) :
    ∃ l : List Sp.EA, AtsR w v l ∧ l.length ≤ 140737488351232 ∧ ∀ a ∈ l, a.name.length ≤ 140737488351232 ∧ a.value.length ≤ 140737488351232 := by
  rcases open_slice_fields Tryz.underlying38 Tryz.underlying42 (by kernel_rfl) (by kernel_rfl) h with ⟨hv, _⟩ | ⟨a, len, cap, m, D, Pl, hv, hb, hl, hm, hmm, hx, hi⟩
  · injection hv with hv
    subst hv
    exact ⟨[], ⟨none, 0, rfl, fun h => absurd h (Nat.lt_irrefl _)⟩, by simp, fun a ha => nomatch ha⟩
  · injection hv with hv
    subst hv
    have hlm : len ≤ m := by rw [hmm]; split <;> omega
    rw [hx] at hz
    have hm47 : len ≤ 140737488351232 := by
      have := weights_len Tryz.underlying38 hz (of_decide_eq_true (by kernel_rfl))
      simpa using this
    have key : ∀ i : Nat, ∃ e : Sp.EA, i < len → (w.cell? (a.add (i * 3)) = some (.string ⟨e.name.toArray⟩) ∧ w.cell? (a.add (i * 3 + 1)) = some (.string ⟨e.value.toArray⟩) ∧ w.cell? (a.add (i * 3 + 2)) = some (.int .i64 e.at_)) ∧ e.name.length ≤ 140737488351232 ∧ e.value.length ≤ 140737488351232 := by
      intro i
      by_cases hil : i < len
      · obtain ⟨ys, n, hD, hP, hyl, hf⟩ := hi i (by omega)
        have hzi := weights_elem Tryz.underlying38 hz (List.mem_map.2 ⟨i, List.mem_range.2 hil, rfl⟩)
        rw [hD] at hzi
        obtain ⟨v0, y0, c0, g0, t0⟩ := hf 0 _ rfl
        obtain ⟨v1, y1, c1, g1, t1⟩ := hf 1 _ rfl
        obtain ⟨v2, y2, c2, _, t2⟩ := hf 2 _ rfl
        have w0 := weights_field (j := 0) Tryz.underlying42 hzi rfl (by rw [List.getElem?_map, g0]; rfl)
        have w1 := weights_field (j := 1) Tryz.underlying42 hzi rfl (by rw [List.getElem?_map, g1]; rfl)
        obtain ⟨s0, e0, q0, z0⟩ := DataW.trod_string Tryz.underlying9 t0
        obtain ⟨s1, e1, q1, z1⟩ := DataW.trod_string Tryz.underlying9 t1
        obtain ⟨n2, e2, _, _⟩ := DataW.trod_int Tryz.underlying3 t2
        injection e0 with e0
        injection e1 with e1
        injection e2 with e2
        subst e0 e1 e2
        refine ⟨⟨L s0, L s1, n2⟩, fun _ => ⟨⟨?_, ?_, ?_⟩, ?_, ?_⟩⟩
        · rw [bs_L]; exact c0
        · rw [bs_L]; exact c1
        · exact c2
        · rw [q0] at w0; exact w0 _ (by rw [DataW.weights]; exact List.mem_singleton.2 rfl)
        · rw [q1] at w1; exact w1 _ (by rw [DataW.weights]; exact List.mem_singleton.2 rfl)
      · exact ⟨⟨[], [], 0⟩, fun h => absurd h hil⟩
    obtain ⟨f, hf⟩ := Classical.axiomOfChoice key
    have hget : ∀ i x, ((List.range len).map f)[i]? = some x → i < len ∧ x = f i := by
      intro i x hx
      rw [List.getElem?_map] at hx
      obtain ⟨k, hk, rfl⟩ := Option.map_eq_some_iff.1 hx
      have hkl := (List.getElem?_eq_some_iff.1 hk)
      obtain ⟨h1, h2⟩ := hkl
      rw [List.length_range] at h1
      rw [List.getElem_range] at h2
      subst h2
      exact ⟨h1, rfl⟩
    refine ⟨(List.range len).map f, ⟨some a, cap, by simp, fun h0 => ?_⟩, by simp; omega, fun e he => ?_⟩
    · simp at h0
      obtain ⟨⟨c0, _, _⟩, _⟩ := hf 0 h0
      rw [Nat.zero_mul] at c0
      have hz : a.add 0 = a := by unfold Addr.add; rw [if_pos rfl]
      rw [hz] at c0
      obtain ⟨hsp, hlt⟩ := addr_plain c0
      obtain ⟨g, o, sp⟩ := a
      simp only at hsp hlt
      subst hsp
      refine ⟨g, o, rfl, hlt, fun i x hx => ?_⟩
      obtain ⟨hil, rfl⟩ := hget i x hx
      obtain ⟨⟨d0, d1, d2⟩, _⟩ := hf i hil
      rw [addr_add] at d0 d1 d2
      exact ⟨d0, d1, d2⟩
    · obtain ⟨i, hi⟩ := List.getElem?_of_mem he
      obtain ⟨hil, rfl⟩ := hget i e hi
      exact (hf i hil).2
theorem els_of_trod {fuel : Nat} {v : Value} {x : DataW H × List MemPlace} (h : DataW.trod enc Tryz.prog w base spare held fuel 45 [v] = some x) (hz : ∀ n ∈ x.1.weights Tryz.prog 45, n ≤ 140737488351232) :
    ∃ l : List Sp.EE, ElsR w v l ∧ l.length ≤ 140737488351232 ∧ ∀ x ∈ l, BigBd x := by
  rcases open_slice_fields Tryz.underlying45 Tryz.underlying53 (by kernel_rfl) (by kernel_rfl) h with ⟨hv, _⟩ | ⟨a, len, cap, m, D, Pl, hv, hb, hl, hm, hmm, hx, hi⟩
  · injection hv with hv
    subst hv
    exact ⟨[], ⟨none, 0, rfl, fun h => absurd h (Nat.lt_irrefl _)⟩, by simp, fun a ha => nomatch ha⟩
  · injection hv with hv
    subst hv
    have hlm : len ≤ m := by rw [hmm]; split <;> omega
    rw [hx] at hz
    have hm47 : len ≤ 140737488351232 := by
      have := weights_len Tryz.underlying45 hz (of_decide_eq_true (by kernel_rfl))
      simpa using this
    have key : ∀ i : Nat, ∃ e : Sp.EE, i < len → (∃ av, AtsR w av e.attrs ∧ w.cell? (a.add (i * 5)) = some (.string ⟨e.name.toArray⟩) ∧ w.cell? (a.add (i * 5 + 1)) = some av ∧ w.cell? (a.add (i * 5 + 2)) = some (.string ⟨e.text.toArray⟩) ∧ w.cell? (a.add (i * 5 + 3)) = some (.int .i64 e.up) ∧ w.cell? (a.add (i * 5 + 4)) = some (.int .i64 e.at_)) ∧ BigBd e := by
      intro i
      by_cases hil : i < len
      · obtain ⟨ys, n, hD, hP, hyl, hf⟩ := hi i (by omega)
        have hzi := weights_elem Tryz.underlying45 hz (List.mem_map.2 ⟨i, List.mem_range.2 hil, rfl⟩)
        rw [hD] at hzi
        obtain ⟨v0, y0, c0, g0, t0⟩ := hf 0 _ rfl
        obtain ⟨v1, y1, c1, g1, t1⟩ := hf 1 _ rfl
        obtain ⟨v2, y2, c2, g2, t2⟩ := hf 2 _ rfl
        have w0 := weights_field (j := 0) Tryz.underlying53 hzi rfl (by rw [List.getElem?_map, g0]; rfl)
        have w1 := weights_field (j := 1) Tryz.underlying53 hzi rfl (by rw [List.getElem?_map, g1]; rfl)
        have w2 := weights_field (j := 2) Tryz.underlying53 hzi rfl (by rw [List.getElem?_map, g2]; rfl)
        obtain ⟨v3, y3, c3, _, t3⟩ := hf 3 _ rfl
        obtain ⟨v4, y4, c4, _, t4⟩ := hf 4 _ rfl
        obtain ⟨s0, e0, q0, z0⟩ := DataW.trod_string Tryz.underlying9 t0
        obtain ⟨la, ha, hal, haz⟩ := ats_of_trod t1 w1
        obtain ⟨s2, e2, q2, z2⟩ := DataW.trod_string Tryz.underlying9 t2
        obtain ⟨n3, e3, _, _⟩ := DataW.trod_int Tryz.underlying3 t3
        obtain ⟨n4, e4, _, _⟩ := DataW.trod_int Tryz.underlying3 t4
        injection e0 with e0
        injection e2 with e2
        injection e3 with e3
        injection e4 with e4
        subst e0 e2 e3 e4
        refine ⟨⟨L s0, la, L s2, n3, n4⟩, fun _ => ⟨⟨v1, ha, ?_, c1, ?_, c3, c4⟩, ?_, ?_, hal, haz⟩⟩
        · rw [bs_L]; exact c0
        · rw [bs_L]; exact c2
        · rw [q0] at w0; exact w0 _ (by rw [DataW.weights]; exact List.mem_singleton.2 rfl)
        · rw [q2] at w2; exact w2 _ (by rw [DataW.weights]; exact List.mem_singleton.2 rfl)
      · exact ⟨⟨[], [], [], 0, 0⟩, fun h => absurd h hil⟩
    obtain ⟨f, hf⟩ := Classical.axiomOfChoice key
    have hget : ∀ i x, ((List.range len).map f)[i]? = some x → i < len ∧ x = f i := by
      intro i x hx
      rw [List.getElem?_map] at hx
      obtain ⟨k, hk, rfl⟩ := Option.map_eq_some_iff.1 hx
      have hkl := (List.getElem?_eq_some_iff.1 hk)
      obtain ⟨h1, h2⟩ := hkl
      rw [List.length_range] at h1
      rw [List.getElem_range] at h2
      subst h2
      exact ⟨h1, rfl⟩
    refine ⟨(List.range len).map f, ⟨some a, cap, by simp, fun h0 => ?_⟩, by simp; omega, fun e he => ?_⟩
    · simp at h0
      obtain ⟨⟨_, _, c0, _⟩, _⟩ := hf 0 h0
      rw [Nat.zero_mul] at c0
      have hz : a.add 0 = a := by unfold Addr.add; rw [if_pos rfl]
      rw [hz] at c0
      obtain ⟨hsp, hlt⟩ := addr_plain c0
      obtain ⟨g, o, sp⟩ := a
      simp only at hsp hlt
      subst hsp
      refine ⟨g, o, rfl, hlt, fun i x hx => ?_⟩
      obtain ⟨hil, rfl⟩ := hget i x hx
      obtain ⟨⟨av, d, d0, d1, d2, d3, d4⟩, _⟩ := hf i hil
      rw [addr_add] at d0 d1 d2 d3 d4
      exact ⟨av, d, d0, d1, d2, d3, d4⟩
    · obtain ⟨i, hi⟩ := List.getElem?_of_mem he
      obtain ⟨hil, rfl⟩ := hget i e hi
      exact (hf i hil).2
end
end Go.Proofs.YtokdclmikllepaaGreatDoor
