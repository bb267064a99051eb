import Derived.Test.YtokdclmikllepaaGreatDoorLp
import Derived.BigQuiet
namespace Go.Proofs.YtokdclmikllepaaGreatDoor
open Go.RowKit
set_option linter.unusedVariables false
set_option linter.unusedSimpArgs false

/-! ### few -/
def wtNV (a : Sp.EA) : Nat := a.name.length + a.value.length
theorem wtEA_sum : ∀ l : List Sp.EA, (l.map wtEA).sum = l.length + (l.map wtNV).sum
  | [] => rfl
  | a :: t => by
    rw [List.map_cons, List.sum_cons, List.map_cons, List.sum_cons, List.length_cons, wtEA_sum t]
    unfold wtEA wtNV
    omega
def wt0 (x : Sp.EE) (k : Nat) : Nat := x.name.length + x.text.length + x.attrs.length + ((x.attrs.take k).map wtNV).sum
theorem wt0_all (x : Sp.EE) : wt0 x x.attrs.length = wtEE x := by
  unfold wt0 wtEE
  rw [List.take_length, wtEA_sum]
  omega
theorem wt0_next {x : Sp.EE} {k : Nat} {a : Sp.EA} (h : x.attrs[k]? = some a) : wt0 x (k + 1) = wt0 x k + a.name.length + a.value.length := by
  unfold wt0
  rw [List.take_add_one, h, List.map_append, List.sum_append]
  simp [wtNV]
  omega
def sumTo (l : List Sp.EE) (i : Nat) : Nat := ((l.take i).map wtEE).sum
theorem sumTo_next {l : List Sp.EE} {i : Nat} {x : Sp.EE} (h : l[i]? = some x) : sumTo l (i + 1) = sumTo l i + wtEE x := by
  unfold sumTo
  rw [List.take_add_one, h, List.map_append, List.sum_append]
  simp
def BigBd (x : Sp.EE) : Prop := x.name.length ≤ 140737488351232 ∧ x.text.length ≤ 140737488351232 ∧ x.attrs.length ≤ 140737488351232 ∧ ∀ a ∈ x.attrs, a.name.length ≤ 140737488351232 ∧ a.value.length ≤ 140737488351232
def FewEnd (l : List Sp.EE) (w : World) (e : Ending) (w' : World) : Prop := ∃ b : Bool, e = .returned (.bool b) ∧ Below w.heap.size w w' ∧ (b = true → l.length ≤ 151 ∧ (l.map wtEE).sum ≤ 5000)
theorem w64 {a : Int} (h1 : -1000000000000000000 ≤ a) (h2 : a ≤ 1000000000000000000) : IntKind.i64.wrap a = a := IntWalk.i64_in _ (by omega)

set_option maxHeartbeats 8000000 in
set_option maxRecDepth 100000 in
theorem few_calls (w : World) (v : Value) (l : List Sp.EE) (h : ElsR w v l) (hl : l.length ≤ 140737488351232) (hb : ∀ x ∈ l, BigBd x) :
    Calls Tryz.prog 41 #[v] w (FewEnd l w) := by
  obtain ⟨n, hn⟩ : ∃ n, l.length = n := ⟨_, rfl⟩
  obtain ⟨a1, c1, rfl, hc1⟩ := h.cells
  rw [hn] at hl hc1 ⊢
  clear h
  have HN := Lib.hid hn
  by_cases h0 : n = 0
  · have hl0 : l = [] := List.eq_nil_of_length_eq_zero (by omega)
    subst hl0 h0
    clear hc1 hn hb
    go_enter Tryz.func41, Tryz.ntmps41
    go_wp2_with fail
    refine wp_loop_rounds 1 ?_
    rw [rounds_succ]
    go_wp2_with fail
    go_ret
    exact ⟨_, rfl, Below.refl _ _, fun _ => by simp⟩
  · obtain ⟨g1, o1, rfl, hg1, hc1⟩ := hc1 (by omega)
    have HC : Hid (∀ i, i < n → ∃ (x : Sp.EE) (av : Value), l[i]? = some x ∧ BigBd x ∧ AtsR w av x.attrs ∧ ∀ W, Below w.heap.size w W → W.cell? ⟨g1, o1 + i * 5, none⟩ = some (.string ⟨x.name.toArray⟩) ∧ W.cell? ⟨g1, o1 + i * 5 + 1, none⟩ = some av ∧ W.cell? ⟨g1, o1 + i * 5 + 2, none⟩ = some (.string ⟨x.text.toArray⟩)) := fun i hi => by
      have hx := List.getElem?_eq_getElem (l := l) (i := i) (by omega)
      obtain ⟨av, h1, h2⟩ := hc1 i _ hx
      exact ⟨_, av, hx, hb _ (List.mem_of_getElem? hx), h1, fun W hW => ⟨(h2 W hW).1, (h2 W hW).2.1, (h2 W hW).2.2.1⟩⟩
    clear hc1 h0 hb hn
    go_enter Tryz.func41, Tryz.ntmps41
    go_wp2_with fail
    go_loopg [3, 4, 5] (n + 1) (fun k nn i _ wr => ∃ j S : Nat, i = .int .i64 j ∧ nn = .int .i64 S ∧ Hid (S = sumTo l j) ∧ S ≤ 5000 ∧ j ≤ n ∧ j ≤ 151 ∧ n - j < k ∧ Hid (Below w.heap.size w wr))
    case atStart => exact ⟨0, 0, rfl, rfl, rfl, by omega, Nat.zero_le _, by omega, by omega, Below.refl _ _⟩
    case round =>
      obtain ⟨j, S, rfl, rfl, HS, hS, hj, hj2, hk, HB⟩ := hrel
      by_cases hlt : j < n
      · have hd : decide ((j : Int) < n) = true := by simp; omega
        have hx0 : (0 : Int) ≤ j := by omega
        have hx1 : (j : Int) < n := by omega
        obtain ⟨x, av, hx, hbx, hav, hcl⟩ := HC.out j hlt
        obtain ⟨m, hm⟩ : ∃ m, x.attrs.length = m := ⟨_, rfl⟩
        obtain ⟨b1, d1, rfl, hka⟩ := hav.cells
        rw [hm] at hka
        rw [hm] at hcl
        obtain ⟨nm, hnm⟩ : ∃ nm : ByteArray, (⟨x.name.toArray⟩ : ByteArray) = nm := ⟨_, rfl⟩
        obtain ⟨tx, htx⟩ : ∃ tx : ByteArray, (⟨x.text.toArray⟩ : ByteArray) = tx := ⟨_, rfl⟩
        obtain ⟨hns, _⟩ := sz_of hnm
        obtain ⟨hts, _⟩ := sz_of htx
        rw [hnm, htx] at hcl
        obtain ⟨hb1, hb2, hb3, hb4⟩ := hbx
        rw [hm] at hb3
        obtain ⟨T, hT⟩ : ∃ T, S + nm.size + tx.size + m = T := ⟨_, rfl⟩
        have hT0 : T = S + wt0 x 0 := by unfold wt0; simp; omega
        have hw1 := w64 (a := (S : Int) + nm.size) (by omega) (by omega)
        have hw2 := w64 (a := (S : Int) + nm.size + tx.size) (by omega) (by omega)
        have hw3 := w64 (a := (S : Int) + nm.size + tx.size + m) (by omega) (by omega)
        have hTT : (S : Int) + nm.size + tx.size + m = (T : Int) := by omega
        have hTb : T ≤ 1000000000000000 := by omega
        rw [hTT] at hw3
        have HX := Lib.hid hx
        have HM := Lib.hid hm
        have HKA := Lib.hid hka
        have HB4 := Lib.hid hb4
        have HT0 := Lib.hid hT0
        have HCL := Lib.hid hcl
        obtain ⟨y0, y1, y2⟩ := hcl wr HB.out
        clear hka hx hm hb4 hT0 hT hb1 hb2 hns hts hnm htx hcl hav
        obtain ⟨gk0, rfl⟩ : ∃ z, z = gk := ⟨_, rfl⟩
        have hjb : ∀ b : Bool, decide ((150 : Int) < j) = b → (b = false → j + 1 ≤ 151) := fun b hb hf => by subst hf; simp at hb; omega
        have HJB := Lib.hid hjb
        clear hjb
        go_wp2_with fail
        go_quiet (fail)
        go_wp2_with fail
        go_loopg [3, 5] (m + 1) (fun k2 nn q2 wr2 => ∃ q T2 : Nat, nn = .int .i64 T2 ∧ q2 = .int .i64 q ∧ Hid (T2 = S + wt0 x q) ∧ T2 ≤ 1000000000000000 ∧ q ≤ m ∧ m - q < k2 ∧ Hid (Below w.heap.size w wr2))
        case atStart => exact ⟨0, T, rfl, rfl, HT0, hTb, Nat.zero_le _, by omega, below_drewN HB.out _⟩
        case round =>
          clear HB HT0 y0 y1 y2 hw1 hw2 hw3 hTb
          obtain ⟨q, T2, rfl, rfl, HT2, hT2, hq, hk2, HB⟩ := hrel
          obtain ⟨y0, y1, y2⟩ := HCL.out wr HB.out
          have stop : ∀ (b : Bool), decide ((5000 : Int) < T2) = b → (b = true ∨ (q = m ∧ b = false)) → True := fun _ _ _ => trivial
          clear stop
          by_cases h5 : T2 ≤ 5000
          · have hd5 : decide ((T2 : Int) ≤ 5000) = true := by simp; omega
            have hd6 : decide ((5000 : Int) < T2) = false := by simp; omega
            by_cases hlt2 : q < m
            · have hd2 : decide ((q : Int) < m) = true := by simp; omega
              have hq0 : (0 : Int) ≤ q := by omega
              have hq1 : (q : Int) < m := by omega
              obtain ⟨ga, oa, rfl, hga, ha⟩ := HKA.out (by omega)
              have hax := List.getElem?_eq_getElem (l := x.attrs) (i := q) (by rw [HM.out]; exact hlt2)
              obtain ⟨a, hae⟩ : ∃ a, x.attrs[q]? = some a := ⟨_, hax⟩
              obtain ⟨u0, u1, u2⟩ := ha q a hae wr HB.out
              have hab := HB4.out a (List.mem_of_getElem? hae)
              obtain ⟨an, han⟩ : ∃ an : ByteArray, (⟨a.name.toArray⟩ : ByteArray) = an := ⟨_, rfl⟩
              obtain ⟨vl, hvl⟩ : ∃ vl : ByteArray, (⟨a.value.toArray⟩ : ByteArray) = vl := ⟨_, rfl⟩
              obtain ⟨has, _⟩ := sz_of han
              obtain ⟨hvs, _⟩ := sz_of hvl
              rw [han] at u0
              rw [hvl] at u1
              have hv1 := w64 (a := (T2 : Int) + an.size) (by omega) (by omega)
              have hv2 := w64 (a := (T2 : Int) + an.size + vl.size) (by omega) (by omega)
              have hTT2 : (T2 : Int) + an.size + vl.size = ((T2 + an.size + vl.size : Nat) : Int) := by omega
              have hnx : T2 + an.size + vl.size = S + wt0 x (q + 1) := by rw [wt0_next hae, HT2.out, has, hvs]; omega
              have hbd : T2 + an.size + vl.size ≤ 1000000000000000 := by omega
              obtain ⟨T3, hT3⟩ : ∃ T3, T2 + an.size + vl.size = T3 := ⟨_, rfl⟩
              rw [hT3] at hTT2 hnx hbd
              rw [hTT2] at hv2
              have HNX := Lib.hid hnx
              clear ha hax hae hab han hvl has hvs hnx hT3
              go_wp2_with fail
              go_quiet (fail)
              go_wp2_with fail
              go_roundg (gk - 1)
              case measure => omega
              case rel => exact ⟨q + 1, T3, by simp, by simp; (try (unfold wrap64; omega)), HNX, hbd, by omega, by omega, below_drewN HB.out _⟩
            · have hqm : q = m := by omega
              subst hqm
              have hd2 : decide ((q : Int) < q) = false := by simp
              have hsum : T2 = sumTo l (j + 1) := by
                rw [sumTo_next HX.out, ← HS.out, HT2.out, ← HM.out, wt0_all]
              have HSUM := Lib.hid hsum
              clear hsum
              cases hb150 : decide ((150 : Int) < j) with
              | true =>
                go_wp2_with fail
                go_ret
                exact ⟨_, rfl, HB.out, fun h => by cases h⟩
              | false =>
                have hj151 := HJB.out _ hb150 rfl
                go_wp2_with fail
                go_roundg (gk0 - 1)
                case measure => omega
                case rel => exact ⟨j + 1, T2, by simp, rfl, HSUM, h5, by omega, hj151, by omega, HB⟩
          · have hd5 : decide ((T2 : Int) ≤ 5000) = false := by simp; omega
            have hd6 : decide ((5000 : Int) < T2) = true := by simp; omega
            by_cases hlt2 : q < m
            · have hd2 : decide ((q : Int) < m) = true := by simp; omega
              go_wp2_with fail
              go_ret
              exact ⟨_, rfl, HB.out, fun h => by cases h⟩
            · have hqm : q = m := by omega
              subst hqm
              have hd2 : decide ((q : Int) < q) = false := by simp
              go_wp2_with fail
              go_ret
              exact ⟨_, rfl, HB.out, fun h => by cases h⟩
      · have hj' : j = n := by omega
        subst hj'
        have hd : decide ((j : Int) < j) = false := by simp
        go_wp2_with fail
        go_ret
        refine ⟨_, rfl, HB.out, fun _ => ⟨by rw [HN.out]; exact hj2, ?_⟩⟩
        have h := HS.out
        unfold sumTo at h
        rw [List.take_of_length_le (by rw [HN.out]; exact Nat.le_refl _)] at h
        omega
end Go.Proofs.YtokdclmikllepaaGreatDoor
