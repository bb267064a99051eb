import Derived.Test.YtokdclmikllepaaGreatDoorMr47
namespace Go.Proofs.YtokdclmikllepaaGreatDoor
open Go.RowKit
set_option linter.unusedVariables false
set_option linter.unusedSimpArgs false

set_option maxHeartbeats 4000000 in
set_option maxRecDepth 100000 in
theorem sameAttrs_calls (B B' : Nat) (w : World) (v1 v2 : Value) (l : List Sp.At) (h1 : AtsAt B w v1 l) (h2 : AtsAt B' w v2 l) (hl : l.length ≤ 70000) :
    Calls Tryz.prog 45 #[v1, v2] w fun e w' => e = .returned (.bool true) ∧ ∃ n, w' = w.drewN n := by
  obtain ⟨n, hn⟩ : ∃ n, l.length = n := ⟨_, rfl⟩
  by_cases h0 : n = 0
  · have hl0 : l = [] := List.eq_nil_of_length_eq_zero (by omega)
    subst hl0
    have e : ∀ {B : Nat} {v : Value}, AtsAt B w v [] → ∃ a c, v = .slice a 0 c := fun h => by
      rcases h.2 with ⟨rfl, _⟩ | ⟨g, cap, cur, rfl, _⟩
      · exact ⟨_, _, rfl⟩
      · exact ⟨_, _, rfl⟩
    obtain ⟨a1, c1, rfl⟩ := e h1
    obtain ⟨a2, c2, rfl⟩ := e h2
    clear e h1 h2
    go_enter Tryz.func45, Tryz.ntmps45
    go_wp2_with fail
    refine wp_loop_rounds 1 ?_
    rw [rounds_succ]
    go_wp2_with fail
    go_ret
    exact ⟨rfl, 0, rfl⟩
  · obtain ⟨g1, c1, rfl, -, -, hc1⟩ := h1.cell (by omega)
    obtain ⟨g2, c2, rfl, -, -, hc2⟩ := h2.cell (by omega)
    rw [hn] at hl ⊢
    have HC : Hid (∀ i, i < n → ∃ a : Sp.At, (w.cell? ⟨g1, i * 3, none⟩ = some (.string ⟨a.name.toArray⟩) ∧ w.cell? ⟨g1, i * 3 + 1, none⟩ = some (.string ⟨a.value.toArray⟩) ∧ w.cell? ⟨g1, i * 3 + 2, none⟩ = some (.int .i64 a.at_)) ∧
        (w.cell? ⟨g2, i * 3, none⟩ = some (.string ⟨a.name.toArray⟩) ∧ w.cell? ⟨g2, i * 3 + 1, none⟩ = some (.string ⟨a.value.toArray⟩) ∧ w.cell? ⟨g2, i * 3 + 2, none⟩ = some (.int .i64 a.at_))) := fun i hi => by
      obtain ⟨a, ha⟩ : ∃ a, l[i]? = some a := ⟨l[i]'(by omega), List.getElem?_eq_getElem (by omega)⟩
      exact ⟨a, hc1 i a ha, hc2 i a ha⟩
    clear hc1 hc2 h1 h2 hn h0
    go_enter Tryz.func45, Tryz.ntmps45
    go_wp2_with fail
    go_loopg [5] (n + 1) (fun k i wr => ∃ j : Nat, i = .int .i64 j ∧ j ≤ n ∧ n - j < k ∧ ∃ m, wr = w.drewN m)
    case atStart => exact ⟨0, rfl, Nat.zero_le _, by omega, 0, rfl⟩
    case round =>
      obtain ⟨j, rfl, hj, hk, m, rfl⟩ := hrel
      by_cases hlt : j < n
      · have hd : decide ((j : Int) < n) = true := by simp; omega
        have hx0 : (0 : Int) ≤ j := by omega
        have hx1 : (j : Int) < n := by omega
        obtain ⟨a, ⟨y0, y1, y2⟩, ⟨z0, z1, z2⟩⟩ := HC.out j hlt
        go_wp2_with fail
        go_quiet (fail)
        go_wp2_with fail
        go_roundg (gk - 1)
        case measure => omega
        case rel => exact ⟨j + 1, by simp, by omega, by omega, _, rfl⟩
      · have hj' : j = n := by omega
        subst hj'
        have hd : decide ((j : Int) < j) = false := by simp
        go_wp2_with fail
        go_ret
        exact ⟨rfl, _, rfl⟩
theorem AtsAt.below {B : Nat} {w w' : World} {v : Value} {l : List Sp.At} (h : AtsAt B w v l) (hb : Below w.heap.size w w') : AtsAt B w' v l := by
  refine h.kept (row := none) ⟨hb.os, hb.tape, hb.output, hb.size, fun i hi _ => hb.block i hi⟩ ?_
  cases hv : v.ownBlock <;> simp

/-- Marks as they are read. -/
def MksR (B : Nat) (w : World) (v : Value) (l : List Sp.Mk) : Prop :=
  (l = [] → ∃ a c, v = .slice a 0 c) ∧ (0 < l.length → ∃ g cap, v = .slice (some ⟨g, 0, none⟩) l.length cap ∧ g < w.heap.size ∧ ∀ i m, l[i]? = some m → ∃ av, AtsAt B w av m.attrs ∧
      w.cell? ⟨g, i * 6, none⟩ = some (.int .i64 m.kind) ∧ w.cell? ⟨g, i * 6 + 1, none⟩ = some (.string ⟨m.name.toArray⟩) ∧ w.cell? ⟨g, i * 6 + 2, none⟩ = some av ∧
      w.cell? ⟨g, i * 6 + 3, none⟩ = some (.bool m.empty) ∧ w.cell? ⟨g, i * 6 + 4, none⟩ = some (.string ⟨m.text.toArray⟩) ∧ w.cell? ⟨g, i * 6 + 5, none⟩ = some (.int .i64 m.at_))
theorem MksAt.toR {B : Nat} {w : World} {v : Value} {l : List Sp.Mk} (h : MksAt B w v l) : MksR B w v l := by
  refine ⟨fun e => by subst e; exact h.nil_inv, fun hl => ?_⟩
  obtain ⟨g, cap, e, _, hg, hc⟩ := h.cell hl
  exact ⟨g, cap, e, hg, hc⟩
set_option maxHeartbeats 8000000 in
set_option maxRecDepth 100000 in
theorem same_callsR (B B' : Nat) (w : World) (v1 v2 : Value) (ms : List Sp.Mk) (h1 : MksAt B w v1 ms) (h2 : MksR B' w v2 ms) (hl : ms.length ≤ 70000) (ha : ∀ m ∈ ms, m.attrs.length ≤ 70000) :
    Calls Tryz.prog 19 #[v1, v2] w fun e w' => e = .returned (.bool true) ∧ Below w.heap.size w w' := by
  obtain ⟨n, hn⟩ : ∃ n, ms.length = n := ⟨_, rfl⟩
  by_cases h0 : n = 0
  · have hl0 : ms = [] := List.eq_nil_of_length_eq_zero (by omega)
    subst hl0
    obtain ⟨a1, c1, rfl⟩ := h1.nil_inv
    obtain ⟨a2, c2, rfl⟩ := h2.1 rfl
    clear h1 h2
    go_enter Tryz.func19, Tryz.ntmps19
    go_wp2_with fail
    refine wp_loop_rounds 1 ?_
    rw [rounds_succ]
    go_wp2_with fail
    go_ret
    exact ⟨rfl, Below.refl _ _⟩
  · obtain ⟨g1, c1, rfl, -, hg1, hc1⟩ := h1.cell (by omega)
    obtain ⟨g2, c2, rfl, hg2, hc2⟩ := h2.2 (by omega)
    rw [hn] at hl ⊢
    have HC : Hid (∀ i, i < n → ∃ (m : Sp.Mk) (av1 av2 : Value), m.attrs.length ≤ 70000 ∧ AtsAt B w av1 m.attrs ∧ AtsAt B' w av2 m.attrs ∧
        (∀ W, Below w.heap.size w W → (W.cell? ⟨g1, i * 6, none⟩ = some (.int .i64 m.kind) ∧ W.cell? ⟨g1, i * 6 + 1, none⟩ = some (.string ⟨m.name.toArray⟩) ∧ W.cell? ⟨g1, i * 6 + 2, none⟩ = some av1 ∧ W.cell? ⟨g1, i * 6 + 3, none⟩ = some (.bool m.empty) ∧ W.cell? ⟨g1, i * 6 + 4, none⟩ = some (.string ⟨m.text.toArray⟩) ∧ W.cell? ⟨g1, i * 6 + 5, none⟩ = some (.int .i64 m.at_)) ∧
        (W.cell? ⟨g2, i * 6, none⟩ = some (.int .i64 m.kind) ∧ W.cell? ⟨g2, i * 6 + 1, none⟩ = some (.string ⟨m.name.toArray⟩) ∧ W.cell? ⟨g2, i * 6 + 2, none⟩ = some av2 ∧ W.cell? ⟨g2, i * 6 + 3, none⟩ = some (.bool m.empty) ∧ W.cell? ⟨g2, i * 6 + 4, none⟩ = some (.string ⟨m.text.toArray⟩) ∧ W.cell? ⟨g2, i * 6 + 5, none⟩ = some (.int .i64 m.at_)))) := fun i hi => by
      obtain ⟨m, hm⟩ : ∃ m, ms[i]? = some m := ⟨ms[i]'(by omega), List.getElem?_eq_getElem (by omega)⟩
      obtain ⟨av1, k1, x0, x1, x2, x3, x4, x5⟩ := hc1 i m hm
      obtain ⟨av2, k2, y0, y1, y2, y3, y4, y5⟩ := hc2 i m hm
      refine ⟨m, av1, av2, ha m (List.mem_of_getElem? hm), k1, k2, fun W hW => ?_⟩
      have e1 : ∀ j, W.cell? ⟨g1, j, none⟩ = w.cell? ⟨g1, j, none⟩ := fun j => World.cell?_of_block (hW.block g1 hg1)
      have e2 : ∀ j, W.cell? ⟨g2, j, none⟩ = w.cell? ⟨g2, j, none⟩ := fun j => World.cell?_of_block (hW.block g2 hg2)
      simp only [e1, e2]
      exact ⟨⟨x0, x1, x2, x3, x4, x5⟩, ⟨y0, y1, y2, y3, y4, y5⟩⟩
    clear hc1 hc2 h1 h2 hn h0 ha
    go_enter Tryz.func19, Tryz.ntmps19
    go_wp2_with fail
    go_loopg [5, 6, 7] (n + 1) (fun k i _ _ wr => ∃ j : Nat, i = .int .i64 j ∧ j ≤ n ∧ n - j < k ∧ Hid (Below w.heap.size w wr))
    case atStart => exact ⟨0, rfl, Nat.zero_le _, by omega, Below.refl _ _⟩
    case round =>
      obtain ⟨j, rfl, hj, hk, HB⟩ := hrel
      by_cases hlt : j < n
      · have hd : decide ((j : Int) < n) = true := by simp; omega
        have hx0 : (0 : Int) ≤ j := by omega
        have hx1 : (j : Int) < n := by omega
        obtain ⟨m, av1, av2, hml, ka1, ka2, hcell⟩ := HC.out j hlt
        have hc0 := hcell wr HB.out
        have hc1 := fun o => hcell (wr.alloc o) (HB.out.alloc HB.out.size o)
        obtain ⟨⟨x0, x1, x2, x3, x4, x5⟩, -⟩ := hc0
        have y0 := fun o => (hc1 o).2.1
        have y1 := fun o => (hc1 o).2.2.1
        have y2 := fun o => (hc1 o).2.2.2.1
        have y3 := fun o => (hc1 o).2.2.2.2.1
        have y4 := fun o => (hc1 o).2.2.2.2.2.1
        have y5 := fun o => (hc1 o).2.2.2.2.2.2
        have hv1 : ∃ a b c, av1 = .slice a b c := by rcases ka1.2 with ⟨rfl, _⟩ | ⟨g, cap, cur, rfl, _⟩ <;> exact ⟨_, _, _, rfl⟩
        have hv2 : ∃ a b c, av2 = .slice a b c := by rcases ka2.2 with ⟨rfl, _⟩ | ⟨g, cap, cur, rfl, _⟩ <;> exact ⟨_, _, _, rfl⟩
        obtain ⟨a1, b1, d1, rfl⟩ := hv1
        obtain ⟨a2, b2, d2, rfl⟩ := hv2
        have HK1 := Lib.hid ka1
        have HK2 := Lib.hid ka2
        clear hcell hc1 ka1 ka2
        go_wp2_with fail
        refine (sameAttrs_calls B B' _ _ _ m.attrs (HK1.out.below ?_) (HK2.out.below ?_) hml).mono ?_
        · exact (HB.out.alloc HB.out.size _).alloc (by rw [sz_alloc]; have := HB.out.size; omega) _
        · exact (HB.out.alloc HB.out.size _).alloc (by rw [sz_alloc]; have := HB.out.size; omega) _
        rintro e w' ⟨rfl, q, hw⟩
        have HB2 : Hid (Below w.heap.size w w') := by
          show Below w.heap.size w w'
          rw [hw]
          exact below_drewN ((HB.out.alloc HB.out.size _).alloc (by rw [sz_alloc]; have := HB.out.size; omega) _) _
        clear hw x0 x1 x2 x3 x4 x5 y0 y1 y2 y3 y4 y5
        go_wp2_with fail
        go_roundg (gk - 1)
        case measure => omega
        case rel => exact ⟨j + 1, by simp, by omega, by omega, HB2⟩
      · have hj' : j = n := by omega
        subst hj'
        have hd : decide ((j : Int) < j) = false := by simp
        go_wp2_with fail
        go_ret
        exact ⟨rfl, HB.out⟩
end Go.Proofs.YtokdclmikllepaaGreatDoor
