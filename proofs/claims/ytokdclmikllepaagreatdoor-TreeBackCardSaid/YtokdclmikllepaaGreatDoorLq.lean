import Derived.Test.YtokdclmikllepaaGreatDoorLp
namespace Go.Proofs.YtokdclmikllepaaGreatDoor
open Go.RowKit
set_option linter.unusedVariables false
set_option linter.unusedSimpArgs false

theorem sml_attr {b : Bool} {x y : Sp.EE} (h : SmE b x y) {k : Nat} (hk : k < x.attrs.length) : ∃ a c : Sp.EA, x.attrs[k]? = some a ∧ y.attrs[k]? = some c ∧ a.name = c.name ∧ a.value = c.value ∧ (b = true → a.at_ = c.at_) := by
  obtain ⟨_, _, _, _, hl, hc⟩ := h
  have h1 := List.getElem?_eq_getElem hk
  have h2 := List.getElem?_eq_getElem (l := y.attrs) (i := k) (by omega)
  exact ⟨_, _, h1, h2, hc k _ _ h1 h2⟩
set_option maxHeartbeats 8000000 in
set_option maxRecDepth 100000 in
theorem same9_calls (w : World) (v1 v2 : Value) (l m : List Sp.EE) (b : Bool) (h1 : ElsR w v1 l) (h2 : ElsR w v2 m) (hl : l.length ≤ 4096) (hlen : l.length = m.length)
    (h : ∀ (i : Nat) (x y : Sp.EE), l[i]? = some x → m[i]? = some y → SmE b x y) (hw : ∀ x ∈ l, wtEE x ≤ 100000) :
    Calls Tryz.prog 40 #[v1, v2, .bool b] w fun e w' => e = .returned (.bool true) ∧ Below w.heap.size w w' := by
  obtain ⟨n, hn⟩ : ∃ n, l.length = n := ⟨_, rfl⟩
  obtain ⟨a1, c1, rfl, hc1⟩ := h1.cells
  obtain ⟨a2, c2, rfl, hc2⟩ := h2.cells
  rw [← hlen] at hc2
  rw [← hlen]
  rw [hn] at hl hc1 hc2 ⊢
  clear h1 h2
  by_cases h0 : n = 0
  · subst h0
    clear hc1 hc2 h hw hn hlen
    go_enter Tryz.func40, Tryz.ntmps40
    go_wp2_with fail
    refine wp_loop_rounds 1 ?_
    rw [rounds_succ]
    go_wp2_with fail
    go_ret
    exact ⟨rfl, Below.refl _ _⟩
  · obtain ⟨g1, o1, rfl, hg1, hc1⟩ := hc1 (by omega)
    obtain ⟨g2, o2, rfl, hg2, hc2⟩ := hc2 (by omega)
    have HC : Hid (∀ i, i < n → ∃ (x y : Sp.EE) (av1 av2 : Value), SmE b x y ∧ x.attrs.length ≤ 100000 ∧ AtsR w av1 x.attrs ∧ AtsR w av2 y.attrs ∧
        (∀ W, Below w.heap.size w W → W.cell? ⟨g1, o1 + i * 5, none⟩ = some (.string ⟨x.name.toArray⟩) ∧ W.cell? ⟨g1, o1 + i * 5 + 1, none⟩ = some av1 ∧ W.cell? ⟨g1, o1 + i * 5 + 2, none⟩ = some (.string ⟨x.text.toArray⟩) ∧ W.cell? ⟨g1, o1 + i * 5 + 3, none⟩ = some (.int .i64 x.up) ∧ W.cell? ⟨g1, o1 + i * 5 + 4, none⟩ = some (.int .i64 x.at_)) ∧
        (∀ W, Below w.heap.size w W → W.cell? ⟨g2, o2 + i * 5, none⟩ = some (.string ⟨x.name.toArray⟩) ∧ W.cell? ⟨g2, o2 + i * 5 + 1, none⟩ = some av2 ∧ W.cell? ⟨g2, o2 + i * 5 + 2, none⟩ = some (.string ⟨x.text.toArray⟩) ∧ W.cell? ⟨g2, o2 + i * 5 + 3, none⟩ = some (.int .i64 x.up) ∧ W.cell? ⟨g2, o2 + i * 5 + 4, none⟩ = some (.int .i64 y.at_))) := fun i hi => by
      have hx := List.getElem?_eq_getElem (l := l) (i := i) (by omega)
      have hy := List.getElem?_eq_getElem (l := m) (i := i) (by omega)
      have hsm := h i _ _ hx hy
      obtain ⟨av1, k1, x0⟩ := hc1 i _ hx
      obtain ⟨av2, k2, y0⟩ := hc2 i _ hy
      have hwx := hw _ (List.mem_of_getElem? hx)
      refine ⟨_, _, av1, av2, hsm, ?_, k1, k2, x0, fun W hW => ?_⟩
      · have := sum_len wtEA (fun a => by unfold wtEA; omega) (l[i]'(by omega)).attrs
        unfold wtEE at hwx; omega
      · have := y0 W hW
        rw [← hsm.1, ← hsm.2.1, ← hsm.2.2.1] at this
        exact this
    clear hc1 hc2 hn h0 hlen h hw
    cases b
    all_goals
      go_enter Tryz.func40, Tryz.ntmps40
      go_wp2_with fail
      go_loopg [7, 8, 9, 10] (n + 1) (fun k i _ _ _ wr => ∃ j : Nat, i = .int .i64 j ∧ j ≤ n ∧ n - j < k ∧ Hid (Below w.heap.size w wr))
      case atStart => exact ⟨0, rfl, Nat.zero_le _, by omega, Below.refl _ _⟩
      case round =>
        obtain ⟨j, rfl, hj, hk, HB⟩ := hrel
        by_cases hlt : j < n
        · have hd : decide ((j : Int) < n) = true := by simp; omega
          have hx0 : (0 : Int) ≤ j := by omega
          have hx1 : (j : Int) < n := by omega
          obtain ⟨x, y, av1, av2, hsm, hal, ka1, ka2, hcx, hcy⟩ := HC.out j hlt
          obtain ⟨x0, x1, x2, x3, x4⟩ := hcx wr HB.out
          have hcy1 := fun o => hcy (wr.alloc o) (HB.out.alloc HB.out.size o)
          have y0 := fun o => (hcy1 o).1
          have y1 := fun o => (hcy1 o).2.1
          have y2 := fun o => (hcy1 o).2.2.1
          have y3 := fun o => (hcy1 o).2.2.2.1
          have y4 := fun o => (hcy1 o).2.2.2.2
          obtain ⟨n1, hn1⟩ : ∃ n1, x.attrs.length = n1 := ⟨_, rfl⟩
          have hn2 : y.attrs.length = n1 := by rw [← hn1]; exact hsm.2.2.2.2.1.symm
          obtain ⟨b1, d1, rfl, hk1⟩ := ka1.cells
          obtain ⟨b2, d2, rfl, hk2⟩ := ka2.cells
          rw [hn1] at hal hk1 x1
          rw [hn2] at hk2 y1
          have hatt := hsm.2.2.2.1
          have HSM := Lib.hid hsm
          have HK1 := Lib.hid hk1
          have HK2 := Lib.hid hk2
          have HN1 := Lib.hid hn1
          clear hcx hcy hcy1 ka1 ka2 hk1 hk2 hsm hn1 hn2
          obtain ⟨gk0, rfl⟩ : ∃ z, z = gk := ⟨_, rfl⟩
          obtain ⟨wr0, rfl⟩ : ∃ z, z = wr := ⟨_, rfl⟩
          have hbs := HB.out.size
          go_wp2_with fail
          go_loopg [10] (n1 + 1) (fun k2 q2 wr2 => ∃ q : Nat, q2 = .int .i64 q ∧ q ≤ n1 ∧ n1 - q < k2 ∧ Hid (Below w.heap.size w wr2) ∧ wr2.cell? ⟨wr0.heap.size, 1, none⟩ = some (.slice b1 n1 d1) ∧ wr2.cell? ⟨wr0.heap.size + 1, 1, none⟩ = some (.slice b2 n1 d2))
          case atStart =>
            refine ⟨0, rfl, Nat.zero_le _, by omega, (HB.out.alloc hbs _).alloc (by rw [sz_alloc]; omega) _, ?_, ?_⟩
            · exact (cell_of_row _ _ 1 _ _ _ ((heap_alloc_old _ _ (by rw [sz_alloc]; omega)).trans (heap_alloc_new _ _))).trans rfl
            · exact (cell_of_row _ _ 1 _ _ _ (by rw [← sz_alloc wr0]; exact heap_alloc_new _ _)).trans rfl
          case round =>
            clear HB x0 x1 x2 x3 x4 y0 y1 y2 y3 y4
            obtain ⟨q, rfl, hq, hk2, HB, z1, z2⟩ := hrel
            by_cases hlt2 : q < n1
            · have hd2 : decide ((q : Int) < n1) = true := by simp; omega
              have hq0 : (0 : Int) ≤ q := by omega
              have hq1 : (q : Int) < n1 := by omega
              obtain ⟨ga, oa, rfl, hga, ha⟩ := HK1.out (by omega)
              obtain ⟨gb, ob, rfl, hgb, hbb⟩ := HK2.out (by omega)
              obtain ⟨a, c, ha1, hc1, e1, e2, e3⟩ := sml_attr HSM.out (k := q) (by rw [HN1.out]; exact hlt2)
              obtain ⟨u0, u1, u2⟩ := ha q a ha1 wr HB.out
              obtain ⟨v0, v1, v2⟩ := hbb q c hc1 wr HB.out
              rw [← e1] at v0
              rw [← e2] at v1
              have e3' := e3
              clear ha hbb ha1 hc1 e1 e2
              go_wp2_with fail
              go_quiet (fail)
              go_wp2_with fail
              go_roundg (gk - 1)
              case measure => omega
              case rel => exact ⟨q + 1, by simp, by omega, by omega, below_drewN HB.out _, z1, z2⟩
            · have hq' : q = n1 := by omega
              subst hq'
              have hd2 : decide ((q : Int) < q) = false := by simp
              go_wp2_with fail
              go_roundg (gk0 - 1)
              case measure => omega
              case rel => exact ⟨j + 1, by simp, by omega, by omega, HB⟩
        · have hj' : j = n := by omega
          subst hj'
          have hd : decide ((j : Int) < j) = false := by simp
          go_wp2_with fail
          go_ret
          exact ⟨rfl, HB.out⟩
end Go.Proofs.YtokdclmikllepaaGreatDoor
