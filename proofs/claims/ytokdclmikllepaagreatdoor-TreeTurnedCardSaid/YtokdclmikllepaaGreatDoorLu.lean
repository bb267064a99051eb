import Derived.Test.YtokdclmikllepaaGreatDoorLt
import Derived.BigRegion
namespace Go.Proofs.YtokdclmikllepaaGreatDoor
open Go.RowKit
set_option linter.unusedVariables false
set_option linter.unusedSimpArgs false

set_option maxHeartbeats 4000000 in
set_option maxRecDepth 100000 in
theorem sameAttrsR_calls (w : World) (v1 v2 : Value) (l : List Sp.EA) (h1 : AtsR w v1 l) (h2 : AtsR w v2 l) (hl : l.length ≤ 100000) :
    Calls Tryz.prog 45 #[v1, v2] w fun e w' => e = .returned (.bool true) ∧ Below w.heap.size w w' := by
  obtain ⟨n, hn⟩ : ∃ n, l.length = n := ⟨_, rfl⟩
  obtain ⟨a1, c1, rfl, hc1⟩ := h1.cells
  obtain ⟨a2, c2, rfl, hc2⟩ := h2.cells
  rw [hn] at hl hc1 hc2 ⊢
  clear h1 h2
  by_cases h0 : n = 0
  · subst h0
    clear hc1 hc2 hn
    go_enter Tryz.func45, Tryz.ntmps45
    go_wp2_with fail
    refine wp_loop_rounds 1 ?_
    rw [rounds_succ]
    go_wp2_with fail
    go_ret
    exact ⟨rfl, Below.refl _ _⟩
  · obtain ⟨g1, o1, rfl, hg1, hc1⟩ := hc1 (by omega)
    obtain ⟨g2, o2, rfl, hg2, hc2⟩ := hc2 (by omega)
    have HC : Hid (∀ i, i < n → ∃ a : Sp.EA, (w.cell? ⟨g1, o1 + i * 3, none⟩ = some (.string ⟨a.name.toArray⟩) ∧ w.cell? ⟨g1, o1 + i * 3 + 1, none⟩ = some (.string ⟨a.value.toArray⟩) ∧ w.cell? ⟨g1, o1 + i * 3 + 2, none⟩ = some (.int .i64 a.at_)) ∧
        (w.cell? ⟨g2, o2 + i * 3, none⟩ = some (.string ⟨a.name.toArray⟩) ∧ w.cell? ⟨g2, o2 + i * 3 + 1, none⟩ = some (.string ⟨a.value.toArray⟩) ∧ w.cell? ⟨g2, o2 + i * 3 + 2, none⟩ = some (.int .i64 a.at_))) := fun i hi => by
      have hx := List.getElem?_eq_getElem (l := l) (i := i) (by omega)
      exact ⟨_, hc1 i _ hx w (Below.refl _ _), hc2 i _ hx w (Below.refl _ _)⟩
    clear hc1 hc2 hn h0
    go_enter Tryz.func45, Tryz.ntmps45
    go_wp2_with fail
    go_loopg [5] (n + 1) (fun k i wr => ∃ j : Nat, i = .int .i64 j ∧ j ≤ n ∧ n - j < k ∧ ∃ m, wr = w.drewN m)
    case atStart => exact ⟨0, rfl, Nat.zero_le _, by omega, 0, rfl⟩
    case round =>
      obtain ⟨j, rfl, hj, hk, m, rfl⟩ := hrel
      by_cases hlt : j < n
      · have hd : decide ((j : Int) < n) = true := by simp; omega
        have hx0 : (0 : Int) ≤ j := by omega
        have hx1 : (j : Int) < n := by omega
        obtain ⟨a, ⟨y0, y1, y2⟩, ⟨z0, z1, z2⟩⟩ := HC.out j hlt
        go_wp2_with fail
        go_quiet (fail)
        go_wp2_with fail
        go_roundg (gk - 1)
        case measure => omega
        case rel => exact ⟨j + 1, by simp, by omega, by omega, _, rfl⟩
      · have hj' : j = n := by omega
        subst hj'
        have hd : decide ((j : Int) < j) = false := by simp
        go_wp2_with fail
        go_ret
        exact ⟨rfl, below_drewN (Below.refl _ _) _⟩

def byEA (d : Int) (a : Sp.EA) : Sp.EA := ⟨a.name, a.value, a.at_ + d⟩
theorem infoAttr9 : (Tryz.prog.info? 42).map (fun i => (i.zero, i.size, i.bytes)) = some (some (.agg #[.string ⟨#[]⟩, .string ⟨#[]⟩, .int .i64 0]), 3, 40) := by kernel_rfl
set_option maxHeartbeats 4000000 in
set_option maxRecDepth 100000 in
theorem moved_calls (w : World) (v : Value) (l : List Sp.EA) (h : AtsR w v l) (hl : l.length ≤ 100000) (hb : ∀ a ∈ l, 0 ≤ a.at_ ∧ a.at_ ≤ 200000) :
    Calls Tryz.prog 46 #[v, .int .i64 (-9)] w fun e w' => ∃ v', e = .returned v' ∧ EasAt w.heap.size w' v' (l.map (byEA (-9))) ∧ Below w.heap.size w w' := by
  obtain ⟨n, hn⟩ : ∃ n, l.length = n := ⟨_, rfl⟩
  obtain ⟨a1, c1, rfl, hc1⟩ := h.cells
  rw [hn] at hl hc1 ⊢
  clear h
  by_cases h0 : n = 0
  · have hl0 : l = [] := List.eq_nil_of_length_eq_zero (by omega)
    subst hl0 h0
    clear hc1 hn hb
    go_enter Tryz.func46, Tryz.ntmps46
    go_wp2_with fail
    refine wp_loop_rounds 1 ?_
    rw [rounds_succ]
    go_wp2_with fail
    go_ret
    exact ⟨_, rfl, ⟨rfl, .inl ⟨rfl, rfl⟩⟩, Below.refl _ _⟩
  · obtain ⟨g1, o1, rfl, hg1, hc1⟩ := hc1 (by omega)
    have HC : Hid (∀ i, i < n → ∃ a : Sp.EA, l[i]? = some a ∧ 0 ≤ a.at_ ∧ a.at_ ≤ 200000 ∧ ∀ W, Below w.heap.size w W → W.cell? ⟨g1, o1 + i * 3, none⟩ = some (.string ⟨a.name.toArray⟩) ∧ W.cell? ⟨g1, o1 + i * 3 + 1, none⟩ = some (.string ⟨a.value.toArray⟩) ∧ W.cell? ⟨g1, o1 + i * 3 + 2, none⟩ = some (.int .i64 a.at_)) := fun i hi => by
      have hx := List.getElem?_eq_getElem (l := l) (i := i) (by omega)
      have := hb _ (List.mem_of_getElem? hx)
      exact ⟨_, hx, this.1, this.2, hc1 i _ hx⟩
    have HN := Lib.hid hn
    clear hc1 h0 hb hn
    obtain ⟨i0, hi, hz0, hz1, hz2⟩ := info_parts infoAttr9
    go_enter Tryz.func46, Tryz.ntmps46
    go_wp2_with fail
    go_loopg [5, 6] (n + 1) (fun k out i wr => ∃ (j : Nat) (oa : Option Addr) (oc : Nat), i = .int .i64 j ∧ out = .slice oa j oc ∧ j ≤ n ∧ n - j < k ∧ Hid (EasAt w.heap.size wr (.slice oa j oc) ((l.take j).map (byEA (-9)))) ∧ Hid (Below w.heap.size w wr))
    case atStart => exact ⟨0, none, 0, rfl, rfl, Nat.zero_le _, by omega, ⟨rfl, .inl ⟨rfl, rfl⟩⟩, Below.refl _ _⟩
    case round =>
      obtain ⟨j, oa, oc, rfl, rfl, hj, hk, HO, HB⟩ := hrel
      by_cases hlt : j < n
      · have hd : decide ((j : Int) < n) = true := by simp; omega
        have hx0 : (0 : Int) ≤ j := by omega
        have hx1 : (j : Int) < n := by omega
        obtain ⟨a, ha, ha0, ha1, hcl⟩ := HC.out j hlt
        obtain ⟨y0, y1, y2⟩ := hcl wr HB.out
        have hw9 : IntKind.i64.wrap (a.at_ + -9) = a.at_ + -9 := IntWalk.i64_in _ (by omega)
        have hbs := HB.out.size
        clear hcl
        have hlj : ((l.take j).map (byEA (-9))).length = j := by rw [List.length_map, List.length_take, HN.out]; omega
        obtain ⟨xs, hxs⟩ : ∃ xs, ((l.take j).map (byEA (-9))).flatMap eaCells = xs := ⟨_, rfl⟩
        have hown : wr.ownsRow w.heap.size 42 3 (.slice oa j oc) j xs := by
          have h := HO.out
          unfold EasAt at h
          rw [hlj, hxs] at h
          exact h
        have HXS := Lib.hid hxs
        have HA := Lib.hid ha
        clear hlj hxs ha HO
        go_wp2_with fail
        go_region_law (refine step_append_lies _ rfl (.tmp 13) (.tmp 32) 38 rfl w.heap.size 42 i0 _ 3 40 Tryz.underlying38 hi hz0 hz1 hz2 rfl (by decide) (.slice oa j oc) j xs (by simp [Act.eval, Act.put]) ?_ ⟨wr.heap.size, 0, none⟩ 1 1 [.string ⟨a.name.toArray⟩, .string ⟨a.value.toArray⟩, .int .i64 (a.at_ + -9)] (by simp [Act.eval, Act.put]) rfl ?_ ?_ ?_ ?_ ?_ ?_ _ rfl ?_; (· first | exact hown.alloc _ | exact (hown.alloc _).drew | exact hown.drew.alloc _); (· exact World.news_of_block (cs := #[.string ⟨a.name.toArray⟩, .string ⟨a.value.toArray⟩, .int .i64 (a.at_ + -9)]) (heap_alloc_new wr _)); (· simp [Value.oneCell']); (· omega); (· unfold maxLen; omega); (· omega); (· simp; omega); (intro g' cap w1 hown1 hgrow hat1 hlt1))
        all_goals
          go_wp2
          go_roundg (gk - 1)
          case measure => omega
          case rel =>
            have hbw : Below w.heap.size w ((wr.alloc (.cells #[.string ⟨a.name.toArray⟩, .string ⟨a.value.toArray⟩, .int .i64 (a.at_ + -9)] 42)).drew) := Below.drew (HB.out.alloc hbs _)
            refine ⟨j + 1, some ⟨g', 0, none⟩, cap, by simp, rfl, by omega, by omega, ?_, ?_⟩
            · show EasAt _ _ _ _
              have hlj2 : ((l.take (j + 1)).map (byEA (-9))).length = j + 1 := by rw [List.length_map, List.length_take, HN.out]; omega
              have hfl : ((l.take (j + 1)).map (byEA (-9))).flatMap eaCells = xs ++ [.string ⟨a.name.toArray⟩, .string ⟨a.value.toArray⟩, .int .i64 (a.at_ + -9)] := by
                rw [List.take_add_one, HA.out, List.map_append, List.flatMap_append, HXS.out]
                rfl
              unfold EasAt
              rw [hlj2, hfl]
              exact hown1
            · refine hbw.trans ⟨hgrow.os, hgrow.tape, hgrow.output, hgrow.size, fun k hk => hgrow.block k (by show k < (wr.alloc _).heap.size; rw [sz_alloc]; omega) (fun e => ?_)⟩
              have := (World.ownsRow.lt hown k e.symm).1
              omega
      · have hj' : j = n := by omega
        subst hj'
        have hd : decide ((j : Int) < j) = false := by simp
        have HO2 : Hid (EasAt w.heap.size wr (.slice oa j oc) (l.map (byEA (-9)))) := by
          have h := HO.out
          rw [List.take_of_length_le (by rw [HN.out]; exact Nat.le_refl _)] at h
          exact h
        go_wp2_with fail
        go_ret
        exact ⟨_, rfl, HO2.out, HB.out⟩
end Go.Proofs.YtokdclmikllepaaGreatDoor
