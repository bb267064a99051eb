import Derived.Test.YtokdclmikllepaaGreatDoorMd
import Derived.Laws.AppendOwnNone
import Derived.BigQuiet
namespace Go.Proofs.YtokdclmikllepaaGreatDoor
open Go.RowKit
set_option linter.unusedVariables false
set_option linter.unusedSimpArgs false

/-! ### SpacesDefault: rows copied -/
theorem run_append_nn (w : World) (t ty e : TypeId) (i : TypeInfo) (ht : Tryz.prog.underlying t = some (.slice e)) (hi : Tryz.prog.info? e = some i) (c : Nat) :
    (Builtin.append_ #[t, t] ty #[.slice none 0 0, .slice none 0 c]).run Tryz.prog w = .ok (.slice none 0 0) w := by
  simp [Builtin.append_, run_underlying ht, sizeOf, typeInfo, hi, Builtin.lenOf, Builtin.firstCells]
theorem wpList_app_nn {w : World} {ops : Array Oper} {rest : List Oper} {o : Oper} {a : Act} {Q : Exit → Act → World → Prop} (hgd : o.guard = none) (s x : Operand) (t : TypeId)
    (ho : o.op = .call { callee := .builtin .append, args := #[s, x], argTypes := #[t, t] }) (e : TypeId) (i : TypeInfo) (ht : Tryz.prog.underlying t = some (.slice e)) (hi : Tryz.prog.info? e = some i) (c : Nat)
    (hs : a.eval s = .slice none 0 0) (hx : a.eval x = .slice none 0 c) (h : wpList Tryz.prog ops Q rest (a.put o.dst (.slice none 0 0)) w) : wpList Tryz.prog ops Q (o :: rest) a w := by
  refine wpList_plain hgd fun K hK => ?_
  have hrun := run_append_nn w t o.type e i ht hi c
  unfold Oper.wp
  simp [execOp, ho, resolve, invoke, builtin, hs, hx, hrun, Result.andThen]
  exact hK _ _ h
theorem addr_add10 (g o j : Nat) : (⟨g, o, none⟩ : Addr).add j = ⟨g, o + j, none⟩ := by unfold Addr.add; split <;> simp_all
theorem eeCells_one {x : Sp.EE} {av : Value} {w : World} (h : AtsR w av x.attrs) : ∀ u ∈ eeCells x av, u.oneCell' = true := by
  obtain ⟨a, c, rfl, _⟩ := h
  intro u hu
  simp only [eeCells, List.mem_cons, List.not_mem_nil, or_false] at hu
  rcases hu with rfl | rfl | rfl | rfl | rfl <;> rfl
theorem els_ps {w : World} {v : Value} {l : List Sp.EE} (h : ElsR w v l) (hpos : 0 < l.length) :
    ∃ (g o c : Nat) (ps : List (Sp.EE × Value)), v = .slice (some ⟨g, o, none⟩) l.length c ∧ ps.map Prod.fst = l ∧ (∀ p ∈ ps, AtsR w p.2 p.1.attrs) ∧ ∀ j u, (ps.flatMap fun p => eeCells p.1 p.2)[j]? = some u → w.cell? ⟨g, o + j, none⟩ = some u := by
  obtain ⟨a, c, rfl, hc⟩ := h
  obtain ⟨g, o, rfl, hg, h2⟩ := hc hpos
  have h3 : ∀ i, ∃ av : Value, ∀ x, l[i]? = some x → AtsR w av x.attrs ∧ w.cell? ⟨g, o + i * 5, none⟩ = some (.string ⟨x.name.toArray⟩) ∧ w.cell? ⟨g, o + i * 5 + 1, none⟩ = some av ∧ w.cell? ⟨g, o + i * 5 + 2, none⟩ = some (.string ⟨x.text.toArray⟩) ∧
      w.cell? ⟨g, o + i * 5 + 3, none⟩ = some (.int .i64 x.up) ∧ w.cell? ⟨g, o + i * 5 + 4, none⟩ = some (.int .i64 x.at_) := fun i => by
    cases hx : l[i]? with
    | none => exact ⟨.bool true, fun x h => by cases h⟩
    | some x =>
      obtain ⟨av, k⟩ := h2 i x hx
      exact ⟨av, fun y hy => by injection hy with hy; subst hy; exact k⟩
  obtain ⟨f, hf⟩ := Classical.axiomOfChoice h3
  have hps : ∀ k, (l.zipIdx.map (fun p : Sp.EE × Nat => (p.1, f p.2)))[k]? = (l[k]?).map (fun x => (x, f k)) := fun k => by
    rw [List.getElem?_map, List.getElem?_zipIdx]
    cases l[k]? with
    | none => rfl
    | some x => simp
  refine ⟨g, o, c, l.zipIdx.map (fun p : Sp.EE × Nat => (p.1, f p.2)), rfl, ?_, fun p hp => ?_, fun j u hu => ?_⟩
  · apply List.ext_getElem?
    intro k
    rw [List.getElem?_map, hps]
    cases l[k]? <;> rfl
  · obtain ⟨k, hk⟩ := List.mem_iff_getElem?.1 hp
    rw [hps] at hk
    obtain ⟨x, hx, rfl⟩ := Option.map_eq_some_iff.1 hk
    exact (hf k x hx).1
  · have hj : j = (j / 5) * 5 + j % 5 := by omega
    have hm : j % 5 < 5 := by omega
    rw [hj, flat_get (fun p : Sp.EE × Value => eeCells p.1 p.2) 5 (fun _ => rfl) _ (j / 5) (j % 5) hm, hps] at hu
    cases hx : l[j / 5]? with
    | none => rw [hx] at hu; cases hu
    | some x =>
      rw [hx] at hu
      simp only [Option.map_some, Option.bind_some] at hu
      obtain ⟨_, k0, k1, k2, k3, k4⟩ := hf (j / 5) x hx
      rw [hj]
      generalize j % 5 = r at hm hu ⊢
      generalize j / 5 = q at k0 k1 k2 k3 k4 hu ⊢
      rw [← Nat.add_assoc]
      match r, hm, hu with
      | 0, _, hu => injection hu with hu; subst hu; exact k0
      | 1, _, hu => injection hu with hu; subst hu; exact k1
      | 2, _, hu => injection hu with hu; subst hu; exact k2
      | 3, _, hu => injection hu with hu; subst hu; exact k3
      | 4, _, hu => injection hu with hu; subst hu; exact k4
theorem ats_news {w : World} {g o : Nat} {l : List Sp.EA} (h2 : ∀ i x, l[i]? = some x → w.cell? ⟨g, o + i * 3, none⟩ = some (.string ⟨x.name.toArray⟩) ∧ w.cell? ⟨g, o + i * 3 + 1, none⟩ = some (.string ⟨x.value.toArray⟩) ∧ w.cell? ⟨g, o + i * 3 + 2, none⟩ = some (.int .i64 x.at_)) :
    ∀ j u, (l.flatMap eaCells)[j]? = some u → w.cell? ⟨g, o + j, none⟩ = some u := fun j u hu => by
  have hj : j = (j / 3) * 3 + j % 3 := by omega
  have hm : j % 3 < 3 := by omega
  rw [hj, flat_get eaCells 3 (fun _ => rfl) _ (j / 3) (j % 3) hm] at hu
  cases hx : l[j / 3]? with
  | none => rw [hx] at hu; cases hu
  | some x =>
    rw [hx] at hu
    simp only [Option.bind_some] at hu
    obtain ⟨k0, k1, k2⟩ := h2 (j / 3) x hx
    rw [hj]
    generalize j % 3 = r at hm hu ⊢
    generalize j / 3 = q at k0 k1 k2 hu ⊢
    rw [← Nat.add_assoc]
    match r, hm, hu with
    | 0, _, hu => injection hu with hu; subst hu; exact k0
    | 1, _, hu => injection hu with hu; subst hu; exact k1
    | 2, _, hu => injection hu with hu; subst hu; exact k2
theorem row_R {B : Nat} {w : World} {v : Value} {ps : List (Sp.EE × Value)} (hown : w.ownsRow B 53 5 v ps.length (ps.flatMap fun p => eeCells p.1 p.2)) (hat : ∀ p ∈ ps, AtsR w p.2 p.1.attrs) : ElsR w v (ps.map Prod.fst) := by
  by_cases h0 : ps.length = 0
  · rcases hown.2 with ⟨rfl, _⟩ | ⟨q, cap, cur, rfl, _⟩
    · exact ⟨none, 0, by rw [List.length_map, h0], fun h => by rw [List.length_map] at h; omega⟩
    · exact ⟨_, cap, by rw [List.length_map], fun h => by rw [List.length_map] at h; omega⟩
  · obtain ⟨g, cap, rfl, hb, hlt, hc⟩ := ownsRow_cells hown (by omega)
    refine ⟨_, _, by rw [List.length_map], fun _ => ⟨g, 0, rfl, hlt, fun i a ha => ?_⟩⟩
    have hf := fun k hk => flat_get (fun x : Sp.EE × Value => eeCells x.1 x.2) 5 (fun _ => rfl) ps i k hk
    rw [Nat.zero_add]
    rw [List.getElem?_map] at ha
    obtain ⟨x, hx, rfl⟩ := Option.map_eq_some_iff.1 ha
    refine ⟨x.2, hat x (List.mem_of_getElem? hx), hc _ _ ?_, hc _ _ ?_, hc _ _ ?_, hc _ _ ?_, hc _ _ ?_⟩
    · rw [show i * 5 = i * 5 + 0 from rfl, hf 0 (by omega), hx]; rfl
    · rw [hf 1 (by omega), hx]; rfl
    · rw [hf 2 (by omega), hx]; rfl
    · rw [hf 3 (by omega), hx]; rfl
    · rw [hf 4 (by omega), hx]; rfl
theorem own_put {w : World} {B g n cap size i : Nat} {e : TypeId} {xs : List Value} {u : Value} (h : w.ownsRow B e size (.slice (some ⟨g, 0, none⟩) n cap) n xs) (hi : i < n * size) :
    (w.setCell ⟨g, i, none⟩ u).ownsRow B e size (.slice (some ⟨g, 0, none⟩) n cap) n (xs.set i u) ∧ w.grownBy (w.setCell ⟨g, i, none⟩ u) (some g) ∧ w.frozen? ⟨g, i, none⟩ = false ∧ w.cell? ⟨g, i, none⟩ = xs[i]? ∧ ∃ cs, w.heap[g]? = some (.cells cs e (0, 0)) := by
  obtain ⟨hl, h2⟩ := h
  rcases h2 with ⟨h2, _⟩ | ⟨g', cap', cur, hv, hb, hg, hnc, hcm, hcs, ht⟩
  · cases h2
  · injection hv with hv1 hv2 hv3
    injection hv1 with hv1
    injection hv1 with hv1
    subst hv1 hv3
    have hst := set_new hg (i := i) u
    have hcz : i < cur.size := by rw [hcs]; exact Nat.lt_of_lt_of_le hi (Nat.mul_le_mul_right _ hnc)
    refine ⟨⟨by simpa using hl, .inr ⟨g, cap, _, rfl, hb, hst.1, hnc, hcm, by simpa using hcs, ?_⟩⟩, hst.2, not_frozen hg, ?_, ⟨_, hg⟩⟩
    · rw [Array.toList_setIfInBounds, List.take_set, ht]
    · rw [cell_of_row _ _ i _ _ _ hg, ← ht, List.getElem?_take, if_pos hi]
      simp
end Go.Proofs.YtokdclmikllepaaGreatDoor
namespace Go.Proofs.YtokdclmikllepaaGreatDoor
open Go.RowKit
set_option linter.unusedVariables false
set_option linter.unusedSimpArgs false

/-! ### law10.doubled -/
theorem chain_neg {l : List Sp.EE} {n : Nat} {u : Int} (h : u < 0) : chain l n u = [] := by
  cases n with
  | zero => rfl
  | succ n => unfold chain; rw [if_pos h]
theorem chain_step {l : List Sp.EE} (h : UpLt l) {n k : Nat} {x : Sp.EE} (hk : k < n) (hx : l[k]? = some x) : chain l n (k : Int) = x.attrs :: chain l n x.up := by
  cases n with
  | zero => omega
  | succ n =>
    have := h k x hx
    conv => lhs; unfold chain
    rw [if_neg (by omega), Int.toNat_natCast, hx]
    simp only
    rw [chain_fuel h n (n + 1) x.up (by omega) (by omega)]
theorem nodup_mk {A : List Sp.EA} (h : ∀ (i j : Nat) (a b : Sp.EA), i < j → A[i]? = some a → A[j]? = some b → a.name ≠ b.name) : NoDup A := by
  unfold NoDup
  rw [List.nodup_iff_pairwise_ne, List.pairwise_iff_getElem]
  intro i j hi hj hij
  rw [List.length_map] at hi hj
  rw [List.getElem_map, List.getElem_map]
  exact h i j _ _ hij (List.getElem?_eq_getElem hi) (List.getElem?_eq_getElem hj)
set_option maxHeartbeats 16000000 in
set_option maxRecDepth 100000 in
theorem doubled_calls (w : World) (v : Value) (l : List Sp.EE) (h : ElsR w v l) (hl : l.length ≤ 151) (hb : ∀ x ∈ l, x.attrs.length ≤ 300) (hu : UpLt l) (hu1 : ∀ x ∈ l, -1 ≤ x.up) (i : Nat) (hi : i < l.length) (hd : ∃ A ∈ chain l l.length (i : Int), ¬ NoDup A) :
    Calls Tryz.prog 36 #[v, .int .i64 (i : Int)] w fun e w' => e = .returned (.bool true) ∧ Below w.heap.size w w' := by
  obtain ⟨n, hn⟩ : ∃ n, l.length = n := ⟨_, rfl⟩
  obtain ⟨a1, c1, rfl, hc1⟩ := h.cells
  obtain ⟨g1, o1, rfl, hg1, hc1⟩ := hc1 (by omega)
  rw [hn] at hl hi hd ⊢
  have HN := Lib.hid hn
  have HC := Lib.hid hc1
  have HBD := Lib.hid hb
  have HU := Lib.hid hu
  have HU1 := Lib.hid hu1
  have HD := Lib.hid hd
  clear hc1 hn hb hu hu1 hd h
  go_enter Tryz.func36, Tryz.ntmps36
  go_wp2_with fail
  go_loopg [1, 5, 6] (n + 1) (fun k u _ _ wr => ∃ ui : Nat, u = .int .i64 ui ∧ ui < n ∧ ui < k ∧ Hid (∃ A ∈ chain l n (ui : Int), ¬ NoDup A) ∧ Hid (Below w.heap.size w wr))
  case atStart => exact ⟨i, rfl, hi, by omega, HD, Below.refl _ _⟩
  case round =>
    clear HD
    obtain ⟨gk0, rfl⟩ : ∃ z, z = gk := ⟨_, rfl⟩
    obtain ⟨j, rfl, hj, hk, HD, HB⟩ := hrel
    have hj0 : (0 : Int) ≤ j := by omega
    have hj1 : (j : Int) < n := by omega
    obtain ⟨x, hx⟩ : ∃ x, l[j]? = some x := ⟨_, List.getElem?_eq_getElem (by rw [HN.out]; exact hj)⟩
    have hux := HU.out j x hx
    have hux1 := HU1.out x (List.mem_of_getElem? hx)
    obtain ⟨av, hav, hcl⟩ := HC.out j x hx
    obtain ⟨aa, ac, rfl, hca⟩ := hav.cells
    have hna3 := HBD.out x (List.mem_of_getElem? hx)
    have hch := HD.out
    rw [chain_step HU.out hj hx] at hch
    obtain ⟨na, hna⟩ : ∃ na, x.attrs.length = na := ⟨_, rfl⟩
    rw [hna] at hcl hca hna3
    have HCL := Lib.hid hcl
    have HCA := Lib.hid hca
    have HNA := Lib.hid hna
    have HCH := Lib.hid hch
    have HUX := Lib.hid hux
    have HUX1 := Lib.hid hux1
    clear hx hux hux1 hav hcl hca hna hch HD
    go_wp2_with fail
    go_loopg [5, 6] (na + 1) (fun k2 q2 _ wr2 => ∃ q : Nat, q2 = .int .i64 q ∧ q ≤ na ∧ na - q < k2 ∧ Hid (∀ i j a b, i < j → j < q → x.attrs[i]? = some a → x.attrs[j]? = some b → a.name ≠ b.name) ∧ Hid (Below w.heap.size w wr2))
    case atStart => exact ⟨0, rfl, Nat.zero_le _, by omega, (fun i j a b h1 h2 => by omega), HB⟩
    case round =>
      clear HB
      obtain ⟨gk1, rfl⟩ : ∃ z, z = gk := ⟨_, rfl⟩
      obtain ⟨q, rfl, hq, hk2, HNQ, HB⟩ := hrel
      obtain ⟨-, y1, -, y3, -⟩ := HCL.out wr HB.out
      by_cases hlt2 : q < na
      · have hd2 : decide ((q : Int) < na) = true := by simp; omega
        have hq0 : (0 : Int) ≤ q := by omega
        have hq1 : (q : Int) < na := by omega
        obtain ⟨ga, oa, rfl, hga, ha⟩ := HCA.out (by omega)
        obtain ⟨b, hb1⟩ : ∃ b, x.attrs[q]? = some b := ⟨_, List.getElem?_eq_getElem (by rw [HNA.out]; exact hlt2)⟩
        obtain ⟨bn, hbn⟩ : ∃ bn : ByteArray, (⟨b.name.toArray⟩ : ByteArray) = bn := ⟨_, rfl⟩
        have HA := Lib.hid ha
        have HB1 := Lib.hid hb1
        have HBN := Lib.hid hbn
        clear ha hb1 hbn y3
        go_wp2_with fail
        go_loopg [6] (q + 1) (fun k3 p2 wr3 => ∃ p : Nat, p2 = .int .i64 p ∧ p ≤ q ∧ q - p < k3 ∧ Hid (∀ i a, i < p → x.attrs[i]? = some a → a.name ≠ b.name) ∧ Hid (Below w.heap.size w wr3))
        case atStart => exact ⟨0, rfl, Nat.zero_le _, by omega, (fun i a h1 => by omega), HB⟩
        case round =>
          clear HB y1
          obtain ⟨p, rfl, hp, hk3, HNP, HB⟩ := hrel
          obtain ⟨-, y1, -, y3, -⟩ := HCL.out wr HB.out
          by_cases hlt3 : p < q
          · have hd3 : decide ((p : Int) < q) = true := by simp; omega
            have hp0 : (0 : Int) ≤ p := by omega
            have hp1 : (p : Int) < na := by omega
            obtain ⟨a, ha1⟩ : ∃ a, x.attrs[p]? = some a := ⟨_, List.getElem?_eq_getElem (by rw [HNA.out]; omega)⟩
            obtain ⟨an, han⟩ : ∃ an : ByteArray, (⟨a.name.toArray⟩ : ByteArray) = an := ⟨_, rfl⟩
            obtain ⟨u0, -, -⟩ := HA.out p a ha1 wr HB.out
            obtain ⟨t0, -, -⟩ := HA.out q b HB1.out wr HB.out
            rw [han] at u0
            rw [HBN.out] at t0
            by_cases hxx : a.name = b.name
            · have hx1 : (bn.toList == an.toList) = true := by rw [toList_L, toList_L, (sz_of han).2, (sz_of HBN.out).2, hxx]; simp
              clear ha1 han hxx y3
              go_wp2_with fail
              go_quiet (fail)
              go_wp2_with fail
              go_ret
              exact ⟨rfl, below_drewN HB.out _⟩
            · have hx1 : (bn.toList == an.toList) = false := by rw [toList_L, toList_L, (sz_of han).2, (sz_of HBN.out).2, beq_eq_false_iff_ne]; exact fun e => hxx e.symm
              have HNP2 : Hid (∀ i a, i < p + 1 → x.attrs[i]? = some a → a.name ≠ b.name) := fun i c hi hc => by
                rcases Nat.lt_or_ge i p with h | h
                · exact HNP.out i c h hc
                · have hip : i = p := by omega
                  subst hip
                  rw [ha1] at hc
                  injection hc with hc
                  rw [← hc]
                  exact hxx
              clear ha1 han hxx y3
              go_wp2_with fail
              go_quiet (fail)
              go_wp2_with fail
              go_roundg (gk - 1)
              case measure => omega
              case rel => exact ⟨p + 1, by simp, by omega, by omega, HNP2, below_drewN HB.out _⟩
          · have hp' : q = p := by omega
            subst hp'
            have hd3 : decide ((q : Int) < q) = false := by simp
            have HNQ2 : Hid (∀ i j a b, i < j → j < q + 1 → x.attrs[i]? = some a → x.attrs[j]? = some b → a.name ≠ b.name) := fun i j a c h1 h2 ha hc => by
              rcases Nat.lt_or_ge j q with h | h
              · exact HNQ.out i j a c h1 h ha hc
              · have hjq : j = q := by omega
                subst hjq
                rw [HB1.out] at hc
                injection hc with hc
                rw [← hc]
                exact HNP.out i a h1 ha
            go_wp2_with fail
            go_roundg (gk1 - 1)
            case measure => omega
            case rel => exact ⟨q + 1, (by simp; try (unfold wrap64; omega)), by omega, by omega, HNQ2, HB⟩
      · have hq' : na = q := by omega
        subst hq'
        have hd2 : decide ((na : Int) < na) = false := by simp
        have hnd : NoDup x.attrs := nodup_mk (fun i j a b h1 ha hb => HNQ.out i j a b h1 (by have := (List.getElem?_eq_some_iff.1 hb).1; rw [HNA.out] at this; exact this) ha hb)
        obtain ⟨A, hA, hAn⟩ := HCH.out
        have hA2 : A ∈ chain l n x.up := by
          rcases List.mem_cons.1 hA with rfl | h
          · exact absurd hnd hAn
          · exact h
        have hux0 : 0 ≤ x.up := by
          apply Classical.byContradiction
          intro h
          rw [chain_neg (by omega)] at hA2
          cases hA2
        obtain ⟨u, hu⟩ : ∃ u : Nat, x.up = (u : Int) := ⟨x.up.toNat, by omega⟩
        have huj : u < j := by have := HUX.out; omega
        rw [hu] at y3 hA2
        have HD2 : Hid (∃ A ∈ chain l n (u : Int), ¬ NoDup A) := ⟨A, hA2, hAn⟩
        clear hnd hA hAn hA2 hux0 hu
        go_wp2_with fail
        go_roundg (gk0 - 1)
        case measure => omega
        case rel => exact ⟨u, rfl, by omega, by omega, HD2, HB⟩
end Go.Proofs.YtokdclmikllepaaGreatDoor
namespace Go.Proofs.YtokdclmikllepaaGreatDoor
open Go.RowKit
set_option linter.unusedVariables false
set_option linter.unusedSimpArgs false

/-! ### SpacesInner: what is collected -/
structure IN (W0 wr : World) (nm tx : ByteArray) (up at_ : Int) (xa av : Value) (C : List Sp.EA) : Prop where
  blk : wr.heap[W0.heap.size]? = some (.cells #[.string nm, xa, .string tx, .int .i64 up, .int .i64 at_] 53 (0, 0))
  eas : EasAt W0.heap.size wr av C
  bel : Below W0.heap.size W0 wr
theorem IN.lt {W0 wr : World} {nm tx : ByteArray} {up at_ : Int} {xa av : Value} {C : List Sp.EA} (h : IN W0 wr nm tx up at_ xa av C) : W0.heap.size < wr.heap.size := (Array.getElem?_eq_some_iff.1 h.blk).1
theorem IN.below {W0 wr w' : World} {nm tx : ByteArray} {up at_ : Int} {xa av : Value} {C : List Sp.EA} (h : IN W0 wr nm tx up at_ xa av C) (hb : Below wr.heap.size wr w') : IN W0 w' nm tx up at_ xa av C :=
  ⟨(hb.block _ h.lt).trans h.blk, row_below h.eas hb, below_then h.bel hb⟩
theorem IN.app {W0 W w' : World} {o : Obj} {nm tx : ByteArray} {up at_ : Int} {xa av av' : Value} {C C' : List Sp.EA} (h : IN W0 W nm tx up at_ xa av C) (ho : EasAt W0.heap.size w' av' C') (hg : (W.alloc o).grownBy w' av.ownBlock) (hb : Below W0.heap.size W w') : IN W0 w' nm tx up at_ xa av' C' := by
  have h6 := h.below ((Below.refl _ W).alloc (Nat.le_refl _) o)
  have hne : av.ownBlock ≠ some W0.heap.size := own_ne h6.eas h6.blk (by decide)
  exact ⟨(hg.block _ h6.lt (fun e => hne e.symm)).trans h6.blk, ho, h.bel.trans hb⟩
theorem fold_mono (xs : List Sp.EA) : ∀ (A : List Sp.EA) (C : List Sp.EA), C.length ≤ (A.foldl (colStep xs) C).length ∧ (A.foldl (colStep xs) C).length ≤ C.length + A.length
  | [], C => ⟨Nat.le_refl _, Nat.le_refl _⟩
  | a :: A, C => by
    have ih := fold_mono xs A (colStep xs C a)
    have h : C.length ≤ (colStep xs C a).length ∧ (colStep xs C a).length ≤ C.length + 1 := by
      unfold colStep
      split <;> simp
    rw [List.foldl_cons, List.length_cons]
    omega
theorem collect_mono (xs : List Sp.EA) : ∀ (As : List (List Sp.EA)) (C : List Sp.EA), C.length ≤ (collect xs C As).length ∧ (collect xs C As).length ≤ C.length + (As.map List.length).sum
  | [], C => ⟨Nat.le_refl _, Nat.le_refl _⟩
  | A :: As, C => by
    have h := fold_mono xs A C
    have ih := collect_mono xs As (A.foldl (colStep xs) C)
    show C.length ≤ (collect xs (A.foldl (colStep xs) C) As).length ∧ (collect xs (A.foldl (colStep xs) C) As).length ≤ _
    rw [List.map_cons, List.sum_cons]
    omega
theorem chain_sum {l : List Sp.EE} (hb : ∀ x ∈ l, x.attrs.length ≤ 300) : ∀ (n : Nat) (u : Int), ((chain l n u).map List.length).sum ≤ n * 300
  | 0, _ => Nat.zero_le _
  | n + 1, u => by
    unfold chain
    split
    · exact Nat.zero_le _
    · cases hx : l[u.toNat]? with
      | none => exact Nat.zero_le _
      | some x =>
        have := chain_sum hb n x.up
        have h2 := hb x (List.mem_of_getElem? hx)
        simp only [List.map_cons, List.sum_cons]
        omega
theorem knows_snoc (C : List Sp.EA) (p : Nat) (a c : Sp.EA) (h : C[p]? = some c) : knows (C.take (p + 1)) a = (knows (C.take p) a || decide (c.name = a.name)) := by
  unfold knows
  rw [List.take_add_one, h, List.any_append]
  simp
theorem up_ge {l : List Sp.EE} {r : List Sp.SE} (h : Sp.resolve l = .ok r) : ∀ x ∈ l, -1 ≤ x.up := fun x hx => by
  obtain ⟨k, hk⟩ := List.mem_iff_getElem?.1 hx
  obtain ⟨_, h2, _⟩ := resolve_at h
  by_cases h0 : k = 0
  · subst h0
    unfold Sp.resolve at h
    split at h
    · rename_i hu
      cases l with
      | nil => cases hk
      | cons z t =>
        injection hk with hk
        subst hk
        rw [upOk_cons, if_pos rfl] at hu
        simp at hu
        omega
    · cases h
  · have := (h2 k x hk).2 (by omega)
    omega
-- behind the loops: helpers
theorem run_append_on (w : World) (base : Nat) (t ty e : TypeId) (i : TypeInfo) (size : Nat) (ht : Tryz.prog.underlying t = some (.slice e)) (hi : Tryz.prog.info? e = some i) (v : Value) (n : Nat) (xs : List Value) (hown : w.ownsRow base e size v n xs) (c : Nat) :
    (Builtin.append_ #[t, t] ty #[v, .slice none 0 c]).run Tryz.prog w = .ok v w := by
  rcases hown.2 with ⟨rfl, rfl⟩ | ⟨g, cap, cur, rfl, _, _, hnc, _⟩
  · simp [Builtin.append_, run_underlying ht, sizeOf, typeInfo, hi, Builtin.lenOf, Builtin.firstCells]
  · simp [Builtin.append_, run_underlying ht, sizeOf, typeInfo, hi, Builtin.lenOf, Builtin.firstCells, hnc, storeCells]
theorem wpList_app_on {w : World} {ops : Array Oper} {rest : List Oper} {o : Oper} {a : Act} {Q : Exit → Act → World → Prop} (hgd : o.guard = none) (s x : Operand) (t : TypeId)
    (ho : o.op = .call { callee := .builtin .append, args := #[s, x], argTypes := #[t, t] }) (base : Nat) (e : TypeId) (i : TypeInfo) (size : Nat) (ht : Tryz.prog.underlying t = some (.slice e)) (hi : Tryz.prog.info? e = some i) (c : Nat)
    (v : Value) (n : Nat) (xs : List Value) (hs : a.eval s = v) (hown : w.ownsRow base e size v n xs) (hx : a.eval x = .slice none 0 c) (h : wpList Tryz.prog ops Q rest (a.put o.dst v) w) : wpList Tryz.prog ops Q (o :: rest) a w := by
  refine wpList_plain hgd fun K hK => ?_
  have hrun := run_append_on w base t o.type e i size ht hi v n xs hown c
  unfold Oper.wp
  simp [execOp, ho, resolve, invoke, builtin, hs, hx, hrun, Result.andThen]
  exact hK _ _ h
theorem one_R (w : World) (nm tx : ByteArray) (up at_ : Int) (v : Value) (A : List Sp.EA) (hA : AtsR w v A) (xe : Sp.EE) (h1 : (⟨xe.name.toArray⟩ : ByteArray) = nm) (h2 : (⟨xe.text.toArray⟩ : ByteArray) = tx) (h3 : xe.up = up) (h4 : xe.at_ = at_) (h5 : xe.attrs = A) :
    ElsR (w.alloc (.cells #[.string nm, v, .string tx, .int .i64 up, .int .i64 at_] 53)) (.slice (some ⟨w.heap.size, 0, none⟩) 1 1) [xe] := by
  refine ⟨_, 1, rfl, fun _ => ⟨w.heap.size, 0, rfl, by rw [sz_alloc]; omega, fun i x hx => ?_⟩⟩
  have zz := heap_alloc_new w (.cells #[.string nm, v, .string tx, .int .i64 up, .int .i64 at_] 53)
  cases i with
  | succ i => cases hx
  | zero =>
    injection hx with hx
    subst hx
    rw [h1, h2, h3, h4, h5]
    exact ⟨v, hA.below ((Below.refl _ w).alloc (Nat.le_refl _) _), cell_of_row _ _ 0 _ _ _ zz, cell_of_row _ _ 1 _ _ _ zz, cell_of_row _ _ 2 _ _ _ zz, cell_of_row _ _ 3 _ _ _ zz, cell_of_row _ _ 4 _ _ _ zz⟩
theorem chain_mem {l : List Sp.EE} : ∀ (n : Nat) (u : Int), ∀ A ∈ chain l n u, ∃ x ∈ l, A = x.attrs
  | 0, _, A, h => by cases h
  | n + 1, u, A, h => by
    unfold chain at h
    split at h
    · cases h
    · cases hx : l[u.toNat]? with
      | none => rw [hx] at h; cases h
      | some x =>
        rw [hx] at h
        simp only at h
        rcases List.mem_cons.1 h with rfl | h
        · exact ⟨x, List.mem_of_getElem? hx, rfl⟩
        · exact chain_mem n x.up A h
theorem one_len {xe : Sp.EE} {r : List Sp.SE} (h : Sp.resolve [xe] = .ok r) : ∃ y, r = [y] := by
  have := (resolve_at h).1
  match r, this with
  | [y], _ => exact ⟨y, rfl⟩
theorem collect_cons (xs C A : List Sp.EA) (As : List (List Sp.EA)) : collect xs C (A :: As) = collect xs (A.foldl (colStep xs) C) As := rfl

set_option maxHeartbeats 16000000 in
set_option maxRecDepth 100000 in
theorem inner_calls (w : World) (v : Value) (ni : Int) (l : List Sp.EE) (hG : Gl w) (h : ElsR w v l) (hl : l.length ≤ 140737488351232) (hb : ∀ x ∈ l, BigBd x) :
    Calls Tryz.prog 8 #[v, .int .i64 ni] w fun e w' => e = .returned (.bool true) ∧ Below w.heap.size w w' := by
  have HG := Lib.hid hG
  obtain ⟨n, hn⟩ : ∃ n, l.length = n := ⟨_, rfl⟩
  have HE := Lib.hid h
  obtain ⟨a1, c1, rfl, hc1⟩ := h.cells
  rw [hn] at hl hc1 HE ⊢
  have HN := Lib.hid hn
  have HBD := Lib.hid hb
  have HL := Lib.hid hl
  have HC := Lib.hid hc1
  clear hG hb hl hc1 h hn
  go_enter Tryz.func8, Tryz.ntmps8
  go_wp2_with fail
  refine (sawake_calls _ HG.out).mono ?_
  rintro e w1 ⟨rfl, hb1⟩
  have HB1 := Lib.hid hb1
  clear hb1
  go_wp2_with fail
  refine (few10_calls _ _ l (HE.out.below HB1.out) (by rw [HN.out]; exact HL.out) (fun x hx => (HBD.out x hx).2.2.1)).mono ?_
  rintro e w2 ⟨b, rfl, hb2, hfw⟩
  have HB2 := Lib.hid (below_then HB1.out hb2)
  clear hb2
  have hcase : b = false ∨ (b = true ∧ ni < 0) ∨ (b = true ∧ ¬ ni < 0 ∧ (n : Int) ≤ ni) ∨ (b = true ∧ ¬ ni < 0 ∧ ¬ (n : Int) ≤ ni) := by
    cases b
    · exact .inl rfl
    · by_cases h1 : ni < 0
      · exact .inr (.inl ⟨rfl, h1⟩)
      · by_cases h2 : (n : Int) ≤ ni
        · exact .inr (.inr (.inl ⟨rfl, h1, h2⟩))
        · exact .inr (.inr (.inr ⟨rfl, h1, h2⟩))
  rcases hcase with rfl | ⟨rfl, h1⟩ | ⟨rfl, h1, h2⟩ | ⟨rfl, h1, h2⟩
  · clear hfw
    go_wp2_with fail
    refine (sawake_calls _ (HG.out.below HB2.out)).mono ?_
    rintro e w3 ⟨rfl, hb3⟩
    have HB3 := Lib.hid (below_then HB2.out hb3)
    clear hb3
    go_wp2_with fail
    go_ret
    exact ⟨rfl, HB3.out⟩
  · have hd1 : decide (ni < 0) = true := decide_eq_true h1
    clear hfw h1
    go_wp2_with fail
    refine (sawake_calls _ (HG.out.below HB2.out)).mono ?_
    rintro e w3 ⟨rfl, hb3⟩
    have HB3 := Lib.hid (below_then HB2.out hb3)
    clear hb3
    go_wp2_with fail
    go_ret
    exact ⟨rfl, HB3.out⟩
  · have hd1 : decide (ni < 0) = false := decide_eq_false h1
    have hd2 : decide ((n : Int) ≤ ni) = true := decide_eq_true h2
    clear hfw h1 h2
    go_wp2_with fail
    refine (sawake_calls _ (HG.out.below HB2.out)).mono ?_
    rintro e w3 ⟨rfl, hb3⟩
    have HB3 := Lib.hid (below_then HB2.out hb3)
    clear hb3
    go_wp2_with fail
    go_ret
    exact ⟨rfl, HB3.out⟩
  · have hd1 : decide (ni < 0) = false := decide_eq_false h1
    have hd2 : decide ((n : Int) ≤ ni) = false := decide_eq_false h2
    obtain ⟨i, rfl⟩ : ∃ i : Nat, ni = (i : Int) := ⟨ni.toNat, by omega⟩
    have hin : i < n := by omega
    have hd3 : decide (n ≤ i) = false := by simp; omega
    have hd4 : ¬ (n ≤ i) := by omega
    obtain ⟨hn1, hsum⟩ := hfw rfl
    have HNS := Lib.hid (nes_of HBD.out hsum)
    rw [HN.out] at hn1
    have HL1 : Hid (l.length ≤ 1000) := by show _ ≤ _; rw [HN.out]; omega
    have HN1 := Lib.hid hn1
    cases hR : Sp.resolve l with
    | error f =>
      have hf := resolve_code hR
      have hfz : ((f.2 : Int) != 0) = true := by rw [bne_iff_ne]; omega
      have HR := Lib.hid hR
      clear hfw hn1 hsum hR hf h1 h2 hin
      go_wp2_with fail
      refine (resolve_err _ _ l (HE.out.below HB2.out) HL1.out (fun x hx => (HNS.out x hx).ne) f HR.out).mono ?_
      rintro e w3 ⟨rfl, hb3⟩
      have HB3 := Lib.hid (below_then HB2.out hb3)
      clear hb3
      go_wp2_with fail
      go_ret
      exact ⟨rfl, HB3.out⟩
    | ok r =>
      obtain ⟨hrl, hup, -⟩ := resolve_at hR
      rw [HN.out] at hrl
      have HRL := Lib.hid hrl
      have HUP := Lib.hid hup
      have HUPL : Hid (UpLt l) := fun k x hx => (hup k x hx).1
      have HR := Lib.hid hR
      have HIN := Lib.hid hin
      have hi0 : (0 : Int) ≤ i := by omega
      have hi1 : (i : Int) < n := by omega
      clear hfw hn1 hsum hR hrl hup h1 h2 hin
      go_wp2_with fail
      refine (resolve_ok _ _ l (HE.out.below HB2.out) HL1.out (fun x hx => (HNS.out x hx).ne) r HR.out).mono ?_
      rintro e w3 ⟨⟨v3, rfl, hm3⟩, hb3⟩
      obtain ⟨a3, c3, hv3, hcm⟩ := hm3.toR.cells
      rw [HRL.out] at hv3 hcm
      subst hv3
      have HCM := Lib.hid hcm
      have HB3 := Lib.hid (below_then HB2.out hb3)
      clear hb3 hm3 hcm
      obtain ⟨g1, o1, rfl, hg1, hc1⟩ := HC.out (by have := HIN.out; omega)
      have HC1 := Lib.hid hc1
      obtain ⟨x, hx⟩ : ∃ x, l[i]? = some x := ⟨_, List.getElem?_eq_getElem (by rw [HN.out]; exact HIN.out)⟩
      obtain ⟨av0, hav, hcl⟩ := hc1 i x hx
      obtain ⟨aa, ac, rfl, hca⟩ := hav.cells
      obtain ⟨nm, hnm⟩ : ∃ nm : ByteArray, (⟨x.name.toArray⟩ : ByteArray) = nm := ⟨_, rfl⟩
      obtain ⟨tx, htx⟩ : ∃ tx : ByteArray, (⟨x.text.toArray⟩ : ByteArray) = tx := ⟨_, rfl⟩
      obtain ⟨na, hna⟩ : ∃ na, x.attrs.length = na := ⟨_, rfl⟩
      rw [hnm, htx, hna] at hcl
      rw [hna] at hca
      obtain ⟨y0, y1, y2, y3, y4⟩ := hcl w3 HB3.out
      have y3a := fun o => (hcl (w3.alloc o) (HB3.out.alloc HB3.out.size o)).2.2.2.1
      have hxu := HUP.out i x hx
      have hxm := List.mem_of_getElem? hx
      have hna3 : na ≤ 300 := by rw [← hna]; exact (HNS.out x hxm).2.1
      have hxu1 : -1 ≤ x.up := up_ge HR.out x hxm
      have hxun : x.up < (n : Int) := by have := hxu.1; omega
      obtain ⟨CC, hCC⟩ : ∃ CC, collect x.attrs [] (chain l n x.up) = CC := ⟨_, rfl⟩
      have hCCl : CC.length ≤ 45300 := by
        have h1 := (collect_mono x.attrs (chain l n x.up) []).2
        have h2 := chain_sum (l := l) (fun x hx => (HNS.out x hx).2.1) n x.up
        have h3 := HN1.out
        rw [hCC] at h1
        simp at h1
        omega
      have HCC := Lib.hid hCC
      have HCCL := Lib.hid hCCl
      have HX := Lib.hid hx
      have HCA := Lib.hid hca
      have HNA := Lib.hid hna
      have HNM := Lib.hid hnm
      have HTX := Lib.hid htx
      have HXU1 := Lib.hid hxu1
      have HXUN := Lib.hid hxun
      clear hx hav hcl hca hnm htx hna hxu hxm hc1 hxu1 hxun hCC hCCl
      obtain ⟨W0, rfl⟩ : ∃ z, z = w3 := ⟨_, rfl⟩
      go_wp2_with fail
      go_loopg [9, 10, 11, 12, 13, 14, 15] (n + 2) (fun k av up _ _ _ _ _ wr => ∃ (u : Int) (C : List Sp.EA) (a9 : Option Addr) (nc c9 : Nat), up = .int .i64 u ∧ av = .slice a9 nc c9 ∧ Hid (C.length = nc) ∧ -1 ≤ u ∧ u < n ∧ (u + 1).toNat < k ∧ Hid (collect x.attrs C (chain l n u) = CC) ∧ Hid (IN W0 wr nm tx x.up x.at_ (.slice aa na ac) av C))
      case atStart => exact ⟨x.up, [], none, 0, 0, rfl, rfl, rfl, HXU1.out, HXUN.out, by have := HXUN.out; have := HXU1.out; omega, HCC, ⟨heap_alloc_new _ _, ⟨rfl, .inl ⟨rfl, rfl⟩⟩, (Below.refl _ _).alloc (Nat.le_refl _) _⟩⟩
      case round =>
        obtain ⟨gk0, rfl⟩ : ∃ z, z = gk := ⟨_, rfl⟩
        obtain ⟨u, C, a9, nc, c9, rfl, rfl, HNC, hu1, hun, hku, HCO, HI⟩ := hrel
        by_cases hu0 : u < 0
        · have hdu : decide (0 ≤ u) = false := by simp; omega
          -- behind the loops
          have hC : C = CC := by
            have := HCO.out
            rw [chain_neg hu0] at this
            exact this
          have HCQ := Lib.hid hC
          obtain ⟨y, hy⟩ : ∃ y, r[i]? = some y := ⟨_, List.getElem?_eq_getElem (by rw [HRL.out]; exact HIN.out)⟩
          have HYL : Hid (y.attrs.length ≤ 100000) := (resolve_bd HR.out (by rw [HN.out]; exact HN1.out) (fun x hx => by have := (HNS.out x hx).2.1; omega)).2 y (List.mem_of_getElem? hy)
          obtain ⟨xe, hxe⟩ : ∃ xe : Sp.EE, (⟨x.name, CC ++ x.attrs, x.text, -1, x.at_⟩ : Sp.EE) = xe := ⟨_, rfl⟩
          have HDBL : Hid (Sp.resolve [xe] ≠ .ok [⟨y.space, y.name, y.attrs, y.text, -1, y.at_⟩] → ∃ A ∈ chain l n (i : Int), ¬ NoDup A) := fun hne => by
            apply Classical.byContradiction
            intro hno
            have hnd : ∀ A ∈ chain l l.length x.up, NoDup A := fun A hA => Classical.byContradiction fun h => hno ⟨A, by
              rw [chain_step HUPL.out HIN.out HX.out]
              rw [HN.out] at hA
              exact List.mem_cons_of_mem _ hA, h⟩
            obtain ⟨y', hy', hr'⟩ := innerS_law l r HR.out i x HX.out hnd
            rw [hy] at hy'
            injection hy' with hy'
            subst hy'
            rw [HN.out, HCC.out, hxe] at hr'
            exact hne hr'
          have HXN : Hid (∀ z ∈ [xe], NE z) := fun z hz => by
            rw [List.mem_singleton.1 hz, ← hxe]
            have hxm := HNS.out x (List.mem_of_getElem? HX.out)
            refine ⟨by have := hxm.1; show x.name.length ≤ _; omega, ?_, fun a ha => ?_⟩
            · show (CC ++ x.attrs).length ≤ _
              rw [List.length_append, HNA.out]
              have := HCCL.out
              omega
            · rcases List.mem_append.1 ha with ha | ha
              · rw [← HCC.out] at ha
                rcases collect_mem x.attrs (chain l n x.up) [] a ha with h | ⟨⟨A, hA, haA⟩, _⟩
                · cases h
                · obtain ⟨z, hz, rfl⟩ := chain_mem n x.up A hA
                  have := (HNS.out z hz).2.2 a haA
                  exact ⟨by have := this.1; omega, by have := this.2; omega⟩
              · have := hxm.2.2 a ha
                exact ⟨by have := this.1; omega, by have := this.2; omega⟩
          have HXE1 : Hid ((⟨xe.name.toArray⟩ : ByteArray) = nm) := by show _ = _; rw [← hxe]; exact HNM.out
          have HXE2 : Hid ((⟨xe.text.toArray⟩ : ByteArray) = tx) := by show _ = _; rw [← hxe]; exact HTX.out
          have HXE3 : Hid (xe.up = -1) := by show _ = _; rw [← hxe]
          have HXE4 : Hid (xe.at_ = x.at_) := by show _ = _; rw [← hxe]
          have HXE5 : Hid (xe.attrs = CC ++ x.attrs) := by show _ = _; rw [← hxe]
          obtain ⟨g3, o3, rfl, hg3, hcm3⟩ := HCM.out (by have := HIN.out; omega)
          obtain ⟨avy, hsy, hmy⟩ := hcm3 i y hy
          obtain ⟨by', dy, rfl, hky⟩ := hsy.cells
          have HMY := Lib.hid hmy
          have HKY := Lib.hid hky
          have hncl : nc ≤ 45300 := by rw [← HNC.out, hC]; exact HCCL.out
          have hblk := HI.out.blk
          have z1 : wr.cell? ⟨W0.heap.size, 1, none⟩ = some (.slice aa na ac) := cell_of_row _ _ 1 _ _ _ hblk
          have HWR := Lib.hid (below_then HB3.out HI.out.bel)
          obtain ⟨cold, hcold⟩ : ∃ cold, C.flatMap eaCells = cold := ⟨_, rfl⟩
          have HOW : Hid (wr.ownsRow W0.heap.size 42 3 (.slice a9 nc c9) nc cold) := by
            have := HI.out.eas
            unfold EasAt at this
            rw [HNC.out, hcold] at this
            exact this
          obtain ⟨iA, hiA, hzA0, hzA1, hzA2⟩ := info_parts infoAttr
          have hmx : maxLen = 9223372036854775807 := rfl
          have HMX := Lib.hid hmx
          have HCOLD := Lib.hid hcold
          clear hmx hC hy hxe hsy hmy hky hcm3 hblk hcold
          cases aa with
          | none =>
            have hz : na = 0 := Classical.byContradiction fun h => by
              obtain ⟨g, o, h1, _⟩ := HCA.out (by omega)
              cases h1
            subst hz
            have HAE : Hid (EasAt W0.heap.size wr (.slice a9 nc c9) (C ++ x.attrs)) := by
              show EasAt _ _ _ _
              rw [List.eq_nil_of_length_eq_zero HNA.out, List.append_nil]
              exact HI.out.eas
            go_upto_region 27 with (at_builtin; refine wpList_app_on rfl (.tmp 127) (.tmp 129) 38 rfl W0.heap.size 42 iA 3 Tryz.underlying38 hiA ac _ _ _ (by rfl) HOW.out (by rfl) ?_; have HO6 : Hid (EasAt W0.heap.size wr (.slice a9 nc c9) (C ++ x.attrs)) := HAE.out; have HB6 : Hid (Below W0.heap.size wr wr) := Below.refl _ _; have hblk6 := HI.out.blk; have kf := not_frozen (i := 1) hblk6; have HBLK6 := Lib.hid hblk6; clear hblk6)
            have hs7 := set_new HBLK6.out (i := 1) (.slice a9 nc c9)
            have hw7 : Below W0.heap.size W0 (wr.setCell ⟨W0.heap.size, 1, none⟩ (.slice a9 nc c9)) := (HI.out.bel.trans HB6.out).trans (grown_below hs7.2 (Nat.le_trans HI.out.bel.size HB6.out.size) (Nat.le_refl _))
            have he7 : EasAt W0.heap.size (wr.setCell ⟨W0.heap.size, 1, none⟩ (.slice a9 nc c9)) (.slice a9 nc c9) (C ++ x.attrs) := World.ownsRow.kept HO6.out hs7.2 (.inr (own_ne HO6.out HBLK6.out (by decide)))
            generalize wr.setCell ⟨W0.heap.size, 1, none⟩ (.slice a9 nc c9) = w7 at hs7 hw7 he7 ⊢
            have zz7 : w7.heap[W0.heap.size]? = some (.cells #[.string nm, .slice a9 nc c9, .string tx, .int .i64 x.up, .int .i64 x.at_] 53 (0, 0)) := hs7.1
            have k3 : w7.cell? ⟨W0.heap.size, 3, none⟩ = some (.int .i64 x.up) := cell_of_row _ _ 3 _ _ _ zz7
            have kf3 := not_frozen (i := 3) zz7
            have hs8 := set_new zz7 (i := 3) (.int .i64 (-1))
            have hw8 := hw7.trans (grown_below hs8.2 hw7.size (Nat.le_refl _))
            have he8 : EasAt W0.heap.size (w7.setCell ⟨W0.heap.size, 3, none⟩ (.int .i64 (-1))) (.slice a9 nc c9) (C ++ x.attrs) := World.ownsRow.kept he7 hs8.2 (.inr (own_ne he7 zz7 (by decide)))
            have HS8 := Lib.hid hs8
            have HW8 := Lib.hid hw8
            have HE8 := Lib.hid he8
            clear hs7 hw7 he7 zz7 hs8 hw8 he8 z1 kf
            go_upto_region 28 with fail
            have hs8 := HS8.out
            have hw8 := HW8.out
            have he8 := HE8.out
            clear HS8 HW8 HE8
            generalize w7.setCell ⟨W0.heap.size, 3, none⟩ (.int .i64 (-1)) = w8 at hs8 hw8 he8 ⊢
            have zz8 : w8.heap[W0.heap.size]? = some (.cells #[.string nm, .slice a9 nc c9, .string tx, .int .i64 (-1), .int .i64 x.at_] 53 (0, 0)) := hs8.1
            have x0 : w8.cell? ⟨W0.heap.size, 0, none⟩ = some (.string nm) := cell_of_row _ _ 0 _ _ _ zz8
            have x1 : w8.cell? ⟨W0.heap.size, 1, none⟩ = some (.slice a9 nc c9) := cell_of_row _ _ 1 _ _ _ zz8
            have x2 : w8.cell? ⟨W0.heap.size, 2, none⟩ = some (.string tx) := cell_of_row _ _ 2 _ _ _ zz8
            have x3 : w8.cell? ⟨W0.heap.size, 3, none⟩ = some (.int .i64 (-1)) := cell_of_row _ _ 3 _ _ _ zz8
            have x4 : w8.cell? ⟨W0.heap.size, 4, none⟩ = some (.int .i64 x.at_) := cell_of_row _ _ 4 _ _ _ zz8
            have hel : ElsR (w8.alloc (.cells #[.string nm, .slice a9 nc c9, .string tx, .int .i64 (-1), .int .i64 x.at_] 53)) (.slice (some ⟨w8.heap.size, 0, none⟩) 1 1) [xe] := one_R w8 nm tx (-1) x.at_ _ _ he8.toR xe HXE1.out HXE2.out HXE3.out HXE4.out (by rw [HXE5.out, HCQ.out])
            have HEL := Lib.hid hel
            have HW8 := Lib.hid (hw8.alloc hw8.size (.cells #[.string nm, .slice a9 nc c9, .string tx, .int .i64 (-1), .int .i64 x.at_] 53))
            clear hs8 zz8 hel k3 kf3 hw8 he8
            cases hRe : Sp.resolve [xe] with
            | error f =>
              have hf := resolve_code hRe
              have hfz : ((f.2 : Int) != 0) = true := by rw [bne_iff_ne]; omega
              have HRE := Lib.hid hRe
              have HDD := Lib.hid (HDBL.out (by rw [hRe]; intro h; cases h))
              clear hf hRe
              go_wp2_with fail
              refine (resolve_err _ _ [xe] HEL.out (by show 1 ≤ 1000; omega) HXN.out f HRE.out).mono ?_
              rintro e w9 ⟨rfl, hb9⟩
              have HWT := Lib.hid (below_then HB3.out (below_then HW8.out hb9))
              clear hb9
              go_wp2_with fail
              go_quiet (fail)
              go_wp2_with (go_at_call 36; go_must (refine (doubled_calls _ _ l (HE.out.below (below_drewN HWT.out _)) (by rw [HN.out]; exact HN1.out) (fun x hx => (HNS.out x hx).2.1) HUPL.out (up_ge HR.out) i (by rw [HN.out]; exact HIN.out) (by rw [HN.out]; exact HDD.out)).mono ?_); rintro e wz ⟨rfl, hbz⟩; have HBZ := Lib.hid (below_then (below_drewN HWT.out _) hbz); clear hbz)
              go_ret
              exact ⟨rfl, HBZ.out⟩
            | ok r9 =>
              obtain ⟨y9, rfl⟩ := one_len hRe
              have HRE := Lib.hid hRe
              have HDBL2 : Hid (y9.space ≠ y.space ∨ y9.name ≠ y.name ∨ y9.attrs ≠ y.attrs → ∃ A ∈ chain l n (i : Int), ¬ NoDup A) := fun h => HDBL.out (by
                rw [hRe]
                intro e
                injection e with e
                injection e with e _
                rw [e] at h
                rcases h with h | h | h <;> exact h rfl)
              clear hRe
              go_wp2_with fail
              refine (resolve_ok _ _ [xe] HEL.out (by show 1 ≤ 1000; omega) HXN.out [y9] HRE.out).mono ?_
              rintro e w9 ⟨⟨v9, rfl, hm9⟩, hb9⟩
              obtain ⟨a9', c9', rfl, hc9⟩ := hm9.toR.cells
              obtain ⟨g9, o9, rfl, hg9, hc9⟩ := hc9 (by show 0 < 1; omega)
              obtain ⟨av9, hs9, hz9⟩ := hc9 0 y9 rfl
              obtain ⟨b9, d9, rfl, hk9⟩ := hs9.cells
              have HW9 := Lib.hid (below_then HW8.out hb9)
              have HK9 := Lib.hid hk9
              have HZ9 := Lib.hid hz9
              clear hb9 hm9 hc9 hs9 hk9 hz9 HEL x0 x1 x2 x3 x4
              obtain ⟨q0, q1, q2, -, -, -⟩ := HMY.out w9 HW9.out
              obtain ⟨p0, p1, p2, -, -, -⟩ := HZ9.out w9 (Below.refl _ _)
              simp only [Nat.zero_mul, Nat.add_zero] at p0 p1 p2
              have HWT := Lib.hid (below_then HB3.out HW9.out)
              obtain ⟨s9, hs9e⟩ : ∃ s9 : ByteArray, (⟨y9.space.toArray⟩ : ByteArray) = s9 := ⟨_, rfl⟩
              obtain ⟨sy, hsye⟩ : ∃ sy : ByteArray, (⟨y.space.toArray⟩ : ByteArray) = sy := ⟨_, rfl⟩
              obtain ⟨n9, hn9e⟩ : ∃ n9 : ByteArray, (⟨y9.name.toArray⟩ : ByteArray) = n9 := ⟨_, rfl⟩
              obtain ⟨ny, hnye⟩ : ∃ ny : ByteArray, (⟨y.name.toArray⟩ : ByteArray) = ny := ⟨_, rfl⟩
              obtain ⟨l9, hl9⟩ : ∃ l9, y9.attrs.length = l9 := ⟨_, rfl⟩
              obtain ⟨ly, hly⟩ : ∃ ly, y.attrs.length = ly := ⟨_, rfl⟩
              rw [hs9e] at p0
              rw [hsye] at q0
              rw [hn9e] at p1
              rw [hnye] at q1
              rw [hl9] at p2
              rw [hly] at q2
              by_cases hsp : y9.space = y.space
              · have he1 : s9 = sy := by rw [← hs9e, hsp, hsye]
                subst he1
                by_cases hnmm : y9.name = y.name
                · have he2 : n9 = ny := by rw [← hn9e, hnmm, hnye]
                  subst he2
                  by_cases hln : l9 = ly
                  · subst hln
                    have HK9L := Lib.hid hl9
                    have HKYL := Lib.hid hly
                    have HAT9 : Hid (∀ (q : Nat) (a b : Sp.SA), y9.attrs[q]? = some a → y.attrs[q]? = some b → a ≠ b → ∃ A ∈ chain l n (i : Int), ¬ NoDup A) := fun q a b h1 h2 h3 => HDBL2.out (.inr (.inr (fun e => by
                      rw [e] at h1
                      rw [h2] at h1
                      injection h1 with h1
                      exact h3 h1.symm)))
                    have hly3 : l9 ≤ 100000 := by have := HYL.out; omega
                    have HM9p := fun (W : World) (hW : Below w9.heap.size w9 W) => (HZ9.out W hW).2.2.1
                    simp only [Nat.zero_mul, Nat.add_zero] at HM9p
                    rw [hl9] at HM9p
                    have HPP := Lib.hid HM9p
                    have HQQ := Lib.hid (fun (W : World) (hW : Below W0.heap.size W0 W) => (HMY.out W hW).2.2.1)
                    clear hs9e hsye hn9e hnye hsp hnmm hl9 hly HM9p
                    go_wp2_with fail
                    go_quiet (fail)
                    go_wp2_with fail
                    go_loopg [19] (l9 + 1) (fun k q2 wr => ∃ q : Nat, q2 = .int .i64 q ∧ q ≤ l9 ∧ l9 - q < k ∧ Hid (Below w9.heap.size w9 wr))
                    case atStart => exact ⟨0, rfl, Nat.zero_le _, by omega, below_drewN (Below.refl _ _) _⟩
                    case round =>
                      clear p0 p1 p2 q0 q1 q2 HWT
                      obtain ⟨q, rfl, hq, hk5, HBW⟩ := hrel
                      have p2 := HPP.out wr HBW.out
                      have q2 := HQQ.out wr (below_then HW9.out HBW.out)
                      rw [HKYL.out] at q2
                      have HWT := Lib.hid (below_then HB3.out (below_then HW9.out HBW.out))
                      by_cases hlt5 : q < l9
                      · have hd5 : decide ((q : Int) < l9) = true := by simp; omega
                        have hq0 : (0 : Int) ≤ q := by omega
                        have hq1 : (q : Int) < l9 := by omega
                        obtain ⟨a, ha⟩ : ∃ a, y9.attrs[q]? = some a := ⟨_, List.getElem?_eq_getElem (by rw [HK9L.out]; exact hlt5)⟩
                        obtain ⟨b, hb⟩ : ∃ b, y.attrs[q]? = some b := ⟨_, List.getElem?_eq_getElem (by rw [HKYL.out]; exact hlt5)⟩
                        obtain ⟨ga, oa, rfl, hga, hca⟩ := HK9.out (by rw [HK9L.out]; omega)
                        obtain ⟨gb, ob, rfl, hgb, hcb⟩ := HKY.out (by rw [HKYL.out]; omega)
                        obtain ⟨t0, t1, t2, t3⟩ := hca q a ha wr HBW.out
                        obtain ⟨u0, u1, u2, u3⟩ := hcb q b hb wr (below_then HW9.out HBW.out)
                        have HDA := Lib.hid (HAT9.out q a b ha hb)
                        clear ha hb hca hcb
                        by_cases hab : a = b
                        · subst hab
                          go_wp2_with fail
                          go_quiet (fail)
                          go_wp2_with fail
                          go_roundg (gk - 1)
                          case measure => omega
                          case rel => exact ⟨q + 1, by simp, by omega, by omega, below_drewN HBW.out _⟩
                        · have HDD := Lib.hid (HDA.out hab)
                          obtain ⟨asp, hase⟩ : ∃ z : ByteArray, (⟨a.space.toArray⟩ : ByteArray) = z := ⟨_, rfl⟩
                          obtain ⟨an, hane⟩ : ∃ z : ByteArray, (⟨a.name.toArray⟩ : ByteArray) = z := ⟨_, rfl⟩
                          obtain ⟨av', have'⟩ : ∃ z : ByteArray, (⟨a.value.toArray⟩ : ByteArray) = z := ⟨_, rfl⟩
                          obtain ⟨bsp, hbse⟩ : ∃ z : ByteArray, (⟨b.space.toArray⟩ : ByteArray) = z := ⟨_, rfl⟩
                          obtain ⟨bn, hbne⟩ : ∃ z : ByteArray, (⟨b.name.toArray⟩ : ByteArray) = z := ⟨_, rfl⟩
                          obtain ⟨bv', hbve⟩ : ∃ z : ByteArray, (⟨b.value.toArray⟩ : ByteArray) = z := ⟨_, rfl⟩
                          rw [hase] at t0
                          rw [hane] at t1
                          rw [have'] at t2
                          rw [hbse] at u0
                          rw [hbne] at u1
                          rw [hbve] at u2
                          by_cases e1 : a.space = b.space
                          · have f1 : asp = bsp := by rw [← hase, e1, hbse]
                            subst f1
                            by_cases e2 : a.name = b.name
                            · have f2 : an = bn := by rw [← hane, e2, hbne]
                              subst f2
                              by_cases e3 : a.value = b.value
                              · have f3 : av' = bv' := by rw [← have', e3, hbve]
                                subst f3
                                have f4 : (a.at_ == b.at_) = false := by
                                  rw [beq_eq_false_iff_ne]
                                  intro e4
                                  apply hab
                                  cases a
                                  cases b
                                  simp only at e1 e2 e3 e4
                                  rw [e1, e2, e3, e4]
                                clear e1 e2 e3 hab hase hane have' hbse hbne hbve
                                go_wp2_with fail
                                go_quiet (fail)
                                go_wp2_with (go_at_call 36; go_must (refine (doubled_calls _ _ l (HE.out.below (below_drewN HWT.out _)) (by rw [HN.out]; exact HN1.out) (fun x hx => (HNS.out x hx).2.1) HUPL.out (up_ge HR.out) i (by rw [HN.out]; exact HIN.out) (by rw [HN.out]; exact HDD.out)).mono ?_); rintro e wz ⟨rfl, hbz⟩; have HBZ := Lib.hid (below_then (below_drewN HWT.out _) hbz); clear hbz)
                                go_ret
                                exact ⟨rfl, HBZ.out⟩
                              · have f3 : (av'.toList == bv'.toList) = false := by rw [toList_L, toList_L, (sz_of have').2, (sz_of hbve).2, beq_eq_false_iff_ne]; exact e3
                                clear e1 e2 e3 hab hase hane have' hbse hbne hbve
                                go_wp2_with fail
                                go_quiet (fail)
                                go_wp2_with (go_at_call 36; go_must (refine (doubled_calls _ _ l (HE.out.below (below_drewN HWT.out _)) (by rw [HN.out]; exact HN1.out) (fun x hx => (HNS.out x hx).2.1) HUPL.out (up_ge HR.out) i (by rw [HN.out]; exact HIN.out) (by rw [HN.out]; exact HDD.out)).mono ?_); rintro e wz ⟨rfl, hbz⟩; have HBZ := Lib.hid (below_then (below_drewN HWT.out _) hbz); clear hbz)
                                go_ret
                                exact ⟨rfl, HBZ.out⟩
                            · have f2 : (an.toList == bn.toList) = false := by rw [toList_L, toList_L, (sz_of hane).2, (sz_of hbne).2, beq_eq_false_iff_ne]; exact e2
                              clear e1 e2 hab hase hane have' hbse hbne hbve
                              go_wp2_with fail
                              go_quiet (fail)
                              go_wp2_with (go_at_call 36; go_must (refine (doubled_calls _ _ l (HE.out.below (below_drewN HWT.out _)) (by rw [HN.out]; exact HN1.out) (fun x hx => (HNS.out x hx).2.1) HUPL.out (up_ge HR.out) i (by rw [HN.out]; exact HIN.out) (by rw [HN.out]; exact HDD.out)).mono ?_); rintro e wz ⟨rfl, hbz⟩; have HBZ := Lib.hid (below_then (below_drewN HWT.out _) hbz); clear hbz)
                              go_ret
                              exact ⟨rfl, HBZ.out⟩
                          · have f1 : (asp.toList == bsp.toList) = false := by rw [toList_L, toList_L, (sz_of hase).2, (sz_of hbse).2, beq_eq_false_iff_ne]; exact e1
                            clear e1 hab hase hane have' hbse hbne hbve
                            go_wp2_with fail
                            go_quiet (fail)
                            go_wp2_with (go_at_call 36; go_must (refine (doubled_calls _ _ l (HE.out.below (below_drewN HWT.out _)) (by rw [HN.out]; exact HN1.out) (fun x hx => (HNS.out x hx).2.1) HUPL.out (up_ge HR.out) i (by rw [HN.out]; exact HIN.out) (by rw [HN.out]; exact HDD.out)).mono ?_); rintro e wz ⟨rfl, hbz⟩; have HBZ := Lib.hid (below_then (below_drewN HWT.out _) hbz); clear hbz)
                            go_ret
                            exact ⟨rfl, HBZ.out⟩
                      · have hq' : l9 = q := by omega
                        subst hq'
                        have hd5 : decide ((l9 : Int) < l9) = false := by simp
                        go_wp2_with fail
                        go_ret
                        exact ⟨rfl, HWT.out⟩
                  · have HDD := Lib.hid (HDBL2.out (.inr (.inr (fun e => hln (by rw [← hl9, ← hly, e])))))
                    have f1 : ((l9 : Int) != (ly : Int)) = true := by rw [bne_iff_ne]; omega
                    have f2 : (l9 != ly) = true := by rw [bne_iff_ne]; exact hln
                    clear hs9e hsye hn9e hnye hsp hnmm hl9 hly
                    go_wp2_with fail
                    go_quiet (fail)
                    go_wp2_with (go_at_call 36; go_must (refine (doubled_calls _ _ l (HE.out.below (below_drewN HWT.out _)) (by rw [HN.out]; exact HN1.out) (fun x hx => (HNS.out x hx).2.1) HUPL.out (up_ge HR.out) i (by rw [HN.out]; exact HIN.out) (by rw [HN.out]; exact HDD.out)).mono ?_); rintro e wz ⟨rfl, hbz⟩; have HBZ := Lib.hid (below_then (below_drewN HWT.out _) hbz); clear hbz)
                    go_ret
                    exact ⟨rfl, HBZ.out⟩
                · have HDD := Lib.hid (HDBL2.out (.inr (.inl hnmm)))
                  have f1 : (n9.toList == ny.toList) = false := by rw [toList_L, toList_L, (sz_of hn9e).2, (sz_of hnye).2, beq_eq_false_iff_ne]; exact hnmm
                  clear hs9e hsye hn9e hnye hsp hnmm hl9 hly
                  go_wp2_with fail
                  go_quiet (fail)
                  go_wp2_with (go_at_call 36; go_must (refine (doubled_calls _ _ l (HE.out.below (below_drewN HWT.out _)) (by rw [HN.out]; exact HN1.out) (fun x hx => (HNS.out x hx).2.1) HUPL.out (up_ge HR.out) i (by rw [HN.out]; exact HIN.out) (by rw [HN.out]; exact HDD.out)).mono ?_); rintro e wz ⟨rfl, hbz⟩; have HBZ := Lib.hid (below_then (below_drewN HWT.out _) hbz); clear hbz)
                  go_ret
                  exact ⟨rfl, HBZ.out⟩
              · have HDD := Lib.hid (HDBL2.out (.inl hsp))
                have f1 : (s9.toList == sy.toList) = false := by rw [toList_L, toList_L, (sz_of hs9e).2, (sz_of hsye).2, beq_eq_false_iff_ne]; exact hsp
                clear hs9e hsye hn9e hnye hsp hl9 hly
                go_wp2_with fail
                go_quiet (fail)
                go_wp2_with (go_at_call 36; go_must (refine (doubled_calls _ _ l (HE.out.below (below_drewN HWT.out _)) (by rw [HN.out]; exact HN1.out) (fun x hx => (HNS.out x hx).2.1) HUPL.out (up_ge HR.out) i (by rw [HN.out]; exact HIN.out) (by rw [HN.out]; exact HDD.out)).mono ?_); rintro e wz ⟨rfl, hbz⟩; have HBZ := Lib.hid (below_then (below_drewN HWT.out _) hbz); clear hbz)
                go_ret
                exact ⟨rfl, HBZ.out⟩
          | some ad =>
            obtain ⟨anew, han⟩ : ∃ anew, x.attrs.flatMap eaCells = anew := ⟨_, rfl⟩
            have HAL : Hid (anew.length = na * 3) := by
              show _ = _
              rw [← han, ← HNA.out]
              have : ∀ l : List Sp.EA, (l.flatMap eaCells).length = l.length * 3 := fun l => by
                induction l with
                | nil => rfl
                | cons p t ih => rw [List.flatMap_cons, List.length_append, ih, List.length_cons, Nat.succ_mul]; show 3 + _ = _; omega
              exact this _
            have HAO : Hid (∀ u ∈ anew, u.oneCell' = true) := fun u hu => by
              rw [← han] at hu
              obtain ⟨p, hp, hu⟩ := List.mem_flatMap.1 hu
              simp only [eaCells, List.mem_cons, List.not_mem_nil, or_false] at hu
              rcases hu with rfl | rfl | rfl <;> rfl
            have HAC : Hid (∀ W, Below w.heap.size w W → ∀ j u, anew[j]? = some u → W.cell? (ad.add j) = some u) := fun W hW j u hu => by
              by_cases h0 : na = 0
              · have := HAL.out
                rw [h0] at this
                have e : anew = [] := List.eq_nil_of_length_eq_zero (by omega)
                rw [e] at hu
                cases hu
              · obtain ⟨g, o, h1, h2, h3⟩ := HCA.out (by omega)
                injection h1 with h1
                subst h1
                rw [addr_add10]
                rw [← han] at hu
                exact ats_news (fun i x hx => h3 i x hx W hW) j u hu
            have HAE : Hid (∀ (W : World) (v : Value), W.ownsRow W0.heap.size 42 3 v (nc + na) (cold ++ anew) → EasAt W0.heap.size W v (C ++ x.attrs)) := fun W v hv => by
              unfold EasAt
              rw [List.length_append, HNC.out, HNA.out, List.flatMap_append, HCOLD.out, han]
              exact hv
            clear han
            go_upto_region 27 with (at_builtin; refine wpList_append_own _ rfl (.tmp 127) (.tmp 129) 38 rfl W0.heap.size 42 iA _ 3 40 Tryz.underlying38 hiA hzA0 hzA1 hzA2 rfl (by decide) (.slice a9 nc c9) nc cold (by rfl) HOW.out ad na ac anew (by rfl) HAL.out (HAC.out wr HWR.out) HAO.out (by rw [HMX.out]; omega) (by omega) HI.out.bel.size ?_; intro v6 w6 ho6 hg6 _; obtain ⟨a6, c6, rfl⟩ := own_len ho6; have HO6 : Hid (EasAt W0.heap.size w6 (.slice a6 (nc + na) c6) (C ++ x.attrs)) := HAE.out w6 _ ho6; have HB6 : Hid (Below W0.heap.size wr w6) := row_grown HOW.out HI.out.bel.size hg6; have hblk6 : w6.heap[W0.heap.size]? = some (.cells #[.string nm, .slice (some ad) na ac, .string tx, .int .i64 x.up, .int .i64 x.at_] 53 (0, 0)) := (hg6.block _ HI.out.lt (fun e => own_ne HOW.out HI.out.blk (by decide) e.symm)).trans HI.out.blk; have z1 : w6.cell? ⟨W0.heap.size, 1, none⟩ = some (.slice (some ad) na ac) := cell_of_row _ _ 1 _ _ _ hblk6; have kf := not_frozen (i := 1) hblk6; have HBLK6 := Lib.hid hblk6; clear ho6 hg6 hblk6)
            have hs7 := set_new HBLK6.out (i := 1) (.slice a6 (nc + na) c6)
            have hw7 : Below W0.heap.size W0 (w6.setCell ⟨W0.heap.size, 1, none⟩ (.slice a6 (nc + na) c6)) := (HI.out.bel.trans HB6.out).trans (grown_below hs7.2 (Nat.le_trans HI.out.bel.size HB6.out.size) (Nat.le_refl _))
            have he7 : EasAt W0.heap.size (w6.setCell ⟨W0.heap.size, 1, none⟩ (.slice a6 (nc + na) c6)) (.slice a6 (nc + na) c6) (C ++ x.attrs) := World.ownsRow.kept HO6.out hs7.2 (.inr (own_ne HO6.out HBLK6.out (by decide)))
            generalize w6.setCell ⟨W0.heap.size, 1, none⟩ (.slice a6 (nc + na) c6) = w7 at hs7 hw7 he7 ⊢
            have zz7 : w7.heap[W0.heap.size]? = some (.cells #[.string nm, .slice a6 (nc + na) c6, .string tx, .int .i64 x.up, .int .i64 x.at_] 53 (0, 0)) := hs7.1
            have k3 : w7.cell? ⟨W0.heap.size, 3, none⟩ = some (.int .i64 x.up) := cell_of_row _ _ 3 _ _ _ zz7
            have kf3 := not_frozen (i := 3) zz7
            have hs8 := set_new zz7 (i := 3) (.int .i64 (-1))
            have hw8 := hw7.trans (grown_below hs8.2 hw7.size (Nat.le_refl _))
            have he8 : EasAt W0.heap.size (w7.setCell ⟨W0.heap.size, 3, none⟩ (.int .i64 (-1))) (.slice a6 (nc + na) c6) (C ++ x.attrs) := World.ownsRow.kept he7 hs8.2 (.inr (own_ne he7 zz7 (by decide)))
            have HS8 := Lib.hid hs8
            have HW8 := Lib.hid hw8
            have HE8 := Lib.hid he8
            clear hs7 hw7 he7 zz7 hs8 hw8 he8 z1 kf
            go_upto_region 28 with fail
            have hs8 := HS8.out
            have hw8 := HW8.out
            have he8 := HE8.out
            clear HS8 HW8 HE8
            generalize w7.setCell ⟨W0.heap.size, 3, none⟩ (.int .i64 (-1)) = w8 at hs8 hw8 he8 ⊢
            have zz8 : w8.heap[W0.heap.size]? = some (.cells #[.string nm, .slice a6 (nc + na) c6, .string tx, .int .i64 (-1), .int .i64 x.at_] 53 (0, 0)) := hs8.1
            have x0 : w8.cell? ⟨W0.heap.size, 0, none⟩ = some (.string nm) := cell_of_row _ _ 0 _ _ _ zz8
            have x1 : w8.cell? ⟨W0.heap.size, 1, none⟩ = some (.slice a6 (nc + na) c6) := cell_of_row _ _ 1 _ _ _ zz8
            have x2 : w8.cell? ⟨W0.heap.size, 2, none⟩ = some (.string tx) := cell_of_row _ _ 2 _ _ _ zz8
            have x3 : w8.cell? ⟨W0.heap.size, 3, none⟩ = some (.int .i64 (-1)) := cell_of_row _ _ 3 _ _ _ zz8
            have x4 : w8.cell? ⟨W0.heap.size, 4, none⟩ = some (.int .i64 x.at_) := cell_of_row _ _ 4 _ _ _ zz8
            have hel : ElsR (w8.alloc (.cells #[.string nm, .slice a6 (nc + na) c6, .string tx, .int .i64 (-1), .int .i64 x.at_] 53)) (.slice (some ⟨w8.heap.size, 0, none⟩) 1 1) [xe] := one_R w8 nm tx (-1) x.at_ _ _ he8.toR xe HXE1.out HXE2.out HXE3.out HXE4.out (by rw [HXE5.out, HCQ.out])
            have HEL := Lib.hid hel
            have HW8 := Lib.hid (hw8.alloc hw8.size (.cells #[.string nm, .slice a6 (nc + na) c6, .string tx, .int .i64 (-1), .int .i64 x.at_] 53))
            clear hs8 zz8 hel k3 kf3 hw8 he8
            cases hRe : Sp.resolve [xe] with
            | error f =>
              have hf := resolve_code hRe
              have hfz : ((f.2 : Int) != 0) = true := by rw [bne_iff_ne]; omega
              have HRE := Lib.hid hRe
              have HDD := Lib.hid (HDBL.out (by rw [hRe]; intro h; cases h))
              clear hf hRe
              go_wp2_with fail
              refine (resolve_err _ _ [xe] HEL.out (by show 1 ≤ 1000; omega) HXN.out f HRE.out).mono ?_
              rintro e w9 ⟨rfl, hb9⟩
              have HWT := Lib.hid (below_then HB3.out (below_then HW8.out hb9))
              clear hb9
              go_wp2_with fail
              go_quiet (fail)
              go_wp2_with (go_at_call 36; go_must (refine (doubled_calls _ _ l (HE.out.below (below_drewN HWT.out _)) (by rw [HN.out]; exact HN1.out) (fun x hx => (HNS.out x hx).2.1) HUPL.out (up_ge HR.out) i (by rw [HN.out]; exact HIN.out) (by rw [HN.out]; exact HDD.out)).mono ?_); rintro e wz ⟨rfl, hbz⟩; have HBZ := Lib.hid (below_then (below_drewN HWT.out _) hbz); clear hbz)
              go_ret
              exact ⟨rfl, HBZ.out⟩
            | ok r9 =>
              obtain ⟨y9, rfl⟩ := one_len hRe
              have HRE := Lib.hid hRe
              have HDBL2 : Hid (y9.space ≠ y.space ∨ y9.name ≠ y.name ∨ y9.attrs ≠ y.attrs → ∃ A ∈ chain l n (i : Int), ¬ NoDup A) := fun h => HDBL.out (by
                rw [hRe]
                intro e
                injection e with e
                injection e with e _
                rw [e] at h
                rcases h with h | h | h <;> exact h rfl)
              clear hRe
              go_wp2_with fail
              refine (resolve_ok _ _ [xe] HEL.out (by show 1 ≤ 1000; omega) HXN.out [y9] HRE.out).mono ?_
              rintro e w9 ⟨⟨v9, rfl, hm9⟩, hb9⟩
              obtain ⟨a9', c9', rfl, hc9⟩ := hm9.toR.cells
              obtain ⟨g9, o9, rfl, hg9, hc9⟩ := hc9 (by show 0 < 1; omega)
              obtain ⟨av9, hs9, hz9⟩ := hc9 0 y9 rfl
              obtain ⟨b9, d9, rfl, hk9⟩ := hs9.cells
              have HW9 := Lib.hid (below_then HW8.out hb9)
              have HK9 := Lib.hid hk9
              have HZ9 := Lib.hid hz9
              clear hb9 hm9 hc9 hs9 hk9 hz9 HEL x0 x1 x2 x3 x4
              obtain ⟨q0, q1, q2, -, -, -⟩ := HMY.out w9 HW9.out
              obtain ⟨p0, p1, p2, -, -, -⟩ := HZ9.out w9 (Below.refl _ _)
              simp only [Nat.zero_mul, Nat.add_zero] at p0 p1 p2
              have HWT := Lib.hid (below_then HB3.out HW9.out)
              obtain ⟨s9, hs9e⟩ : ∃ s9 : ByteArray, (⟨y9.space.toArray⟩ : ByteArray) = s9 := ⟨_, rfl⟩
              obtain ⟨sy, hsye⟩ : ∃ sy : ByteArray, (⟨y.space.toArray⟩ : ByteArray) = sy := ⟨_, rfl⟩
              obtain ⟨n9, hn9e⟩ : ∃ n9 : ByteArray, (⟨y9.name.toArray⟩ : ByteArray) = n9 := ⟨_, rfl⟩
              obtain ⟨ny, hnye⟩ : ∃ ny : ByteArray, (⟨y.name.toArray⟩ : ByteArray) = ny := ⟨_, rfl⟩
              obtain ⟨l9, hl9⟩ : ∃ l9, y9.attrs.length = l9 := ⟨_, rfl⟩
              obtain ⟨ly, hly⟩ : ∃ ly, y.attrs.length = ly := ⟨_, rfl⟩
              rw [hs9e] at p0
              rw [hsye] at q0
              rw [hn9e] at p1
              rw [hnye] at q1
              rw [hl9] at p2
              rw [hly] at q2
              by_cases hsp : y9.space = y.space
              · have he1 : s9 = sy := by rw [← hs9e, hsp, hsye]
                subst he1
                by_cases hnmm : y9.name = y.name
                · have he2 : n9 = ny := by rw [← hn9e, hnmm, hnye]
                  subst he2
                  by_cases hln : l9 = ly
                  · subst hln
                    have HK9L := Lib.hid hl9
                    have HKYL := Lib.hid hly
                    have HAT9 : Hid (∀ (q : Nat) (a b : Sp.SA), y9.attrs[q]? = some a → y.attrs[q]? = some b → a ≠ b → ∃ A ∈ chain l n (i : Int), ¬ NoDup A) := fun q a b h1 h2 h3 => HDBL2.out (.inr (.inr (fun e => by
                      rw [e] at h1
                      rw [h2] at h1
                      injection h1 with h1
                      exact h3 h1.symm)))
                    have hly3 : l9 ≤ 100000 := by have := HYL.out; omega
                    have HM9p := fun (W : World) (hW : Below w9.heap.size w9 W) => (HZ9.out W hW).2.2.1
                    simp only [Nat.zero_mul, Nat.add_zero] at HM9p
                    rw [hl9] at HM9p
                    have HPP := Lib.hid HM9p
                    have HQQ := Lib.hid (fun (W : World) (hW : Below W0.heap.size W0 W) => (HMY.out W hW).2.2.1)
                    clear hs9e hsye hn9e hnye hsp hnmm hl9 hly HM9p
                    go_wp2_with fail
                    go_quiet (fail)
                    go_wp2_with fail
                    go_loopg [19] (l9 + 1) (fun k q2 wr => ∃ q : Nat, q2 = .int .i64 q ∧ q ≤ l9 ∧ l9 - q < k ∧ Hid (Below w9.heap.size w9 wr))
                    case atStart => exact ⟨0, rfl, Nat.zero_le _, by omega, below_drewN (Below.refl _ _) _⟩
                    case round =>
                      clear p0 p1 p2 q0 q1 q2 HWT
                      obtain ⟨q, rfl, hq, hk5, HBW⟩ := hrel
                      have p2 := HPP.out wr HBW.out
                      have q2 := HQQ.out wr (below_then HW9.out HBW.out)
                      rw [HKYL.out] at q2
                      have HWT := Lib.hid (below_then HB3.out (below_then HW9.out HBW.out))
                      by_cases hlt5 : q < l9
                      · have hd5 : decide ((q : Int) < l9) = true := by simp; omega
                        have hq0 : (0 : Int) ≤ q := by omega
                        have hq1 : (q : Int) < l9 := by omega
                        obtain ⟨a, ha⟩ : ∃ a, y9.attrs[q]? = some a := ⟨_, List.getElem?_eq_getElem (by rw [HK9L.out]; exact hlt5)⟩
                        obtain ⟨b, hb⟩ : ∃ b, y.attrs[q]? = some b := ⟨_, List.getElem?_eq_getElem (by rw [HKYL.out]; exact hlt5)⟩
                        obtain ⟨ga, oa, rfl, hga, hca⟩ := HK9.out (by rw [HK9L.out]; omega)
                        obtain ⟨gb, ob, rfl, hgb, hcb⟩ := HKY.out (by rw [HKYL.out]; omega)
                        obtain ⟨t0, t1, t2, t3⟩ := hca q a ha wr HBW.out
                        obtain ⟨u0, u1, u2, u3⟩ := hcb q b hb wr (below_then HW9.out HBW.out)
                        have HDA := Lib.hid (HAT9.out q a b ha hb)
                        clear ha hb hca hcb
                        by_cases hab : a = b
                        · subst hab
                          go_wp2_with fail
                          go_quiet (fail)
                          go_wp2_with fail
                          go_roundg (gk - 1)
                          case measure => omega
                          case rel => exact ⟨q + 1, by simp, by omega, by omega, below_drewN HBW.out _⟩
                        · have HDD := Lib.hid (HDA.out hab)
                          obtain ⟨asp, hase⟩ : ∃ z : ByteArray, (⟨a.space.toArray⟩ : ByteArray) = z := ⟨_, rfl⟩
                          obtain ⟨an, hane⟩ : ∃ z : ByteArray, (⟨a.name.toArray⟩ : ByteArray) = z := ⟨_, rfl⟩
                          obtain ⟨av', have'⟩ : ∃ z : ByteArray, (⟨a.value.toArray⟩ : ByteArray) = z := ⟨_, rfl⟩
                          obtain ⟨bsp, hbse⟩ : ∃ z : ByteArray, (⟨b.space.toArray⟩ : ByteArray) = z := ⟨_, rfl⟩
                          obtain ⟨bn, hbne⟩ : ∃ z : ByteArray, (⟨b.name.toArray⟩ : ByteArray) = z := ⟨_, rfl⟩
                          obtain ⟨bv', hbve⟩ : ∃ z : ByteArray, (⟨b.value.toArray⟩ : ByteArray) = z := ⟨_, rfl⟩
                          rw [hase] at t0
                          rw [hane] at t1
                          rw [have'] at t2
                          rw [hbse] at u0
                          rw [hbne] at u1
                          rw [hbve] at u2
                          by_cases e1 : a.space = b.space
                          · have f1 : asp = bsp := by rw [← hase, e1, hbse]
                            subst f1
                            by_cases e2 : a.name = b.name
                            · have f2 : an = bn := by rw [← hane, e2, hbne]
                              subst f2
                              by_cases e3 : a.value = b.value
                              · have f3 : av' = bv' := by rw [← have', e3, hbve]
                                subst f3
                                have f4 : (a.at_ == b.at_) = false := by
                                  rw [beq_eq_false_iff_ne]
                                  intro e4
                                  apply hab
                                  cases a
                                  cases b
                                  simp only at e1 e2 e3 e4
                                  rw [e1, e2, e3, e4]
                                clear e1 e2 e3 hab hase hane have' hbse hbne hbve
                                go_wp2_with fail
                                go_quiet (fail)
                                go_wp2_with (go_at_call 36; go_must (refine (doubled_calls _ _ l (HE.out.below (below_drewN HWT.out _)) (by rw [HN.out]; exact HN1.out) (fun x hx => (HNS.out x hx).2.1) HUPL.out (up_ge HR.out) i (by rw [HN.out]; exact HIN.out) (by rw [HN.out]; exact HDD.out)).mono ?_); rintro e wz ⟨rfl, hbz⟩; have HBZ := Lib.hid (below_then (below_drewN HWT.out _) hbz); clear hbz)
                                go_ret
                                exact ⟨rfl, HBZ.out⟩
                              · have f3 : (av'.toList == bv'.toList) = false := by rw [toList_L, toList_L, (sz_of have').2, (sz_of hbve).2, beq_eq_false_iff_ne]; exact e3
                                clear e1 e2 e3 hab hase hane have' hbse hbne hbve
                                go_wp2_with fail
                                go_quiet (fail)
                                go_wp2_with (go_at_call 36; go_must (refine (doubled_calls _ _ l (HE.out.below (below_drewN HWT.out _)) (by rw [HN.out]; exact HN1.out) (fun x hx => (HNS.out x hx).2.1) HUPL.out (up_ge HR.out) i (by rw [HN.out]; exact HIN.out) (by rw [HN.out]; exact HDD.out)).mono ?_); rintro e wz ⟨rfl, hbz⟩; have HBZ := Lib.hid (below_then (below_drewN HWT.out _) hbz); clear hbz)
                                go_ret
                                exact ⟨rfl, HBZ.out⟩
                            · have f2 : (an.toList == bn.toList) = false := by rw [toList_L, toList_L, (sz_of hane).2, (sz_of hbne).2, beq_eq_false_iff_ne]; exact e2
                              clear e1 e2 hab hase hane have' hbse hbne hbve
                              go_wp2_with fail
                              go_quiet (fail)
                              go_wp2_with (go_at_call 36; go_must (refine (doubled_calls _ _ l (HE.out.below (below_drewN HWT.out _)) (by rw [HN.out]; exact HN1.out) (fun x hx => (HNS.out x hx).2.1) HUPL.out (up_ge HR.out) i (by rw [HN.out]; exact HIN.out) (by rw [HN.out]; exact HDD.out)).mono ?_); rintro e wz ⟨rfl, hbz⟩; have HBZ := Lib.hid (below_then (below_drewN HWT.out _) hbz); clear hbz)
                              go_ret
                              exact ⟨rfl, HBZ.out⟩
                          · have f1 : (asp.toList == bsp.toList) = false := by rw [toList_L, toList_L, (sz_of hase).2, (sz_of hbse).2, beq_eq_false_iff_ne]; exact e1
                            clear e1 hab hase hane have' hbse hbne hbve
                            go_wp2_with fail
                            go_quiet (fail)
                            go_wp2_with (go_at_call 36; go_must (refine (doubled_calls _ _ l (HE.out.below (below_drewN HWT.out _)) (by rw [HN.out]; exact HN1.out) (fun x hx => (HNS.out x hx).2.1) HUPL.out (up_ge HR.out) i (by rw [HN.out]; exact HIN.out) (by rw [HN.out]; exact HDD.out)).mono ?_); rintro e wz ⟨rfl, hbz⟩; have HBZ := Lib.hid (below_then (below_drewN HWT.out _) hbz); clear hbz)
                            go_ret
                            exact ⟨rfl, HBZ.out⟩
                      · have hq' : l9 = q := by omega
                        subst hq'
                        have hd5 : decide ((l9 : Int) < l9) = false := by simp
                        go_wp2_with fail
                        go_ret
                        exact ⟨rfl, HWT.out⟩
                  · have HDD := Lib.hid (HDBL2.out (.inr (.inr (fun e => hln (by rw [← hl9, ← hly, e])))))
                    have f1 : ((l9 : Int) != (ly : Int)) = true := by rw [bne_iff_ne]; omega
                    have f2 : (l9 != ly) = true := by rw [bne_iff_ne]; exact hln
                    clear hs9e hsye hn9e hnye hsp hnmm hl9 hly
                    go_wp2_with fail
                    go_quiet (fail)
                    go_wp2_with (go_at_call 36; go_must (refine (doubled_calls _ _ l (HE.out.below (below_drewN HWT.out _)) (by rw [HN.out]; exact HN1.out) (fun x hx => (HNS.out x hx).2.1) HUPL.out (up_ge HR.out) i (by rw [HN.out]; exact HIN.out) (by rw [HN.out]; exact HDD.out)).mono ?_); rintro e wz ⟨rfl, hbz⟩; have HBZ := Lib.hid (below_then (below_drewN HWT.out _) hbz); clear hbz)
                    go_ret
                    exact ⟨rfl, HBZ.out⟩
                · have HDD := Lib.hid (HDBL2.out (.inr (.inl hnmm)))
                  have f1 : (n9.toList == ny.toList) = false := by rw [toList_L, toList_L, (sz_of hn9e).2, (sz_of hnye).2, beq_eq_false_iff_ne]; exact hnmm
                  clear hs9e hsye hn9e hnye hsp hnmm hl9 hly
                  go_wp2_with fail
                  go_quiet (fail)
                  go_wp2_with (go_at_call 36; go_must (refine (doubled_calls _ _ l (HE.out.below (below_drewN HWT.out _)) (by rw [HN.out]; exact HN1.out) (fun x hx => (HNS.out x hx).2.1) HUPL.out (up_ge HR.out) i (by rw [HN.out]; exact HIN.out) (by rw [HN.out]; exact HDD.out)).mono ?_); rintro e wz ⟨rfl, hbz⟩; have HBZ := Lib.hid (below_then (below_drewN HWT.out _) hbz); clear hbz)
                  go_ret
                  exact ⟨rfl, HBZ.out⟩
              · have HDD := Lib.hid (HDBL2.out (.inl hsp))
                have f1 : (s9.toList == sy.toList) = false := by rw [toList_L, toList_L, (sz_of hs9e).2, (sz_of hsye).2, beq_eq_false_iff_ne]; exact hsp
                clear hs9e hsye hn9e hnye hsp hl9 hly
                go_wp2_with fail
                go_quiet (fail)
                go_wp2_with (go_at_call 36; go_must (refine (doubled_calls _ _ l (HE.out.below (below_drewN HWT.out _)) (by rw [HN.out]; exact HN1.out) (fun x hx => (HNS.out x hx).2.1) HUPL.out (up_ge HR.out) i (by rw [HN.out]; exact HIN.out) (by rw [HN.out]; exact HDD.out)).mono ?_); rintro e wz ⟨rfl, hbz⟩; have HBZ := Lib.hid (below_then (below_drewN HWT.out _) hbz); clear hbz)
                go_ret
                exact ⟨rfl, HBZ.out⟩
        · obtain ⟨k, rfl⟩ : ∃ k : Nat, u = (k : Int) := ⟨u.toNat, by omega⟩
          have hdu : decide ((0 : Int) ≤ (k : Int)) = true := by simp
          have hk0 : (0 : Int) ≤ k := by omega
          have hkn : k < n := by omega
          obtain ⟨y, hy⟩ : ∃ y, l[k]? = some y := ⟨_, List.getElem?_eq_getElem (by rw [HN.out]; exact hkn)⟩
          have hym := List.mem_of_getElem? hy
          obtain ⟨bv, hbv, hcly⟩ := HC1.out k y hy
          obtain ⟨ba, bc, rfl, hcb⟩ := hbv.cells
          have hyu := (HUP.out k y hy).1
          have hyu1 := up_ge HR.out y hym
          have hnb3 := (HNS.out y hym).2.1
          have hyN := (HNS.out y hym).2.2
          have hco := HCO.out
          rw [chain_step HUPL.out hkn hy, collect_cons] at hco
          have hco0 : collect x.attrs ((y.attrs.drop 0).foldl (colStep x.attrs) C) (chain l n y.up) = CC := hco
          obtain ⟨nb, hnb⟩ : ∃ nb, y.attrs.length = nb := ⟨_, rfl⟩
          rw [hnb] at hcly hcb hnb3
          obtain ⟨-, w1', -, w3', -⟩ := hcly wr (below_then HB3.out HI.out.bel)
          have HCO0 := Lib.hid hco0
          have HCLY := Lib.hid hcly
          have HCBY := Lib.hid hcb
          have HNB := Lib.hid hnb
          have HYU := Lib.hid hyu
          have HYU1 := Lib.hid hyu1
          have HYN := Lib.hid hyN
          clear hy hym hbv hcly hcb hyu hyu1 hyN hco hco0 hnb hu0
          go_wp2_with fail
          go_loopg [9, 11, 12, 13, 14, 15] (nb + 1) (fun k2 av q2 _ _ _ _ wr2 => ∃ (q : Nat) (C2 : List Sp.EA) (a9 : Option Addr) (nc c9 : Nat), q2 = .int .i64 q ∧ av = .slice a9 nc c9 ∧ Hid (C2.length = nc) ∧ q ≤ nb ∧ nb - q < k2 ∧ Hid (collect x.attrs ((y.attrs.drop q).foldl (colStep x.attrs) C2) (chain l n y.up) = CC) ∧ Hid (IN W0 wr2 nm tx x.up x.at_ (.slice aa na ac) av C2))
          case atStart => exact ⟨0, C, a9, nc, c9, rfl, rfl, HNC, Nat.zero_le _, by omega, HCO0, HI⟩
          case round =>
            clear HCO0 HI HNC HCO w1' w3'
            obtain ⟨gk1, rfl⟩ : ∃ z, z = gk := ⟨_, rfl⟩
            obtain ⟨q, C2, a9, nc, c9, rfl, rfl, HNC, hq, hk2, HCO, HI⟩ := hrel
            obtain ⟨-, w1', -, w3', -⟩ := HCLY.out wr (below_then HB3.out HI.out.bel)
            by_cases hlt2 : q < nb
            · have hd2 : decide ((q : Int) < nb) = true := by simp; omega
              have hq0 : (0 : Int) ≤ q := by omega
              have hq1 : (q : Int) < nb := by omega
              obtain ⟨ga, oa, rfl, hga, ha⟩ := HCBY.out (by omega)
              obtain ⟨b, hb1⟩ : ∃ b, y.attrs[q]? = some b := ⟨_, List.getElem?_eq_getElem (by rw [HNB.out]; exact hlt2)⟩
              obtain ⟨hbn1, hbn2⟩ := HYN.out b (List.mem_of_getElem? hb1)
              obtain ⟨bn, hbn⟩ : ∃ bn : ByteArray, (⟨b.name.toArray⟩ : ByteArray) = bn := ⟨_, rfl⟩
              obtain ⟨bl, hbl⟩ : ∃ bl : ByteArray, (⟨b.value.toArray⟩ : ByteArray) = bl := ⟨_, rfl⟩
              obtain ⟨u0, u1, u2⟩ := ha q b hb1 wr (below_then HB3.out HI.out.bel)
              rw [hbn] at u0
              rw [hbl] at u1
              obtain ⟨hbns, hbnL⟩ := sz_of hbn
              have hbn9 : bn.size ≤ 1152921504606846980 := by omega
              have hdrop : y.attrs.drop q = b :: y.attrs.drop (q + 1) := by
                obtain ⟨hlt', he⟩ := List.getElem?_eq_some_iff.1 hb1
                rw [List.drop_eq_getElem_cons hlt', he]
              have hco := HCO.out
              rw [hdrop, List.foldl_cons] at hco
              have hncl : nc ≤ 45300 := by
                have h1 := (collect_mono x.attrs (chain l n y.up) ((y.attrs.drop q).foldl (colStep x.attrs) C2)).1
                have h2 := (fold_mono x.attrs (y.attrs.drop q) C2).1
                rw [HCO.out] at h1
                have h3 := HCCL.out
                have h4 := HNC.out
                omega
              have hrow := HI.out.eas.toR
              have HBN := Lib.hid hbn
              have HBL := Lib.hid hbl
              have HBNL := Lib.hid hbnL
              have HCOX := Lib.hid hco
              clear ha hb1 hbn1 hbn2 hbn hbl hbns hbnL hdrop hco
              obtain ⟨W2, rfl⟩ : ∃ z, z = wr := ⟨_, rfl⟩
              go_upto_region 15 with fail
              have zz := heap_alloc_new W2 (.cells #[.string bn, .string bl, .int .i64 b.at_] 42)
              have hIB := HI.out.below ((Below.refl _ W2).alloc (Nat.le_refl _) (.cells #[.string bn, .string bl, .int .i64 b.at_] 42))
              have hltB : W2.heap.size < (W2.alloc (.cells #[.string bn, .string bl, .int .i64 b.at_] 42)).heap.size := by rw [sz_alloc]; omega
              have hrB : AtsR (W2.alloc (.cells #[.string bn, .string bl, .int .i64 b.at_] 42)) (.slice a9 nc c9) C2 := hrow.below ((Below.refl _ W2).alloc (Nat.le_refl _) _)
              generalize W2.alloc (.cells #[.string bn, .string bl, .int .i64 b.at_] 42) = wb at zz hIB hltB hrB ⊢
              have HZB : Hid (∀ W : World, Below wb.heap.size wb W → W.heap[W2.heap.size]? = some (.cells #[.string bn, .string bl, .int .i64 b.at_] 42 (0, 0))) := fun W hW => (hW.block _ hltB).trans zz
              obtain ⟨a9', c9', hv9, hc9⟩ := hrB.cells
              rw [HNC.out] at hv9 hc9
              injection hv9 with hv9 hv9' hv9''
              subst hv9 hv9''
              have HC9 := Lib.hid hc9
              have HIB := Lib.hid hIB
              have HNCL := Lib.hid hncl
              clear zz hltB hrB hc9 hIB hrow u0 u1 u2 w1' w3' HI HCO
              go_wp2_with fail
              go_loopg [13, 14] (nc + 1) (fun k3 kn p2 wr3 => ∃ p : Nat, p2 = .int .i64 p ∧ kn = .bool (knows (C2.take p) b) ∧ p ≤ nc ∧ nc - p < k3 ∧ Hid (Below wb.heap.size wb wr3))
              case atStart => exact ⟨0, rfl, rfl, Nat.zero_le _, by omega, Below.refl _ _⟩
              case round =>
                obtain ⟨p, rfl, rfl, hp, hk3, HBW⟩ := hrel
                by_cases hlt3 : p < nc
                · have hd3' : decide ((p : Int) < nc) = true := by simp; omega
                  have hp0 : (0 : Int) ≤ p := by omega
                  have hp1 : (p : Int) < nc := by omega
                  obtain ⟨c, hc1⟩ : ∃ c, C2[p]? = some c := ⟨_, List.getElem?_eq_getElem (by rw [HNC.out]; exact hlt3)⟩
                  have hkx := knows_snoc C2 p b c hc1
                  cases hkp : knows (C2.take p) b with
                  | true =>
                    have HKX : Hid (knows (C2.take (p + 1)) b = true) := by show _ = _; rw [hkx, hkp]; rfl
                    clear hc1 hkx hkp
                    go_wp2_with fail
                    go_quiet (fail)
                    go_wp2_with fail
                    go_roundg (gk - 1)
                    case measure => omega
                    case rel => exact ⟨p + 1, by simp, by rw [HKX.out], by omega, by omega, below_drewN HBW.out _⟩
                  | false =>
                    rw [hkp, Bool.false_or] at hkx
                    obtain ⟨g9, o9, rfl, hg9, hcc⟩ := HC9.out (by omega)
                    obtain ⟨cn, hcn⟩ : ∃ cn : ByteArray, (⟨c.name.toArray⟩ : ByteArray) = cn := ⟨_, rfl⟩
                    obtain ⟨t0, -, -⟩ := hcc p c hc1 wr HBW.out
                    rw [hcn] at t0
                    have s0 : wr.cell? ⟨W2.heap.size, 0, none⟩ = some (.string bn) := cell_of_row _ _ 0 _ _ _ (HZB.out wr HBW.out)
                    have hx1 : (cn.toList == bn.toList) = knows (C2.take (p + 1)) b := by
                      rw [hkx, toList_L, toList_L, (sz_of hcn).2, HBNL.out]
                      by_cases h : c.name = b.name
                      · simp [h]
                      · simp [h]
                    obtain ⟨kb, hkb⟩ : ∃ kb, knows (C2.take (p + 1)) b = kb := ⟨_, rfl⟩
                    rw [hkb] at hx1
                    have HKB := Lib.hid hkb
                    clear hc1 hkx hkp hcc hcn hkb
                    go_wp2_with fail
                    go_quiet (fail)
                    go_wp2_with fail
                    go_roundg (gk - 1)
                    case measure => omega
                    case rel => exact ⟨p + 1, by simp, by rw [HKB.out], by omega, by omega, below_drewN HBW.out _⟩
                · have hp' : nc = p := by omega
                  subst hp'
                  have hd3' : decide ((nc : Int) < nc) = false := by simp
                  have hkc : knows (C2.take nc) b = knows C2 b := by rw [List.take_of_length_le (by rw [HNC.out]; exact Nat.le_refl _)]
                  obtain ⟨kc, hkc2⟩ : ∃ kc, knows C2 b = kc := ⟨_, rfl⟩
                  rw [hkc, hkc2]
                  have HKC := Lib.hid hkc2
                  clear hkc hkc2
                  go_wp2_with fail
                  go_loopg [13, 15] (na + 1) (fun k4 kn p2 wr4 => ∃ p : Nat, p2 = .int .i64 p ∧ kn = .bool (kc || knows (x.attrs.take p) b) ∧ p ≤ na ∧ na - p < k4 ∧ Hid (Below wb.heap.size wb wr4))
                  case atStart => exact ⟨0, rfl, by simp [knows], Nat.zero_le _, by omega, HBW⟩
                  case round =>
                    clear HBW
                    obtain ⟨p, rfl, rfl, hp4, hk4, HBW⟩ := hrel
                    have z1 : wr.cell? ⟨W0.heap.size, 1, none⟩ = some (.slice aa na ac) := cell_of_row _ _ 1 _ _ _ (HIB.out.below HBW.out).blk
                    have s0 : wr.cell? ⟨W2.heap.size, 0, none⟩ = some (.string bn) := cell_of_row _ _ 0 _ _ _ (HZB.out wr HBW.out)
                    by_cases hlt4 : p < na
                    · have hd4' : decide ((p : Int) < na) = true := by simp; omega
                      have hp0 : (0 : Int) ≤ p := by omega
                      have hp1 : (p : Int) < na := by omega
                      obtain ⟨c, hc1⟩ : ∃ c, x.attrs[p]? = some c := ⟨_, List.getElem?_eq_getElem (by rw [HNA.out]; exact hlt4)⟩
                      have hkx := knows_snoc x.attrs p b c hc1
                      cases hkp : (kc || knows (x.attrs.take p) b) with
                      | true =>
                        have HKX : Hid ((kc || knows (x.attrs.take (p + 1)) b) = true) := by show _ = _; rw [hkx, ← Bool.or_assoc, hkp]; rfl
                        clear hc1 hkx hkp
                        go_wp2_with fail
                        go_quiet (fail)
                        go_wp2_with fail
                        go_roundg (gk - 1)
                        case measure => omega
                        case rel => exact ⟨p + 1, by simp, by rw [HKX.out], by omega, by omega, below_drewN HBW.out _⟩
                      | false =>
                        obtain ⟨gx, ox, rfl, hgx, hcc⟩ := HCA.out (by omega)
                        obtain ⟨cn, hcn⟩ : ∃ cn : ByteArray, (⟨c.name.toArray⟩ : ByteArray) = cn := ⟨_, rfl⟩
                        obtain ⟨t0, -, -⟩ := hcc p c hc1 wr (below_then HB3.out (HIB.out.below HBW.out).bel)
                        rw [hcn] at t0
                        have hx1 : (cn.toList == bn.toList) = (kc || knows (x.attrs.take (p + 1)) b) := by
                          rw [hkx, ← Bool.or_assoc, hkp, toList_L, toList_L, (sz_of hcn).2, HBNL.out]
                          by_cases h : c.name = b.name
                          · simp [h]
                          · simp [h]
                        obtain ⟨kb, hkb⟩ : ∃ kb, (kc || knows (x.attrs.take (p + 1)) b) = kb := ⟨_, rfl⟩
                        rw [hkb] at hx1
                        have HKB := Lib.hid hkb
                        clear hc1 hkx hkp hcc hcn hkb
                        go_wp2_with fail
                        go_quiet (fail)
                        go_wp2_with fail
                        go_roundg (gk - 1)
                        case measure => omega
                        case rel => exact ⟨p + 1, by simp, by rw [HKB.out], by omega, by omega, below_drewN HBW.out _⟩
                    · have hp' : na = p := by omega
                      subst hp'
                      have hd4' : decide ((na : Int) < na) = false := by simp
                      have hkn2 : knows (x.attrs.take na) b = knows x.attrs b := by rw [List.take_of_length_le (by rw [HNA.out]; exact Nat.le_refl _)]
                      rw [hkn2]
                      obtain ⟨kk, hkk⟩ : ∃ kk, (kc || knows x.attrs b) = kk := ⟨_, rfl⟩
                      rw [hkk]
                      obtain ⟨dd, hdd⟩ : ∃ dd, (Sp.declares b.name).2 = dd := ⟨_, rfl⟩
                      have HDD : Hid ((Sp.declares (L bn)).2 = dd) := by show _ = _; rw [HBNL.out]; exact hdd
                      have hstep : colStep x.attrs C2 b = if (dd && !kk) = true then C2 ++ [b] else C2 := by
                        unfold colStep
                        rw [hdd, HKC.out, ← hkk]
                        cases dd <;> cases kc <;> cases knows x.attrs b <;> rfl
                      have hco := HCOX.out
                      rw [hstep] at hco
                      have HCOS := Lib.hid hco
                      clear hkn2 hkk hdd hstep hco
                      by_cases happ : (dd && !kk) = true
                      · obtain ⟨rfl, rfl⟩ : dd = true ∧ kk = false := by cases dd <;> cases kk <;> simp at happ ⊢
                        have HCOT : Hid (collect x.attrs ((y.attrs.drop (q + 1)).foldl (colStep x.attrs) (C2 ++ [b])) (chain l n y.up) = CC) := by
                          have := HCOS.out
                          rw [if_pos (show (true && !false) = true from rfl)] at this
                          exact this
                        have hbb : b = ⟨L bn, L bl, b.at_⟩ := by
                          have h1 := HBNL.out
                          have h2 := (sz_of HBL.out).2
                          rw [h1, h2]
                        have HBBQ := Lib.hid hbb
                        have hlen8 : ∀ m : Sp.EA, (C2 ++ [m]).length = nc + 1 := fun m => by rw [List.length_append, HNC.out]; rfl
                        have HLEN8 := Lib.hid hlen8
                        clear happ hbb hlen8
                        go_wp2_with (first
                          | (go_at_call 35; go_must (refine (rdecl_calls bn _ hbn9 true HDD.out).mono ?_); rintro e w5 ⟨rfl, hb5⟩; have HB5 := Lib.hid (below_then HBW.out hb5); clear s0 hb5; have s0 : w5.cell? ⟨W2.heap.size, 0, none⟩ = some (.string bn) := cell_of_row _ _ 0 _ _ _ (HZB.out w5 HB5.out); have s1 : w5.cell? ⟨W2.heap.size, 1, none⟩ = some (.string bl) := cell_of_row _ _ 1 _ _ _ (HZB.out w5 HB5.out); have s2 : w5.cell? ⟨W2.heap.size, 2, none⟩ = some (.int .i64 b.at_) := cell_of_row _ _ 2 _ _ _ (HZB.out w5 HB5.out); have HI5 := Lib.hid (HIB.out.below HB5.out))
                          | (at_builtin; refine wpList_appEA rfl (.tmp 123) (.tmp 125) rfl (base := W0.heap.size) (W := w5) ⟨L bn, L bl, b.at_⟩ (by rfl) HI5.out.eas HI5.out.bel.size (by rw [HNC.out]; have := HNCL.out; omega) #[.string bn, .string bl, .int .i64 b.at_] (by simp only [eaCells, bs_L]) (by rfl) ?_; intro v8 w8 ho8 hg8 hb8; obtain ⟨a8, c8, hv8⟩ := own_len ho8; rw [HLEN8.out] at hv8; subst hv8; have HI8 := Lib.hid (HI5.out.app ho8 hg8 hb8); clear ho8 hg8 hb8))
                        go_roundg (gk1 - 1)
                        case measure => omega
                        case rel =>
                          refine ⟨q + 1, C2 ++ [b], a8, nc + 1, c8, (by simp; try (unfold wrap64; omega)), rfl, HLEN8.out b, by omega, by omega, HCOT, ?_⟩
                          have h := HI8.out
                          rw [← HBBQ.out] at h
                          exact h
                      · have HCOT : Hid (collect x.attrs ((y.attrs.drop (q + 1)).foldl (colStep x.attrs) C2) (chain l n y.up) = CC) := by
                          have := HCOS.out
                          rw [if_neg happ] at this
                          exact this
                        cases dd with
                        | false =>
                          clear happ
                          go_wp2_with (go_at_call 35; go_must (refine (rdecl_calls bn _ hbn9 false HDD.out).mono ?_); rintro e w5 ⟨rfl, hb5⟩; have HB5 := Lib.hid (below_then HBW.out hb5); clear hb5)
                          go_roundg (gk1 - 1)
                          case measure => omega
                          case rel => exact ⟨q + 1, C2, a9, nc, c9, (by simp; try (unfold wrap64; omega)), rfl, HNC, by omega, by omega, HCOT, HIB.out.below HB5.out⟩
                        | true =>
                          cases kk with
                          | false => exact absurd rfl happ
                          | true =>
                            clear happ
                            go_wp2_with (go_at_call 35; go_must (refine (rdecl_calls bn _ hbn9 true HDD.out).mono ?_); rintro e w5 ⟨rfl, hb5⟩; have HB5 := Lib.hid (below_then HBW.out hb5); clear hb5)
                            go_roundg (gk1 - 1)
                            case measure => omega
                            case rel => exact ⟨q + 1, C2, a9, nc, c9, (by simp; try (unfold wrap64; omega)), rfl, HNC, by omega, by omega, HCOT, HIB.out.below HB5.out⟩
            · have hq' : nb = q := by omega
              subst hq'
              have hd2 : decide ((nb : Int) < nb) = false := by simp
              have hco := HCO.out
              rw [List.drop_eq_nil_of_le (by rw [HNB.out]; exact Nat.le_refl _)] at hco
              have HCO2 : Hid (collect x.attrs C2 (chain l n y.up) = CC) := hco
              clear hco
              go_wp2_with fail
              go_roundg (gk0 - 1)
              case measure => have := HYU.out; have := HYU1.out; omega
              case rel => exact ⟨y.up, C2, a9, nc, c9, rfl, rfl, HNC, HYU1.out, by have := HYU.out; omega, by have := HYU.out; have := HYU1.out; omega, HCO2, HI⟩
end Go.Proofs.YtokdclmikllepaaGreatDoor
