import Derived.Test.YtokdclmikllepaaGreatDoorMd
import Derived.Laws.AppendOwnNone
namespace Go.Proofs.YtokdclmikllepaaGreatDoor
open Go.RowKit
set_option linter.unusedVariables false
set_option linter.unusedSimpArgs false

/-! ### SpacesDefault: rows copied -/
theorem run_append_nn (w : World) (t ty e : TypeId) (i : TypeInfo) (ht : Tryz.prog.underlying t = some (.slice e)) (hi : Tryz.prog.info? e = some i) (c : Nat) :
    (Builtin.append_ #[t, t] ty #[.slice none 0 0, .slice none 0 c]).run Tryz.prog w = .ok (.slice none 0 0) w := by
  simp [Builtin.append_, run_underlying ht, sizeOf, typeInfo, hi, Builtin.lenOf, Builtin.firstCells]
theorem wpList_app_nn {w : World} {ops : Array Oper} {rest : List Oper} {o : Oper} {a : Act} {Q : Exit → Act → World → Prop} (hgd : o.guard = none) (s x : Operand) (t : TypeId)
    (ho : o.op = .call { callee := .builtin .append, args := #[s, x], argTypes := #[t, t] }) (e : TypeId) (i : TypeInfo) (ht : Tryz.prog.underlying t = some (.slice e)) (hi : Tryz.prog.info? e = some i) (c : Nat)
    (hs : a.eval s = .slice none 0 0) (hx : a.eval x = .slice none 0 c) (h : wpList Tryz.prog ops Q rest (a.put o.dst (.slice none 0 0)) w) : wpList Tryz.prog ops Q (o :: rest) a w := by
  refine wpList_plain hgd fun K hK => ?_
  have hrun := run_append_nn w t o.type e i ht hi c
  unfold Oper.wp
  simp [execOp, ho, resolve, invoke, builtin, hs, hx, hrun, Result.andThen]
  exact hK _ _ h
theorem addr_add10 (g o j : Nat) : (⟨g, o, none⟩ : Addr).add j = ⟨g, o + j, none⟩ := by unfold Addr.add; split <;> simp_all
theorem eeCells_one {x : Sp.EE} {av : Value} {w : World} (h : AtsR w av x.attrs) : ∀ u ∈ eeCells x av, u.oneCell' = true := by
  obtain ⟨a, c, rfl, _⟩ := h
  intro u hu
  simp only [eeCells, List.mem_cons, List.not_mem_nil, or_false] at hu
  rcases hu with rfl | rfl | rfl | rfl | rfl <;> rfl
theorem els_ps {w : World} {v : Value} {l : List Sp.EE} (h : ElsR w v l) (hpos : 0 < l.length) :
    ∃ (g o c : Nat) (ps : List (Sp.EE × Value)), v = .slice (some ⟨g, o, none⟩) l.length c ∧ ps.map Prod.fst = l ∧ (∀ p ∈ ps, AtsR w p.2 p.1.attrs) ∧ ∀ j u, (ps.flatMap fun p => eeCells p.1 p.2)[j]? = some u → w.cell? ⟨g, o + j, none⟩ = some u := by
  obtain ⟨a, c, rfl, hc⟩ := h
  obtain ⟨g, o, rfl, hg, h2⟩ := hc hpos
  have h3 : ∀ i, ∃ av : Value, ∀ x, l[i]? = some x → AtsR w av x.attrs ∧ w.cell? ⟨g, o + i * 5, none⟩ = some (.string ⟨x.name.toArray⟩) ∧ w.cell? ⟨g, o + i * 5 + 1, none⟩ = some av ∧ w.cell? ⟨g, o + i * 5 + 2, none⟩ = some (.string ⟨x.text.toArray⟩) ∧
      w.cell? ⟨g, o + i * 5 + 3, none⟩ = some (.int .i64 x.up) ∧ w.cell? ⟨g, o + i * 5 + 4, none⟩ = some (.int .i64 x.at_) := fun i => by
    cases hx : l[i]? with
    | none => exact ⟨.bool true, fun x h => by cases h⟩
    | some x =>
      obtain ⟨av, k⟩ := h2 i x hx
      exact ⟨av, fun y hy => by injection hy with hy; subst hy; exact k⟩
  obtain ⟨f, hf⟩ := Classical.axiomOfChoice h3
  have hps : ∀ k, (l.zipIdx.map (fun p : Sp.EE × Nat => (p.1, f p.2)))[k]? = (l[k]?).map (fun x => (x, f k)) := fun k => by
    rw [List.getElem?_map, List.getElem?_zipIdx]
    cases l[k]? with
    | none => rfl
    | some x => simp
  refine ⟨g, o, c, l.zipIdx.map (fun p : Sp.EE × Nat => (p.1, f p.2)), rfl, ?_, fun p hp => ?_, fun j u hu => ?_⟩
  · apply List.ext_getElem?
    intro k
    rw [List.getElem?_map, hps]
    cases l[k]? <;> rfl
  · obtain ⟨k, hk⟩ := List.mem_iff_getElem?.1 hp
    rw [hps] at hk
    obtain ⟨x, hx, rfl⟩ := Option.map_eq_some_iff.1 hk
    exact (hf k x hx).1
  · have hj : j = (j / 5) * 5 + j % 5 := by omega
    have hm : j % 5 < 5 := by omega
    rw [hj, flat_get (fun p : Sp.EE × Value => eeCells p.1 p.2) 5 (fun _ => rfl) _ (j / 5) (j % 5) hm, hps] at hu
    cases hx : l[j / 5]? with
    | none => rw [hx] at hu; cases hu
    | some x =>
      rw [hx] at hu
      simp only [Option.map_some, Option.bind_some] at hu
      obtain ⟨_, k0, k1, k2, k3, k4⟩ := hf (j / 5) x hx
      rw [hj]
      generalize j % 5 = r at hm hu ⊢
      generalize j / 5 = q at k0 k1 k2 k3 k4 hu ⊢
      rw [← Nat.add_assoc]
      match r, hm, hu with
      | 0, _, hu => injection hu with hu; subst hu; exact k0
      | 1, _, hu => injection hu with hu; subst hu; exact k1
      | 2, _, hu => injection hu with hu; subst hu; exact k2
      | 3, _, hu => injection hu with hu; subst hu; exact k3
      | 4, _, hu => injection hu with hu; subst hu; exact k4
theorem ats_news {w : World} {g o : Nat} {l : List Sp.EA} (h2 : ∀ i x, l[i]? = some x → w.cell? ⟨g, o + i * 3, none⟩ = some (.string ⟨x.name.toArray⟩) ∧ w.cell? ⟨g, o + i * 3 + 1, none⟩ = some (.string ⟨x.value.toArray⟩) ∧ w.cell? ⟨g, o + i * 3 + 2, none⟩ = some (.int .i64 x.at_)) :
    ∀ j u, (l.flatMap eaCells)[j]? = some u → w.cell? ⟨g, o + j, none⟩ = some u := fun j u hu => by
  have hj : j = (j / 3) * 3 + j % 3 := by omega
  have hm : j % 3 < 3 := by omega
  rw [hj, flat_get eaCells 3 (fun _ => rfl) _ (j / 3) (j % 3) hm] at hu
  cases hx : l[j / 3]? with
  | none => rw [hx] at hu; cases hu
  | some x =>
    rw [hx] at hu
    simp only [Option.bind_some] at hu
    obtain ⟨k0, k1, k2⟩ := h2 (j / 3) x hx
    rw [hj]
    generalize j % 3 = r at hm hu ⊢
    generalize j / 3 = q at k0 k1 k2 hu ⊢
    rw [← Nat.add_assoc]
    match r, hm, hu with
    | 0, _, hu => injection hu with hu; subst hu; exact k0
    | 1, _, hu => injection hu with hu; subst hu; exact k1
    | 2, _, hu => injection hu with hu; subst hu; exact k2
theorem row_R {B : Nat} {w : World} {v : Value} {ps : List (Sp.EE × Value)} (hown : w.ownsRow B 53 5 v ps.length (ps.flatMap fun p => eeCells p.1 p.2)) (hat : ∀ p ∈ ps, AtsR w p.2 p.1.attrs) : ElsR w v (ps.map Prod.fst) := by
  by_cases h0 : ps.length = 0
  · rcases hown.2 with ⟨rfl, _⟩ | ⟨q, cap, cur, rfl, _⟩
    · exact ⟨none, 0, by rw [List.length_map, h0], fun h => by rw [List.length_map] at h; omega⟩
    · exact ⟨_, cap, by rw [List.length_map], fun h => by rw [List.length_map] at h; omega⟩
  · obtain ⟨g, cap, rfl, hb, hlt, hc⟩ := ownsRow_cells hown (by omega)
    refine ⟨_, _, by rw [List.length_map], fun _ => ⟨g, 0, rfl, hlt, fun i a ha => ?_⟩⟩
    have hf := fun k hk => flat_get (fun x : Sp.EE × Value => eeCells x.1 x.2) 5 (fun _ => rfl) ps i k hk
    rw [Nat.zero_add]
    rw [List.getElem?_map] at ha
    obtain ⟨x, hx, rfl⟩ := Option.map_eq_some_iff.1 ha
    refine ⟨x.2, hat x (List.mem_of_getElem? hx), hc _ _ ?_, hc _ _ ?_, hc _ _ ?_, hc _ _ ?_, hc _ _ ?_⟩
    · rw [show i * 5 = i * 5 + 0 from rfl, hf 0 (by omega), hx]; rfl
    · rw [hf 1 (by omega), hx]; rfl
    · rw [hf 2 (by omega), hx]; rfl
    · rw [hf 3 (by omega), hx]; rfl
    · rw [hf 4 (by omega), hx]; rfl
theorem own_put {w : World} {B g n cap size i : Nat} {e : TypeId} {xs : List Value} {u : Value} (h : w.ownsRow B e size (.slice (some ⟨g, 0, none⟩) n cap) n xs) (hi : i < n * size) :
    (w.setCell ⟨g, i, none⟩ u).ownsRow B e size (.slice (some ⟨g, 0, none⟩) n cap) n (xs.set i u) ∧ w.grownBy (w.setCell ⟨g, i, none⟩ u) (some g) ∧ w.frozen? ⟨g, i, none⟩ = false ∧ w.cell? ⟨g, i, none⟩ = xs[i]? ∧ ∃ cs, w.heap[g]? = some (.cells cs e (0, 0)) := by
  obtain ⟨hl, h2⟩ := h
  rcases h2 with ⟨h2, _⟩ | ⟨g', cap', cur, hv, hb, hg, hnc, hcm, hcs, ht⟩
  · cases h2
  · injection hv with hv1 hv2 hv3
    injection hv1 with hv1
    injection hv1 with hv1
    subst hv1 hv3
    have hst := set_new hg (i := i) u
    have hcz : i < cur.size := by rw [hcs]; exact Nat.lt_of_lt_of_le hi (Nat.mul_le_mul_right _ hnc)
    refine ⟨⟨by simpa using hl, .inr ⟨g, cap, _, rfl, hb, hst.1, hnc, hcm, by simpa using hcs, ?_⟩⟩, hst.2, not_frozen hg, ?_, ⟨_, hg⟩⟩
    · rw [Array.toList_setIfInBounds, List.take_set, ht]
    · rw [cell_of_row _ _ i _ _ _ hg, ← ht, List.getElem?_take, if_pos hi]
      simp
end Go.Proofs.YtokdclmikllepaaGreatDoor
namespace Go.Proofs.YtokdclmikllepaaGreatDoor
open Go.RowKit
set_option linter.unusedVariables false
set_option linter.unusedSimpArgs false

/-! ### SpacesDefault -/
theorem df_ne {x : Sp.EE} (h : NEs x) (sp : List UInt8) (hs : sp.length ≤ 140737488351232) : NE (dfE sp x) := by
  obtain ⟨h1, h2, h3⟩ := h
  refine ⟨by show x.name.length ≤ _; omega, ?_, fun a ha => ?_⟩
  · show (x.attrs ++ [dfA sp]).length ≤ _
    rw [List.length_append]
    show _ + 1 ≤ _
    omega
  · rcases List.mem_append.1 ha with ha | ha
    · have := h3 a ha
      exact ⟨by have := this.1; omega, by have := this.2; omega⟩
    · rw [List.mem_singleton.1 ha]
      exact ⟨by show (5 : Nat) ≤ _; omega, by show sp.length ≤ _; omega⟩
theorem row_belowK {w w' : World} {B K n size : Nat} {e : TypeId} {v : Value} {xs : List Value} (h : w.ownsRow B e size v n xs) (hg : ∀ g, v.ownBlock = some g → g < K) (hb : Below K w w') : w'.ownsRow B e size v n xs := by
  refine ⟨h.1, ?_⟩
  rcases h.2 with hn | ⟨g, cap, cur, rfl, hbg, hgg, rest⟩
  · exact .inl hn
  · exact .inr ⟨g, cap, cur, rfl, hbg, (hb.block g (hg g rfl)).trans hgg, rest⟩
theorem zip_get {sp : List UInt8} {l : List Sp.EE} {r : List Sp.SE} {j : Nat} {x : Sp.EE} {y : Sp.SE} (hx : l[j]? = some x) (hy : r[j]? = some y) : (List.zipWith (dflt sp) l r)[j]? = some (dflt sp x y) := by
  rw [List.getElem?_zipWith, hx, hy]
set_option maxHeartbeats 16000000 in
set_option maxRecDepth 100000 in
/-- The last loops: what was answered, held against what was answered with a default space. -/
theorem default_calls (w : World) (v : Value) (sb : ByteArray) (l : List Sp.EE) (hG : Gl w) (h : ElsR w v l) (hl : l.length ≤ 140737488351232) (hb : ∀ x ∈ l, BigBd x) (hsb : sb.size ≤ 140737488351232) :
    Calls Tryz.prog 7 #[v, .string sb] w fun e w' => e = .returned (.bool true) ∧ Below w.heap.size w w' := by
  have HG := Lib.hid hG
  obtain ⟨n, hn⟩ : ∃ n, l.length = n := ⟨_, rfl⟩
  have HE := Lib.hid h
  obtain ⟨a1, c1, rfl, hc1⟩ := h.cells
  rw [hn] at hl hc1 HE ⊢
  have HN := Lib.hid hn
  have HBD := Lib.hid hb
  have HL := Lib.hid hl
  have HC := Lib.hid hc1
  clear hG hb hl hc1 h hn
  go_enter Tryz.func7, Tryz.ntmps7
  go_wp2_with fail
  refine (sawake_calls _ HG.out).mono ?_
  rintro e w1 ⟨rfl, hb1⟩
  have HB1 := Lib.hid hb1
  clear hb1
  go_wp2_with fail
  refine (few10_calls _ _ l (HE.out.below HB1.out) (by rw [HN.out]; exact HL.out) (fun x hx => (HBD.out x hx).2.2.1)).mono ?_
  rintro e w2 ⟨b, rfl, hb2, hfw⟩
  have HB2 := Lib.hid (below_then HB1.out hb2)
  clear hb2
  cases b with
  | false =>
    clear hfw
    go_wp2_with fail
    refine (sawake_calls _ (HG.out.below HB2.out)).mono ?_
    rintro e w3 ⟨rfl, hb3⟩
    have HB3 := Lib.hid (below_then HB2.out hb3)
    clear hb3
    go_wp2_with fail
    go_ret
    exact ⟨rfl, HB3.out⟩
  | true =>
    obtain ⟨hn1, hsum⟩ := hfw rfl
    have HNS := Lib.hid (nes_of HBD.out hsum)
    rw [HN.out] at hn1
    have HL1 : Hid (l.length ≤ 1000) := by show _ ≤ _; rw [HN.out]; omega
    have HN1 := Lib.hid hn1
    cases hR : Sp.resolve l with
    | error f =>
      have hf := resolve_code hR
      have hfz : ((f.2 : Int) != 0) = true := by rw [bne_iff_ne]; omega
      have HR := Lib.hid hR
      clear hfw hn1 hsum hR hf
      go_wp2_with fail
      refine (resolve_err _ _ l (HE.out.below HB2.out) HL1.out (fun x hx => (HNS.out x hx).ne) f HR.out).mono ?_
      rintro e w3 ⟨rfl, hb3⟩
      have HB3 := Lib.hid (below_then HB2.out hb3)
      clear hb3
      go_wp2_with fail
      go_ret
      exact ⟨rfl, HB3.out⟩
    | ok r =>
      have hrl := (resolve_at hR).1
      rw [HN.out] at hrl
      have HRL := Lib.hid hrl
      have HR := Lib.hid hR
      clear hfw hn1 hsum hR hrl
      go_wp2_with fail
      refine (resolve_ok _ _ l (HE.out.below HB2.out) HL1.out (fun x hx => (HNS.out x hx).ne) r HR.out).mono ?_
      rintro e w3 ⟨⟨v3, rfl, hm3⟩, hb3⟩
      obtain ⟨a3, c3, hv3, hcm⟩ := hm3.toR.cells
      rw [HRL.out] at hv3 hcm
      subst hv3
      have HCM := Lib.hid hcm
      have HB3 := Lib.hid (below_then HB2.out hb3)
      clear hb3 hm3 hcm
      by_cases h0 : n = 0
      · have hnz : ((n : Int) == 0) = true := by rw [h0]; rfl
        have hnn : (n == 0) = true := by rw [h0]; rfl
        subst h0
        go_wp2_with fail
        go_ret
        exact ⟨rfl, HB3.out⟩
      · have hnz : ((n : Int) == 0) = false := by rw [beq_eq_false_iff_ne]; omega
        have hnp : 0 < n := by omega
        obtain ⟨g1, o1, rfl, hg1, hc1⟩ := HC.out hnp
        have HC1 := Lib.hid hc1
        clear hc1
        go_wp2_with fail
        go_loopg [8, 9] (n + 1) (fun k i _ wr => ∃ j : Nat, i = .int .i64 j ∧ j ≤ n ∧ n - j < k ∧ Hid (∀ k' x, k' < j → l[k']? = some x → ∀ a ∈ x.attrs, a.name ≠ Sp.xmlnsB) ∧ Hid (Below w3.heap.size w3 wr))
        case atStart => exact ⟨0, rfl, Nat.zero_le _, by omega, (fun k' x hk => by omega), Below.refl _ _⟩
        case round =>
          obtain ⟨gk0, rfl⟩ : ∃ z, z = gk := ⟨_, rfl⟩
          obtain ⟨j, rfl, hj, hk, HNO, HBW⟩ := hrel
          by_cases hlt : j < n
          · have hd : decide ((j : Int) < n) = true := by simp; omega
            have hj0 : (0 : Int) ≤ j := by omega
            have hj1 : (j : Int) < n := by omega
            obtain ⟨x, hx⟩ : ∃ x, l[j]? = some x := ⟨_, List.getElem?_eq_getElem (by rw [HN.out]; exact hlt)⟩
            obtain ⟨av, hav, hcl⟩ := HC1.out j x hx
            obtain ⟨aa, ac, rfl, hca⟩ := hav.cells
            obtain ⟨na, hna⟩ : ∃ na, x.attrs.length = na := ⟨_, rfl⟩
            rw [hna] at hcl hca
            have hna3 : na ≤ 300 := by rw [← hna]; exact (HNS.out x (List.mem_of_getElem? hx)).2.1
            have HCL := Lib.hid hcl
            have HCA := Lib.hid hca
            have HNA := Lib.hid hna
            have HX := Lib.hid hx
            clear hav hcl hca hna hx
            go_wp2_with fail
            go_loopg [9] (na + 1) (fun k2 q2 wr2 => ∃ q : Nat, q2 = .int .i64 q ∧ q ≤ na ∧ na - q < k2 ∧ Hid (∀ k' a, k' < q → x.attrs[k']? = some a → a.name ≠ Sp.xmlnsB) ∧ Hid (Below w3.heap.size w3 wr2))
            case atStart => exact ⟨0, rfl, Nat.zero_le _, by omega, (fun k' x hk => by omega), HBW⟩
            case round =>
              clear HBW
              obtain ⟨q, rfl, hq, hk2, HNQ, HBW⟩ := hrel
              obtain ⟨-, y1, -, -, -⟩ := HCL.out wr (below_then HB3.out HBW.out)
              by_cases hlt2 : q < na
              · have hd2 : decide ((q : Int) < na) = true := by simp; omega
                have hq0 : (0 : Int) ≤ q := by omega
                have hq1 : (q : Int) < na := by omega
                obtain ⟨ga, oa, rfl, hga, ha⟩ := HCA.out (by omega)
                obtain ⟨a, ha1⟩ : ∃ a, x.attrs[q]? = some a := ⟨_, List.getElem?_eq_getElem (by rw [HNA.out]; exact hlt2)⟩
                obtain ⟨an, han⟩ : ∃ an : ByteArray, (⟨a.name.toArray⟩ : ByteArray) = an := ⟨_, rfl⟩
                obtain ⟨u0, -, -⟩ := ha q a ha1 wr (below_then HB3.out HBW.out)
                rw [han] at u0
                by_cases hxx : a.name = Sp.xmlnsB
                · have hx1 : (an.toList == [120, 109, 108, 110, 115]) = true := by rw [toList_L, (sz_of han).2, hxx]; rfl
                  clear ha ha1 han hxx
                  go_wp2_with fail
                  go_ret
                  exact ⟨rfl, below_then HB3.out HBW.out⟩
                · have hx1 : (an.toList == [120, 109, 108, 110, 115]) = false := by rw [toList_L, (sz_of han).2, beq_eq_false_iff_ne]; exact hxx
                  have HNQ2 : Hid (∀ k' a, k' < q + 1 → x.attrs[k']? = some a → a.name ≠ Sp.xmlnsB) := fun k' b hk' hb => by
                    rcases Nat.lt_or_ge k' q with h | h
                    · exact HNQ.out k' b h hb
                    · have hkk : k' = q := by omega
                      subst hkk
                      rw [ha1] at hb
                      injection hb with hb
                      rw [← hb]
                      exact hxx
                  clear ha ha1 han hxx
                  go_wp2_with fail
                  go_roundg (gk - 1)
                  case measure => omega
                  case rel => exact ⟨q + 1, by simp, by omega, by omega, HNQ2, HBW⟩
              · have hq' : na = q := by omega
                subst hq'
                have hd2 : decide ((na : Int) < na) = false := by simp
                have HNO2 : Hid (∀ k' y, k' < j + 1 → l[k']? = some y → ∀ a ∈ y.attrs, a.name ≠ Sp.xmlnsB) := fun k' y hk' hy a ha => by
                  rcases Nat.lt_or_ge k' j with h | h
                  · exact HNO.out k' y h hy a ha
                  · have hkk : k' = j := by omega
                    subst hkk
                    rw [HX.out] at hy
                    injection hy with hy
                    subst hy
                    obtain ⟨z, hz⟩ := List.mem_iff_getElem?.1 ha
                    refine HNQ.out z a ?_ hz
                    have := (List.getElem?_eq_some_iff.1 hz).1
                    rw [HNA.out] at this
                    exact this
                go_wp2_with fail
                go_roundg (gk0 - 1)
                case measure => omega
                case rel => exact ⟨j + 1, (by have := HN1.out; simp; unfold wrap64; omega), by omega, by omega, HNO2, HBW⟩
          · have hj' : n = j := by omega
            subst hj'
            have hd : decide ((n : Int) < n) = false := by simp
            obtain ⟨g', o', c', ps, hv', hps, hat, hcells⟩ := els_ps HE.out (by rw [HN.out]; exact hnp)
            injection hv' with hv1 hv2 hv3
            injection hv1 with hv1
            injection hv1 with hv1 hv4
            subst hv1 hv4
            clear hv2 hv3
            cases ps with
            | nil => rw [List.map_nil] at hps; rw [← hps] at HN; exact absurd HN.out (by intro e; simp at e; omega)
            | cons p0 pt =>
              obtain ⟨x0, av0⟩ := p0
              rw [List.map_cons] at hps
              have hpl : ((x0, av0) :: pt).length = n := by rw [← HN.out, ← hps]; simp
              have hat0 : AtsR w av0 x0.attrs := hat (x0, av0) (List.mem_cons_self ..)
              obtain ⟨aa0, ac0, rfl, hca0⟩ := hat0.cells
              have hr0 := HR.out
              rw [← hps] at hr0
              have hlaw := defaultS_law (L sb) x0 (pt.map Prod.fst) r hr0 (fun x hx a ha => by
                rw [hps] at hx
                obtain ⟨z, hz⟩ := List.mem_iff_getElem?.1 hx
                exact HNO.out z x (by have := (List.getElem?_eq_some_iff.1 hz).1; rw [HN.out] at this; exact this) hz a ha)
              obtain ⟨r2, hr2⟩ : ∃ r2, List.zipWith (dflt (L sb)) (x0 :: pt.map Prod.fst) r = r2 := ⟨_, rfl⟩
              have hzip : ∀ j x y, l[j]? = some x → r[j]? = some y → r2[j]? = some (dflt (L sb) x y) := fun j x y hx hy => by
                rw [← hr2, hps]
                exact zip_get hx hy
              have hr2l : r2.length = n := by
                rw [← hr2, List.length_zipWith, HRL.out, ← hpl]
                simp
              rw [hr2] at hlaw
              have hx0m : x0 ∈ l := by rw [← hps]; exact List.mem_cons_self ..
              have hcells1 := hcells
              have hone : ∀ u ∈ ((x0, Value.slice aa0 x0.attrs.length ac0) :: pt).flatMap (fun p => eeCells p.1 p.2), u.oneCell' = true := fun u hu => by
                obtain ⟨p, hp, hu⟩ := List.mem_flatMap.1 hu
                exact eeCells_one (hat p hp) u hu
              have HPS := Lib.hid hps
              have hlen0 : (((x0, Value.slice aa0 x0.attrs.length ac0) :: pt).flatMap (fun p => eeCells p.1 p.2)).length = n * 5 := by
                rw [← hpl]
                simp only [List.length_flatMap]
                have : ∀ ps : List (Sp.EE × Value), (ps.map fun p => (eeCells p.1 p.2).length).sum = ps.length * 5 := fun ps => by
                  induction ps with
                  | nil => rfl
                  | cons p t ih => rw [List.map_cons, List.sum_cons, ih, List.length_cons, Nat.succ_mul]; show 5 + _ = _; omega
                rw [this]
              obtain ⟨flat, hfl⟩ : ∃ flat, ((x0, Value.slice aa0 x0.attrs.length ac0) :: pt).flatMap (fun p => eeCells p.1 p.2) = flat := ⟨_, rfl⟩
              rw [hfl] at hcells hone hlen0
              have hcellsB : ∀ W, Below w.heap.size w W → ∀ j u, flat[j]? = some u → W.cell? ((⟨g1, o1, none⟩ : Addr).add j) = some u := fun W hW j u hu => by
                rw [addr_add10, World.cell?_of_block (hW.block g1 hg1)]
                exact hcells j u hu
              obtain ⟨na0, hna0⟩ : ∃ na0, x0.attrs.length = na0 := ⟨_, rfl⟩
              have hn300 : na0 ≤ 300 := by rw [← hna0]; exact (HNS.out x0 hx0m).2.1
              have hx0c : l[0]? = some x0 := by rw [← hps]; rfl
              have hfl0 : flat[1]? = some (.slice aa0 na0 ac0) := by rw [← hfl, ← hna0]; rfl
              have HFL0 := Lib.hid hfl0
              have HFL := Lib.hid hfl
              have HCB := Lib.hid hcellsB
              have HONE := Lib.hid hone
              have HLEN0 := Lib.hid hlen0
              have HNA0 := Lib.hid hna0
              have HZIP := Lib.hid hzip
              have HR2L := Lib.hid hr2l
              have HLAW := Lib.hid hlaw.2
              have HPL := Lib.hid hpl
              have HAT := Lib.hid hat
              have HW3 := Lib.hid (below_then HB3.out HBW.out)
              have HDN : Hid (∀ x ∈ dfE (L sb) x0 :: pt.map Prod.fst, NE x) := fun x hx => by
                rcases List.mem_cons.1 hx with rfl | hx
                · exact df_ne (HNS.out x0 hx0m) (L sb) (by rw [L_length]; exact hsb)
                · exact (HNS.out x (by rw [← HPS.out]; exact List.mem_cons_of_mem _ hx)).ne
              rw [hna0] at hca0
              have HCA0 := Lib.hid hca0
              have hHAT0 : Hid (AtsR w (.slice aa0 na0 ac0) x0.attrs) := hna0 ▸ hat0
              clear hps hlen0 hfl hcells hcells1 hone hcellsB hna0 hzip hr2l hlaw hpl hat hat0 hca0 hr0 hr2 hx0c hfl0 hx0m HNO
              obtain ⟨iE, hiE, hzE0, hzE1, hzE2⟩ := info_parts infoElem
              obtain ⟨iA, hiA, hzA0, hzA1, hzA2⟩ := info_parts infoAttr
              have hmx : maxLen = 9223372036854775807 := rfl
              have HMX := Lib.hid hmx
              clear hmx
              -- the two ways
              have HN151 : Hid (l.length ≤ 151) := by show _ ≤ _; rw [HN.out]; exact HN1.out
              have hlen8 : (x0.attrs ++ [(⟨Sp.xmlnsB, L sb, 0⟩ : Sp.EA)]).length = na0 + 1 := by rw [List.length_append, HNA0.out]; rfl
              have HLEN8 := Lib.hid hlen8
              clear hlen8
              cases aa0 with
              | none =>
                have hz : na0 = 0 := Classical.byContradiction fun h => by
                  obtain ⟨g, o, h1, _⟩ := HCA0.out (by omega)
                  cases h1
                subst hz
                have HAE : Hid (∀ (B : Nat) (W : World), EasAt B W (.slice none 0 0) x0.attrs) := fun B W => by
                  rw [List.eq_nil_of_length_eq_zero HNA0.out]
                  exact ⟨rfl, .inl ⟨rfl, rfl⟩⟩
                go_upto_region 19 with (first
                  | (at_builtin; refine wpList_append_own _ rfl (.tmp 68) (.tmp 69) 45 rfl wr.heap.size 53 iE _ 5 72 Tryz.underlying45 hiE hzE0 hzE1 hzE2 rfl (by decide) (.slice none 0 0) 0 [] (by rfl) ⟨rfl, .inl ⟨rfl, rfl⟩⟩ ⟨g1, o1, none⟩ n c1 flat (by rfl) HLEN0.out (HCB.out wr HW3.out) HONE.out (by rw [HMX.out]; have := HN1.out; omega) (by have := HN1.out; omega) (Nat.le_refl _) ?_; intro v5 w5 ho5 hg5 _; rw [Nat.zero_add, List.nil_append] at ho5; obtain ⟨gm, cm, rfl, hgm1, hgm2, -⟩ := ownsRow_cells ho5 hnp; have HO5 := Lib.hid ho5; have HB5 : Hid (Below wr.heap.size wr w5) := ⟨hg5.os, hg5.tape, hg5.output, hg5.size, fun k hk => hg5.block k hk (by simp [Value.ownBlock])⟩; have HGM1 := Lib.hid hgm1; have HGM2 := Lib.hid hgm2; have y1 : w5.cell? ⟨g1, o1 + 1, none⟩ = some (.slice none 0 ac0) := (by have := HCB.out w5 (below_then HW3.out HB5.out) 1 _ HFL0.out; rw [addr_add10] at this; exact this); clear ho5 hg5 hgm1 hgm2)
                  | (at_builtin; refine wpList_app_nn rfl (.tmp 71) (.tmp 75) 38 rfl 42 iA Tryz.underlying38 hiA ac0 (by rfl) (by rfl) ?_; have HO6 : Hid (EasAt w5.heap.size w5 (.slice none 0 0) x0.attrs) := HAE.out w5.heap.size w5; have HB6 : Hid (Below w5.heap.size w5 w5) := Below.refl _ _)
                  | (at_builtin; refine wpList_appEA rfl (.tmp 78) (.tmp 81) rfl (base := w5.heap.size) (W := w5) ⟨Sp.xmlnsB, L sb, 0⟩ (by rfl) HO6.out HB6.out.size (by rw [HNA0.out]; omega) #[.string ⟨#[120, 109, 108, 110, 115]⟩, .string sb, .int .i64 0] (by simp only [eaCells, bs_L]; rfl) (by rfl) ?_; intro v8 w8 ho8 hg8 hb8; obtain ⟨a8, c8, hv8⟩ := own_len ho8; rw [HLEN8.out] at hv8; subst hv8; have hrow8 := row_belowK (row_below HO5.out HB6.out) (fun g hg => (by injection hg with hg; subst hg; exact HGM2.out)) hb8; obtain ⟨hp1, hp2, kf, hp3, hp4⟩ := own_put (i := 1) (u := .slice a8 (0 + 1) c8) hrow8 (by omega); rw [HFL0.out] at hp3; have kc := hp3; have HP1 := Lib.hid hp1; have HP2 := Lib.hid hp2; have HP4 := Lib.hid hp4; have HO8 := Lib.hid ho8; have HB8 : Hid (Below wr.heap.size wr w8) := (HB5.out.trans (HB6.out.mono HB5.out.size)).trans (hb8.mono HB5.out.size); clear ho8 hg8 hb8 hrow8 hp1 hp2 hp3 hp4))
                have hw9 := HB8.out.trans (grown_below HP2.out HB8.out.size HGM1.out)
                have he9 : ElsR (w8.setCell ⟨gm, 1, none⟩ (.slice a8 (0 + 1) c8)) (.slice (some ⟨gm, 0, none⟩) n cm) (dfE (L sb) x0 :: pt.map Prod.fst) := by
                  have hlen9 : ((dfE (L sb) x0, Value.slice a8 (0 + 1) c8) :: pt).length = n := by rw [← HPL.out]; rfl
                  refine row_R (ps := (dfE (L sb) x0, .slice a8 (0 + 1) c8) :: pt) (B := wr.heap.size) ?_ (fun p hp => ?_)
                  · rw [hlen9]
                    have := HP1.out
                    rw [← HFL.out] at this
                    exact this
                  · rcases List.mem_cons.1 hp with rfl | hp
                    · obtain ⟨cs, hcs⟩ := HP4.out
                      exact EasAt.toR (B := w5.heap.size) (World.ownsRow.kept HO8.out HP2.out (.inr (own_ne HO8.out hcs (by decide))))
                    · exact (HAT.out p (List.mem_cons_of_mem _ hp)).below (below_then HW3.out hw9)
                generalize w8.setCell ⟨gm, 1, none⟩ (.slice a8 (0 + 1) c8) = w9 at hw9 he9 ⊢
                obtain ⟨md, hmd⟩ : ∃ md, dfE (L sb) x0 :: pt.map Prod.fst = md := ⟨_, rfl⟩
                have hmdl : md.length ≤ 1000 := by rw [← hmd, List.length_cons, List.length_map]; have := HPL.out; rw [List.length_cons] at this; have := HN1.out; omega
                rw [hmd] at he9
                have HDM : Hid (∀ x ∈ md, NE x) := hmd ▸ HDN.out
                have HLM : Hid (Sp.resolve md = .ok r2) := hmd ▸ HLAW.out
                have HML := Lib.hid hmdl
                have HE9 := Lib.hid he9
                have HW9 := Lib.hid (below_then HBW.out hw9)
                clear hw9 he9 hmd hmdl kc kf y1
                go_wp2_with fail
                refine (resolve_ok _ _ md HE9.out HML.out HDM.out r2 HLM.out).mono ?_
                rintro e w10 ⟨⟨v10, rfl, hm10⟩, hb10⟩
                obtain ⟨a10, c10, hv10, hcm10⟩ := hm10.toR.cells
                rw [HR2L.out] at hv10 hcm10
                subst hv10
                obtain ⟨g10, o10, rfl, hg10, hcm10⟩ := hcm10 hnp
                obtain ⟨g3, o3, rfl, hg3, hcm3⟩ := HCM.out hnp
                have HC10 := Lib.hid hcm10
                have HC3 := Lib.hid hcm3
                have HW10 := Lib.hid (below_then HW9.out hb10)
                clear hm10 hcm10 hcm3 hb10
                go_wp2_with fail
                go_loopg [15, 16, 17] (n + 1) (fun k i _ _ wr2 => ∃ j : Nat, i = .int .i64 j ∧ j ≤ n ∧ n - j < k ∧ Hid (Below w10.heap.size w10 wr2))
                case atStart => exact ⟨0, rfl, Nat.zero_le _, by omega, Below.refl _ _⟩
                case round =>
                  obtain ⟨gk1, rfl⟩ : ∃ z, z = gk := ⟨_, rfl⟩
                  obtain ⟨j, rfl, hj2, hkk, HBR⟩ := hrel
                  by_cases hlt3 : j < n
                  · have hd3 : decide ((j : Int) < n) = true := by simp; omega
                    have hj0 : (0 : Int) ≤ j := by omega
                    have hj1 : (j : Int) < n := by omega
                    obtain ⟨x, hx⟩ : ∃ x, l[j]? = some x := ⟨_, List.getElem?_eq_getElem (by rw [HN.out]; exact hlt3)⟩
                    obtain ⟨y, hy⟩ : ∃ y, r[j]? = some y := ⟨_, List.getElem?_eq_getElem (by rw [HRL.out]; exact hlt3)⟩
                    obtain ⟨av1, hs1, hm3⟩ := HC3.out j y hy
                    obtain ⟨av2, hs2, hm10⟩ := HC10.out j _ (HZIP.out j x y hx hy)
                    obtain ⟨avx, -, hcl⟩ := HC1.out j x hx
                    obtain ⟨nm, hnm⟩ : ∃ nm : ByteArray, (⟨x.name.toArray⟩ : ByteArray) = nm := ⟨_, rfl⟩
                    obtain ⟨ys, hys⟩ : ∃ ys : ByteArray, (⟨y.space.toArray⟩ : ByteArray) = ys := ⟨_, rfl⟩
                    obtain ⟨b1, d1, rfl, hk1⟩ := hs1.cells
                    obtain ⟨b2, d2, rfl, hk2⟩ := hs2.cells
                    have hyl := (resolve_bd HR.out HN151.out (fun x hx => by have := (HNS.out x hx).2.1; omega)).2 y (List.mem_of_getElem? hy)
                    have hnms := (HNS.out x (List.mem_of_getElem? hx)).1
                    obtain ⟨n1, hn1⟩ : ∃ n1, y.attrs.length = n1 := ⟨_, rfl⟩
                    have hda : (dflt (L sb) x y).attrs = y.attrs := rfl
                    have hdn : (dflt (L sb) x y).name = y.name := rfl
                    rw [hda] at hk2 hm10
                    rw [hdn] at hm10
                    rw [hn1] at hk1 hk2 hm3 hm10 hyl
                    rw [hys] at hm3
                    rw [hnm] at hcl
                    obtain ⟨hnm1, hnmL⟩ := sz_of hnm
                    have hnm9 : nm.size ≤ 1152921504606846980 := by omega
                    have hsp : (⟨(dflt (L sb) x y).space.toArray⟩ : ByteArray) = if (Sp.cut x.name).1 = [] then sb else ys := by
                      unfold dflt
                      simp only
                      split
                      · exact bs_L sb
                      · exact hys
                    have HK1 := Lib.hid hk1
                    have HK2 := Lib.hid hk2
                    have HM3 := Lib.hid hm3
                    have HM10 := Lib.hid hm10
                    have HCLn := Lib.hid hcl
                    have HNML := Lib.hid hnmL
                    have HN1y : Hid (∀ q, q < n1 → ∃ a, y.attrs[q]? = some a) := fun q hq => ⟨_, List.getElem?_eq_getElem (by omega)⟩
                    by_cases hcp : (Sp.cut x.name).1 = []
                    · rw [if_pos hcp] at hsp
                      have HSP := Lib.hid hsp
                      have HCP : Hid (decide ((Sp.cut (L nm)).1 = []) = true) := by show _ = _; rw [hnmL]; simp [hcp]
                      clear hx hy hs1 hs2 hk1 hk2 hm3 hm10 hcl hnm hys hnm1 hnmL hn1 hda hdn hsp hcp
                      have HWW := Lib.hid (below_then HW10.out HBR.out)
                      obtain ⟨z0, z1, z2, -, -, -⟩ := HM3.out wr HWW.out
                      obtain ⟨x0', -, -, -, -⟩ := HCLn.out wr (below_then HB3.out HWW.out)
                      go_wp2_with (go_at_call 34; go_must (refine (prefix_calls nm _ hnm9).mono ?_); rintro e w11 ⟨⟨p, rfl, hpL⟩, hb11⟩; (have hpe : p.toList.isEmpty = true := by (rw [empt, hpL]; exact HCP.out)); have HB11 := Lib.hid (below_then HBR.out hb11); have HW11 := Lib.hid (below_then HW10.out HB11.out); clear z0 z1 z2 x0' hb11 hpL; obtain ⟨z0, z1, z2, -, -, -⟩ := HM3.out w11 HW11.out; obtain ⟨u0, u1, u2, -, -, -⟩ := HM10.out w11 HB11.out; rw [HSP.out] at u0)
                      go_quiet (fail)
                      go_wp2_with fail
                      go_loopg [17] (n1 + 1) (fun k2 q2 wr2 => ∃ q : Nat, q2 = .int .i64 q ∧ q ≤ n1 ∧ n1 - q < k2 ∧ Hid (Below w10.heap.size w10 wr2))
                      case atStart => exact ⟨0, rfl, Nat.zero_le _, by omega, below_drewN HB11.out _⟩
                      case round =>
                        clear HBR z0 z1 z2 u0 u1 u2 HB11 HWW HW11
                        obtain ⟨q, rfl, hq, hk2, HBR⟩ := hrel
                        obtain ⟨z0, z1, z2, -, -, -⟩ := HM3.out wr (below_then HW10.out HBR.out)
                        obtain ⟨u0, u1, u2, -, -, -⟩ := HM10.out wr HBR.out
                        by_cases hlt4 : q < n1
                        · have hd4 : decide ((q : Int) < n1) = true := by simp; omega
                          have hq0 : (0 : Int) ≤ q := by omega
                          have hq1 : (q : Int) < n1 := by omega
                          obtain ⟨ga, oa, rfl, hga, ha⟩ := HK1.out (by omega)
                          obtain ⟨gb, ob, rfl, hgb, hbb⟩ := HK2.out (by omega)
                          obtain ⟨a, ha1⟩ := HN1y.out q hlt4
                          obtain ⟨t0, t1, t2, t3⟩ := ha q a ha1 wr (below_then HW10.out HBR.out)
                          obtain ⟨s0, s1, s2, s3⟩ := hbb q a ha1 wr HBR.out
                          clear ha hbb ha1 z0 z1 u0 u1
                          go_wp2_with fail
                          go_quiet (fail)
                          go_wp2_with fail
                          go_roundg (gk - 1)
                          case measure => omega
                          case rel => exact ⟨q + 1, by simp, by omega, by omega, below_drewN HBR.out _⟩
                        · have hq' : n1 = q := by omega
                          subst hq'
                          have hd4 : decide ((n1 : Int) < n1) = false := by simp
                          go_wp2_with fail
                          go_roundg (gk1 - 1)
                          case measure => omega
                          case rel => exact ⟨j + 1, (by have := HN1.out; simp; try (unfold wrap64; omega)), by omega, by omega, HBR⟩
                    · rw [if_neg hcp] at hsp
                      have HSP := Lib.hid hsp
                      have HCP : Hid (decide ((Sp.cut (L nm)).1 = []) = false) := by show _ = _; rw [hnmL]; simp [hcp]
                      clear hx hy hs1 hs2 hk1 hk2 hm3 hm10 hcl hnm hys hnm1 hnmL hn1 hda hdn hsp hcp
                      have HWW := Lib.hid (below_then HW10.out HBR.out)
                      obtain ⟨z0, z1, z2, -, -, -⟩ := HM3.out wr HWW.out
                      obtain ⟨x0', -, -, -, -⟩ := HCLn.out wr (below_then HB3.out HWW.out)
                      go_wp2_with (go_at_call 34; go_must (refine (prefix_calls nm _ hnm9).mono ?_); rintro e w11 ⟨⟨p, rfl, hpL⟩, hb11⟩; (have hpe : p.toList.isEmpty = false := by (rw [empt, hpL]; exact HCP.out)); have HB11 := Lib.hid (below_then HBR.out hb11); have HW11 := Lib.hid (below_then HW10.out HB11.out); clear z0 z1 z2 x0' hb11 hpL; obtain ⟨z0, z1, z2, -, -, -⟩ := HM3.out w11 HW11.out; obtain ⟨u0, u1, u2, -, -, -⟩ := HM10.out w11 HB11.out; rw [HSP.out] at u0)
                      go_quiet (fail)
                      go_wp2_with fail
                      go_loopg [17] (n1 + 1) (fun k2 q2 wr2 => ∃ q : Nat, q2 = .int .i64 q ∧ q ≤ n1 ∧ n1 - q < k2 ∧ Hid (Below w10.heap.size w10 wr2))
                      case atStart => exact ⟨0, rfl, Nat.zero_le _, by omega, below_drewN HB11.out _⟩
                      case round =>
                        clear HBR z0 z1 z2 u0 u1 u2 HB11 HWW HW11
                        obtain ⟨q, rfl, hq, hk2, HBR⟩ := hrel
                        obtain ⟨z0, z1, z2, -, -, -⟩ := HM3.out wr (below_then HW10.out HBR.out)
                        obtain ⟨u0, u1, u2, -, -, -⟩ := HM10.out wr HBR.out
                        by_cases hlt4 : q < n1
                        · have hd4 : decide ((q : Int) < n1) = true := by simp; omega
                          have hq0 : (0 : Int) ≤ q := by omega
                          have hq1 : (q : Int) < n1 := by omega
                          obtain ⟨ga, oa, rfl, hga, ha⟩ := HK1.out (by omega)
                          obtain ⟨gb, ob, rfl, hgb, hbb⟩ := HK2.out (by omega)
                          obtain ⟨a, ha1⟩ := HN1y.out q hlt4
                          obtain ⟨t0, t1, t2, t3⟩ := ha q a ha1 wr (below_then HW10.out HBR.out)
                          obtain ⟨s0, s1, s2, s3⟩ := hbb q a ha1 wr HBR.out
                          clear ha hbb ha1 z0 z1 u0 u1
                          go_wp2_with fail
                          go_quiet (fail)
                          go_wp2_with fail
                          go_roundg (gk - 1)
                          case measure => omega
                          case rel => exact ⟨q + 1, by simp, by omega, by omega, below_drewN HBR.out _⟩
                        · have hq' : n1 = q := by omega
                          subst hq'
                          have hd4 : decide ((n1 : Int) < n1) = false := by simp
                          go_wp2_with fail
                          go_roundg (gk1 - 1)
                          case measure => omega
                          case rel => exact ⟨j + 1, (by have := HN1.out; simp; try (unfold wrap64; omega)), by omega, by omega, HBR⟩
                  · have hj' : n = j := by omega
                    subst hj'
                    have hd3 : decide ((n : Int) < n) = false := by simp
                    go_wp2_with fail
                    go_ret
                    exact ⟨rfl, below_then HB3.out (below_then HW10.out HBR.out)⟩
              | some ad =>
                obtain ⟨anew, han⟩ : ∃ anew, x0.attrs.flatMap eaCells = anew := ⟨_, rfl⟩
                have HAL : Hid (anew.length = na0 * 3) := by
                  show _ = _
                  rw [← han, ← HNA0.out]
                  have : ∀ l : List Sp.EA, (l.flatMap eaCells).length = l.length * 3 := fun l => by
                    induction l with
                    | nil => rfl
                    | cons p t ih => rw [List.flatMap_cons, List.length_append, ih, List.length_cons, Nat.succ_mul]; show 3 + _ = _; omega
                  exact this _
                have HAO : Hid (∀ u ∈ anew, u.oneCell' = true) := fun u hu => by
                  rw [← han] at hu
                  obtain ⟨p, hp, hu⟩ := List.mem_flatMap.1 hu
                  simp only [eaCells, List.mem_cons, List.not_mem_nil, or_false] at hu
                  rcases hu with rfl | rfl | rfl <;> rfl
                have HAC : Hid (∀ W, Below w.heap.size w W → ∀ j u, anew[j]? = some u → W.cell? (ad.add j) = some u) := fun W hW j u hu => by
                  by_cases h0 : na0 = 0
                  · have := HAL.out
                    rw [h0] at this
                    have e : anew = [] := List.eq_nil_of_length_eq_zero (by omega)
                    rw [e] at hu
                    cases hu
                  · obtain ⟨g, o, h1, h2, h3⟩ := HCA0.out (by omega)
                    injection h1 with h1
                    subst h1
                    rw [addr_add10]
                    rw [← han] at hu
                    exact ats_news (fun i x hx => h3 i x hx W hW) j u hu
                have HAE : Hid (∀ (B : Nat) (W : World) (v : Value), W.ownsRow B 42 3 v na0 anew → EasAt B W v x0.attrs) := fun B W v hv => by
                  unfold EasAt
                  rw [HNA0.out, han]
                  exact hv
                clear han
                go_upto_region 19 with (first
                  | (at_builtin; refine wpList_append_own _ rfl (.tmp 68) (.tmp 69) 45 rfl wr.heap.size 53 iE _ 5 72 Tryz.underlying45 hiE hzE0 hzE1 hzE2 rfl (by decide) (.slice none 0 0) 0 [] (by rfl) ⟨rfl, .inl ⟨rfl, rfl⟩⟩ ⟨g1, o1, none⟩ n c1 flat (by rfl) HLEN0.out (HCB.out wr HW3.out) HONE.out (by rw [HMX.out]; have := HN1.out; omega) (by have := HN1.out; omega) (Nat.le_refl _) ?_; intro v5 w5 ho5 hg5 _; rw [Nat.zero_add, List.nil_append] at ho5; obtain ⟨gm, cm, rfl, hgm1, hgm2, -⟩ := ownsRow_cells ho5 hnp; have HO5 := Lib.hid ho5; have HB5 : Hid (Below wr.heap.size wr w5) := ⟨hg5.os, hg5.tape, hg5.output, hg5.size, fun k hk => hg5.block k hk (by simp [Value.ownBlock])⟩; have HGM1 := Lib.hid hgm1; have HGM2 := Lib.hid hgm2; have y1 : w5.cell? ⟨g1, o1 + 1, none⟩ = some (.slice (some ad) na0 ac0) := (by have := HCB.out w5 (below_then HW3.out HB5.out) 1 _ HFL0.out; rw [addr_add10] at this; exact this); clear ho5 hg5 hgm1 hgm2)
                  | (at_builtin; refine wpList_append_own _ rfl (.tmp 71) (.tmp 75) 38 rfl w5.heap.size 42 iA _ 3 40 Tryz.underlying38 hiA hzA0 hzA1 hzA2 rfl (by decide) (.slice none 0 0) 0 [] (by rfl) ⟨rfl, .inl ⟨rfl, rfl⟩⟩ ad na0 ac0 anew (by rfl) HAL.out (HAC.out w5 (below_then HW3.out HB5.out)) HAO.out (by rw [HMX.out]; omega) (by omega) (Nat.le_refl _) ?_; intro v6 w6 ho6 hg6 _; rw [Nat.zero_add, List.nil_append] at ho6; have HO6 : Hid (EasAt w5.heap.size w6 v6 x0.attrs) := HAE.out w5.heap.size w6 v6 ho6; have HB6 : Hid (Below w5.heap.size w5 w6) := ⟨hg6.os, hg6.tape, hg6.output, hg6.size, fun k hk => hg6.block k hk (by simp [Value.ownBlock])⟩; clear ho6 hg6)
                  | (at_builtin; refine wpList_appEA rfl (.tmp 78) (.tmp 81) rfl (base := w5.heap.size) (W := w6) ⟨Sp.xmlnsB, L sb, 0⟩ (by rfl) HO6.out HB6.out.size (by rw [HNA0.out]; omega) #[.string ⟨#[120, 109, 108, 110, 115]⟩, .string sb, .int .i64 0] (by simp only [eaCells, bs_L]; rfl) (by rfl) ?_; intro v8 w8 ho8 hg8 hb8; obtain ⟨a8, c8, hv8⟩ := own_len ho8; rw [HLEN8.out] at hv8; subst hv8; have hrow8 := row_belowK (row_below HO5.out HB6.out) (fun g hg => (by injection hg with hg; subst hg; exact HGM2.out)) hb8; obtain ⟨hp1, hp2, kf, hp3, hp4⟩ := own_put (i := 1) (u := .slice a8 (na0 + 1) c8) hrow8 (by omega); rw [HFL0.out] at hp3; have kc := hp3; have HP1 := Lib.hid hp1; have HP2 := Lib.hid hp2; have HP4 := Lib.hid hp4; have HO8 := Lib.hid ho8; have HB8 : Hid (Below wr.heap.size wr w8) := (HB5.out.trans (HB6.out.mono HB5.out.size)).trans (hb8.mono HB5.out.size); clear ho8 hg8 hb8 hrow8 hp1 hp2 hp3 hp4))
                have hw9 := HB8.out.trans (grown_below HP2.out HB8.out.size HGM1.out)
                have he9 : ElsR (w8.setCell ⟨gm, 1, none⟩ (.slice a8 (na0 + 1) c8)) (.slice (some ⟨gm, 0, none⟩) n cm) (dfE (L sb) x0 :: pt.map Prod.fst) := by
                  have hlen9 : ((dfE (L sb) x0, Value.slice a8 (na0 + 1) c8) :: pt).length = n := by rw [← HPL.out]; rfl
                  refine row_R (ps := (dfE (L sb) x0, .slice a8 (na0 + 1) c8) :: pt) (B := wr.heap.size) ?_ (fun p hp => ?_)
                  · rw [hlen9]
                    have := HP1.out
                    rw [← HFL.out] at this
                    exact this
                  · rcases List.mem_cons.1 hp with rfl | hp
                    · obtain ⟨cs, hcs⟩ := HP4.out
                      exact EasAt.toR (B := w5.heap.size) (World.ownsRow.kept HO8.out HP2.out (.inr (own_ne HO8.out hcs (by decide))))
                    · exact (HAT.out p (List.mem_cons_of_mem _ hp)).below (below_then HW3.out hw9)
                generalize w8.setCell ⟨gm, 1, none⟩ (.slice a8 (na0 + 1) c8) = w9 at hw9 he9 ⊢
                obtain ⟨md, hmd⟩ : ∃ md, dfE (L sb) x0 :: pt.map Prod.fst = md := ⟨_, rfl⟩
                have hmdl : md.length ≤ 1000 := by rw [← hmd, List.length_cons, List.length_map]; have := HPL.out; rw [List.length_cons] at this; have := HN1.out; omega
                rw [hmd] at he9
                have HDM : Hid (∀ x ∈ md, NE x) := hmd ▸ HDN.out
                have HLM : Hid (Sp.resolve md = .ok r2) := hmd ▸ HLAW.out
                have HML := Lib.hid hmdl
                have HE9 := Lib.hid he9
                have HW9 := Lib.hid (below_then HBW.out hw9)
                clear hw9 he9 hmd hmdl kc kf y1
                go_wp2_with fail
                refine (resolve_ok _ _ md HE9.out HML.out HDM.out r2 HLM.out).mono ?_
                rintro e w10 ⟨⟨v10, rfl, hm10⟩, hb10⟩
                obtain ⟨a10, c10, hv10, hcm10⟩ := hm10.toR.cells
                rw [HR2L.out] at hv10 hcm10
                subst hv10
                obtain ⟨g10, o10, rfl, hg10, hcm10⟩ := hcm10 hnp
                obtain ⟨g3, o3, rfl, hg3, hcm3⟩ := HCM.out hnp
                have HC10 := Lib.hid hcm10
                have HC3 := Lib.hid hcm3
                have HW10 := Lib.hid (below_then HW9.out hb10)
                clear hm10 hcm10 hcm3 hb10
                go_wp2_with fail
                go_loopg [15, 16, 17] (n + 1) (fun k i _ _ wr2 => ∃ j : Nat, i = .int .i64 j ∧ j ≤ n ∧ n - j < k ∧ Hid (Below w10.heap.size w10 wr2))
                case atStart => exact ⟨0, rfl, Nat.zero_le _, by omega, Below.refl _ _⟩
                case round =>
                  obtain ⟨gk1, rfl⟩ : ∃ z, z = gk := ⟨_, rfl⟩
                  obtain ⟨j, rfl, hj2, hkk, HBR⟩ := hrel
                  by_cases hlt3 : j < n
                  · have hd3 : decide ((j : Int) < n) = true := by simp; omega
                    have hj0 : (0 : Int) ≤ j := by omega
                    have hj1 : (j : Int) < n := by omega
                    obtain ⟨x, hx⟩ : ∃ x, l[j]? = some x := ⟨_, List.getElem?_eq_getElem (by rw [HN.out]; exact hlt3)⟩
                    obtain ⟨y, hy⟩ : ∃ y, r[j]? = some y := ⟨_, List.getElem?_eq_getElem (by rw [HRL.out]; exact hlt3)⟩
                    obtain ⟨av1, hs1, hm3⟩ := HC3.out j y hy
                    obtain ⟨av2, hs2, hm10⟩ := HC10.out j _ (HZIP.out j x y hx hy)
                    obtain ⟨avx, -, hcl⟩ := HC1.out j x hx
                    obtain ⟨nm, hnm⟩ : ∃ nm : ByteArray, (⟨x.name.toArray⟩ : ByteArray) = nm := ⟨_, rfl⟩
                    obtain ⟨ys, hys⟩ : ∃ ys : ByteArray, (⟨y.space.toArray⟩ : ByteArray) = ys := ⟨_, rfl⟩
                    obtain ⟨b1, d1, rfl, hk1⟩ := hs1.cells
                    obtain ⟨b2, d2, rfl, hk2⟩ := hs2.cells
                    have hyl := (resolve_bd HR.out HN151.out (fun x hx => by have := (HNS.out x hx).2.1; omega)).2 y (List.mem_of_getElem? hy)
                    have hnms := (HNS.out x (List.mem_of_getElem? hx)).1
                    obtain ⟨n1, hn1⟩ : ∃ n1, y.attrs.length = n1 := ⟨_, rfl⟩
                    have hda : (dflt (L sb) x y).attrs = y.attrs := rfl
                    have hdn : (dflt (L sb) x y).name = y.name := rfl
                    rw [hda] at hk2 hm10
                    rw [hdn] at hm10
                    rw [hn1] at hk1 hk2 hm3 hm10 hyl
                    rw [hys] at hm3
                    rw [hnm] at hcl
                    obtain ⟨hnm1, hnmL⟩ := sz_of hnm
                    have hnm9 : nm.size ≤ 1152921504606846980 := by omega
                    have hsp : (⟨(dflt (L sb) x y).space.toArray⟩ : ByteArray) = if (Sp.cut x.name).1 = [] then sb else ys := by
                      unfold dflt
                      simp only
                      split
                      · exact bs_L sb
                      · exact hys
                    have HK1 := Lib.hid hk1
                    have HK2 := Lib.hid hk2
                    have HM3 := Lib.hid hm3
                    have HM10 := Lib.hid hm10
                    have HCLn := Lib.hid hcl
                    have HNML := Lib.hid hnmL
                    have HN1y : Hid (∀ q, q < n1 → ∃ a, y.attrs[q]? = some a) := fun q hq => ⟨_, List.getElem?_eq_getElem (by omega)⟩
                    by_cases hcp : (Sp.cut x.name).1 = []
                    · rw [if_pos hcp] at hsp
                      have HSP := Lib.hid hsp
                      have HCP : Hid (decide ((Sp.cut (L nm)).1 = []) = true) := by show _ = _; rw [hnmL]; simp [hcp]
                      clear hx hy hs1 hs2 hk1 hk2 hm3 hm10 hcl hnm hys hnm1 hnmL hn1 hda hdn hsp hcp
                      have HWW := Lib.hid (below_then HW10.out HBR.out)
                      obtain ⟨z0, z1, z2, -, -, -⟩ := HM3.out wr HWW.out
                      obtain ⟨x0', -, -, -, -⟩ := HCLn.out wr (below_then HB3.out HWW.out)
                      go_wp2_with (go_at_call 34; go_must (refine (prefix_calls nm _ hnm9).mono ?_); rintro e w11 ⟨⟨p, rfl, hpL⟩, hb11⟩; (have hpe : p.toList.isEmpty = true := by (rw [empt, hpL]; exact HCP.out)); have HB11 := Lib.hid (below_then HBR.out hb11); have HW11 := Lib.hid (below_then HW10.out HB11.out); clear z0 z1 z2 x0' hb11 hpL; obtain ⟨z0, z1, z2, -, -, -⟩ := HM3.out w11 HW11.out; obtain ⟨u0, u1, u2, -, -, -⟩ := HM10.out w11 HB11.out; rw [HSP.out] at u0)
                      go_quiet (fail)
                      go_wp2_with fail
                      go_loopg [17] (n1 + 1) (fun k2 q2 wr2 => ∃ q : Nat, q2 = .int .i64 q ∧ q ≤ n1 ∧ n1 - q < k2 ∧ Hid (Below w10.heap.size w10 wr2))
                      case atStart => exact ⟨0, rfl, Nat.zero_le _, by omega, below_drewN HB11.out _⟩
                      case round =>
                        clear HBR z0 z1 z2 u0 u1 u2 HB11 HWW HW11
                        obtain ⟨q, rfl, hq, hk2, HBR⟩ := hrel
                        obtain ⟨z0, z1, z2, -, -, -⟩ := HM3.out wr (below_then HW10.out HBR.out)
                        obtain ⟨u0, u1, u2, -, -, -⟩ := HM10.out wr HBR.out
                        by_cases hlt4 : q < n1
                        · have hd4 : decide ((q : Int) < n1) = true := by simp; omega
                          have hq0 : (0 : Int) ≤ q := by omega
                          have hq1 : (q : Int) < n1 := by omega
                          obtain ⟨ga, oa, rfl, hga, ha⟩ := HK1.out (by omega)
                          obtain ⟨gb, ob, rfl, hgb, hbb⟩ := HK2.out (by omega)
                          obtain ⟨a, ha1⟩ := HN1y.out q hlt4
                          obtain ⟨t0, t1, t2, t3⟩ := ha q a ha1 wr (below_then HW10.out HBR.out)
                          obtain ⟨s0, s1, s2, s3⟩ := hbb q a ha1 wr HBR.out
                          clear ha hbb ha1 z0 z1 u0 u1
                          go_wp2_with fail
                          go_quiet (fail)
                          go_wp2_with fail
                          go_roundg (gk - 1)
                          case measure => omega
                          case rel => exact ⟨q + 1, by simp, by omega, by omega, below_drewN HBR.out _⟩
                        · have hq' : n1 = q := by omega
                          subst hq'
                          have hd4 : decide ((n1 : Int) < n1) = false := by simp
                          go_wp2_with fail
                          go_roundg (gk1 - 1)
                          case measure => omega
                          case rel => exact ⟨j + 1, (by have := HN1.out; simp; try (unfold wrap64; omega)), by omega, by omega, HBR⟩
                    · rw [if_neg hcp] at hsp
                      have HSP := Lib.hid hsp
                      have HCP : Hid (decide ((Sp.cut (L nm)).1 = []) = false) := by show _ = _; rw [hnmL]; simp [hcp]
                      clear hx hy hs1 hs2 hk1 hk2 hm3 hm10 hcl hnm hys hnm1 hnmL hn1 hda hdn hsp hcp
                      have HWW := Lib.hid (below_then HW10.out HBR.out)
                      obtain ⟨z0, z1, z2, -, -, -⟩ := HM3.out wr HWW.out
                      obtain ⟨x0', -, -, -, -⟩ := HCLn.out wr (below_then HB3.out HWW.out)
                      go_wp2_with (go_at_call 34; go_must (refine (prefix_calls nm _ hnm9).mono ?_); rintro e w11 ⟨⟨p, rfl, hpL⟩, hb11⟩; (have hpe : p.toList.isEmpty = false := by (rw [empt, hpL]; exact HCP.out)); have HB11 := Lib.hid (below_then HBR.out hb11); have HW11 := Lib.hid (below_then HW10.out HB11.out); clear z0 z1 z2 x0' hb11 hpL; obtain ⟨z0, z1, z2, -, -, -⟩ := HM3.out w11 HW11.out; obtain ⟨u0, u1, u2, -, -, -⟩ := HM10.out w11 HB11.out; rw [HSP.out] at u0)
                      go_quiet (fail)
                      go_wp2_with fail
                      go_loopg [17] (n1 + 1) (fun k2 q2 wr2 => ∃ q : Nat, q2 = .int .i64 q ∧ q ≤ n1 ∧ n1 - q < k2 ∧ Hid (Below w10.heap.size w10 wr2))
                      case atStart => exact ⟨0, rfl, Nat.zero_le _, by omega, below_drewN HB11.out _⟩
                      case round =>
                        clear HBR z0 z1 z2 u0 u1 u2 HB11 HWW HW11
                        obtain ⟨q, rfl, hq, hk2, HBR⟩ := hrel
                        obtain ⟨z0, z1, z2, -, -, -⟩ := HM3.out wr (below_then HW10.out HBR.out)
                        obtain ⟨u0, u1, u2, -, -, -⟩ := HM10.out wr HBR.out
                        by_cases hlt4 : q < n1
                        · have hd4 : decide ((q : Int) < n1) = true := by simp; omega
                          have hq0 : (0 : Int) ≤ q := by omega
                          have hq1 : (q : Int) < n1 := by omega
                          obtain ⟨ga, oa, rfl, hga, ha⟩ := HK1.out (by omega)
                          obtain ⟨gb, ob, rfl, hgb, hbb⟩ := HK2.out (by omega)
                          obtain ⟨a, ha1⟩ := HN1y.out q hlt4
                          obtain ⟨t0, t1, t2, t3⟩ := ha q a ha1 wr (below_then HW10.out HBR.out)
                          obtain ⟨s0, s1, s2, s3⟩ := hbb q a ha1 wr HBR.out
                          clear ha hbb ha1 z0 z1 u0 u1
                          go_wp2_with fail
                          go_quiet (fail)
                          go_wp2_with fail
                          go_roundg (gk - 1)
                          case measure => omega
                          case rel => exact ⟨q + 1, by simp, by omega, by omega, below_drewN HBR.out _⟩
                        · have hq' : n1 = q := by omega
                          subst hq'
                          have hd4 : decide ((n1 : Int) < n1) = false := by simp
                          go_wp2_with fail
                          go_roundg (gk1 - 1)
                          case measure => omega
                          case rel => exact ⟨j + 1, (by have := HN1.out; simp; try (unfold wrap64; omega)), by omega, by omega, HBR⟩
                  · have hj' : n = j := by omega
                    subst hj'
                    have hd3 : decide ((n : Int) < n) = false := by simp
                    go_wp2_with fail
                    go_ret
                    exact ⟨rfl, below_then HB3.out (below_then HW10.out HBR.out)⟩
end Go.Proofs.YtokdclmikllepaaGreatDoor
