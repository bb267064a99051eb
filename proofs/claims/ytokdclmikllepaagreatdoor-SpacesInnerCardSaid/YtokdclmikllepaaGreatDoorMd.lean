import Derived.Test.YtokdclmikllepaaGreatDoorMb
import Derived.Test.YtokdclmikllepaaGreatDoorMa
import Derived.BigQuiet
import Derived.Test.YtokdclmikllepaaGreatDoorMc
import Derived.Test.YtokdclmikllepaaGreatDoorKt36
import Derived.Laws.AppendOwn
namespace Go.Proofs.YtokdclmikllepaaGreatDoor
open Go.RowKit
set_option linter.unusedVariables false
set_option linter.unusedSimpArgs false

/-! ### the references of layer 10: colon, Prefix, Local, Declares; again -/
def colI (s : List UInt8) : Int := match Sp.colon s with | none => -1 | some i => (i : Int)
set_option maxHeartbeats 4000000 in
set_option maxRecDepth 100000 in
theorem colon_calls (s : ByteArray) (w : World) (hs : s.size ≤ 1152921504606846980) : Calls Tryz.prog 69 #[.string s] w fun e w' => e = .returned (.int .i64 (colI (L s))) ∧ Below w.heap.size w w' := by
  go_enter Tryz.func69, Tryz.ntmps69
  go_wp2_with fail
  go_loopg [3] (s.size + 1) (fun kk i wr => ∃ j : Nat, i = .int .i64 j ∧ j ≤ s.size ∧ s.size - j < kk ∧ Hid (∀ k, k < j → ∀ c, (L s)[k]? = some c → c ≠ 58) ∧ Hid (Below w.heap.size w wr))
  case atStart => exact ⟨0, rfl, Nat.zero_le _, by omega, (fun k hk => by omega), Below.refl _ _⟩
  case round =>
    obtain ⟨j, rfl, hj, hk, HP, HB⟩ := hrel
    by_cases hlt : j < s.size
    · have hd : decide ((j : Int) < s.size) = true := by simp; omega
      have hj0 : (0 : Int) ≤ j := by omega
      have hj1 : (j : Int) < s.size := by omega
      have hgl : (L s)[j]'(by rw [L_length]; exact hlt) = s[j] := by cases s; rfl
      by_cases hc : s[j] = 58
      · have hx : ((s[j].toNat : Int) == 58) = true := by rw [hc]; rfl
        have hR : colI (L s) = (j : Int) := by
          unfold colI
          rw [colon_step (s := L s) (j := j) (by rw [L_length]; exact hlt) HP.out (by rw [hgl]; exact hc)]
        have HR := Lib.hid hR
        clear hR hgl
        go_wp2_with fail
        go_ret
        exact ⟨by rw [HR.out]; rfl, HB.out⟩
      · have hx : ((s[j].toNat : Int) == 58) = false := by rw [beq_eq_false_iff_ne]; intro e; exact hc (UInt8.toNat_inj.1 (by show s[j].toNat = 58; omega))
        have HP2 : Hid (∀ k, k < j + 1 → ∀ c, (L s)[k]? = some c → c ≠ 58) := fun k hk c hkc => by
          rcases Nat.lt_or_ge k j with h | h
          · exact HP.out k h c hkc
          · have hkj : k = j := by omega
            subst hkj
            rw [List.getElem?_eq_getElem (by rw [L_length]; exact hlt), hgl] at hkc
            injection hkc with hkc
            rw [← hkc]
            exact hc
        clear hgl hc
        go_wp2_with fail
        go_roundg (gk - 1)
        case measure => omega
        case rel => exact ⟨j + 1, by simp, by omega, by omega, HP2, HB.out⟩
    · have hj' : s.size = j := by omega
      have hd : decide ((j : Int) < s.size) = false := by simp; omega
      have hR : colI (L s) = -1 := by
        unfold colI
        rw [colon_all (s := L s) (fun k hk => HP.out k (by rw [L_length] at hk; omega))]
      have HR := Lib.hid hR
      clear hR
      go_wp2_with fail
      go_ret
      exact ⟨by rw [HR.out]; rfl, HB.out⟩
theorem colon_none_is (s : ByteArray) (w : World) (hs : s.size ≤ 1152921504606846980) (h : Sp.colon (L s) = none) : Calls Tryz.prog 69 #[.string s] w fun e w' => e = .returned (.int .i64 (-1)) ∧ Below w.heap.size w w' :=
  (colon_calls s w hs).mono fun e w' ⟨he, hb⟩ => ⟨by rw [he]; unfold colI; rw [h], hb⟩
theorem colon_some_is (s : ByteArray) (w : World) (hs : s.size ≤ 1152921504606846980) (i : Nat) (h : Sp.colon (L s) = some i) : Calls Tryz.prog 69 #[.string s] w fun e w' => e = .returned (.int .i64 (i : Int)) ∧ Below w.heap.size w w' :=
  (colon_calls s w hs).mono fun e w' ⟨he, hb⟩ => ⟨by rw [he]; unfold colI; rw [h], hb⟩

set_option maxHeartbeats 4000000 in
set_option maxRecDepth 100000 in
theorem prefix_calls (s : ByteArray) (w : World) (hs : s.size ≤ 1152921504606846980) : Calls Tryz.prog 34 #[.string s] w fun e w' => (∃ p : ByteArray, e = .returned (.string p) ∧ L p = (Sp.cut (L s)).1) ∧ Below w.heap.size w w' := by
  have hcr := (cut_ref10 (L s)).1
  cases hc : Sp.colon (L s) with
  | none =>
    rw [hc] at hcr
    have HC := Lib.hid hc
    have HCR := Lib.hid hcr
    clear hc hcr
    go_enter Tryz.func34, Tryz.ntmps34
    go_wp2_with (go_at_call 69; go_must (refine (colon_none_is s _ hs HC.out).mono ?_); rintro e w1 ⟨rfl, hb1⟩; have HB1 := Lib.hid hb1; clear hb1)
    go_ret
    exact ⟨⟨⟨#[]⟩, rfl, HCR.out.symm⟩, HB1.out⟩
  | some i =>
    rw [hc] at hcr
    have hi := colon_lt hc
    rw [L_length] at hi
    have HC := Lib.hid hc
    have HCR := Lib.hid hcr
    have hd : decide ((i : Int) < 0) = false := by rw [decide_eq_false_iff_not]; omega
    have hi0 : (0 : Int) ≤ i := by omega
    have hi1 : (i : Int) ≤ s.size := by omega
    have hwi : IntKind.i64.wrap (i : Int) = (i : Int) := IntWalk.i64_in _ (by omega)
    have hti : (i : Int).toNat = i := by simp
    clear hc hcr
    go_enter Tryz.func34, Tryz.ntmps34
    go_wp2_with (first
      | (go_at_call 69; (with_reducible refine (colon_some_is s w hs i HC.out).mono ?_); rintro e w1 ⟨rfl, hb1⟩; have HB1 := Lib.hid hb1; clear hb1)
      | (go_at_call 69; go_must (refine (colon_some_is s w1 hs i HC.out).mono ?_); rintro e w2 ⟨rfl, hb2⟩; have HB2 := Lib.hid (below_then HB1.out hb2); clear hb2))
    go_ret
    exact ⟨⟨_, rfl, by (rw [HCR.out]) <;> simp [L_extract]⟩, HB2.out⟩
set_option maxHeartbeats 4000000 in
set_option maxRecDepth 100000 in
theorem local_calls (s : ByteArray) (w : World) (hs : s.size ≤ 1152921504606846980) : Calls Tryz.prog 108 #[.string s] w fun e w' => (∃ p : ByteArray, e = .returned (.string p) ∧ L p = (Sp.cut (L s)).2.1) ∧ Below w.heap.size w w' := by
  have hcr := (cut_ref10 (L s)).2
  cases hc : Sp.colon (L s) with
  | none =>
    rw [hc] at hcr
    have HC := Lib.hid hc
    have HCR := Lib.hid hcr
    have hw0 : IntKind.i64.wrap ((-1 : Int) + 1) = 0 := by rfl
    have hs0 : (0 : Int) ≤ s.size := by omega
    clear hc hcr
    go_enter Tryz.func108, Tryz.ntmps108
    go_wp2_with (go_at_call 69; go_must (refine (colon_none_is s _ hs HC.out).mono ?_); rintro e w1 ⟨rfl, hb1⟩; have HB1 := Lib.hid hb1; clear hb1)
    go_ret
    exact ⟨⟨_, rfl, by (rw [HCR.out]) <;> simp [L_extract]⟩, HB1.out⟩
  | some i =>
    rw [hc] at hcr
    have hi := colon_lt hc
    rw [L_length] at hi
    have HC := Lib.hid hc
    have HCR := Lib.hid hcr
    have hi0 : (0 : Int) ≤ (i : Int) + 1 := by omega
    have hi1 : (i : Int) + 1 ≤ s.size := by omega
    have hwi : IntKind.i64.wrap ((i : Int) + 1) = (i : Int) + 1 := IntWalk.i64_in _ (by omega)
    have hti : ((i : Int) + 1).toNat = i + 1 := by omega
    clear hc hcr
    go_enter Tryz.func108, Tryz.ntmps108
    go_wp2_with (go_at_call 69; go_must (refine (colon_some_is s _ hs i HC.out).mono ?_); rintro e w1 ⟨rfl, hb1⟩; have HB1 := Lib.hid hb1; clear hb1)
    go_ret
    exact ⟨⟨_, rfl, by rw [HCR.out]; simp only [L_extract]; exact List.take_of_length_le (by rw [List.length_drop, L_length]; exact Nat.le_refl _)⟩, HB1.out⟩
end Go.Proofs.YtokdclmikllepaaGreatDoor
namespace Go.Proofs.YtokdclmikllepaaGreatDoor
open Go.RowKit
set_option linter.unusedVariables false
set_option linter.unusedSimpArgs false

/-! ### ref10.Declares, law10.again -/
set_option maxHeartbeats 4000000 in
set_option maxRecDepth 100000 in
theorem rdecl_calls (s : ByteArray) (w : World) (hs : s.size ≤ 1152921504606846980) (d : Bool) (hd : (Sp.declares (L s)).2 = d) : Calls Tryz.prog 35 #[.string s] w fun e w' => e = .returned (.bool d) ∧ Below w.heap.size w w' := by
  rw [decl_ref10] at hd
  by_cases h : L s = Sp.xmlnsB
  · have h1 : (s.toList == [120, 109, 108, 110, 115]) = true := by rw [toList_L, h]; rfl
    have hd2 : d = true := by rw [← hd]; simp [h]
    subst hd2
    clear hd h
    go_enter Tryz.func35, Tryz.ntmps35
    go_wp2_with fail
    go_ret
    exact ⟨rfl, Below.refl _ _⟩
  · have h1 : (s.toList == [120, 109, 108, 110, 115]) = false := by rw [toList_L, beq_eq_false_iff_ne]; exact h
    cases hc : Sp.colon (L s) with
    | none =>
      have hd2 : d = false := by rw [← hd, hc]; simp [h]
      subst hd2
      have HC := Lib.hid hc
      clear hd h hc
      go_enter Tryz.func35, Tryz.ntmps35
      go_wp2_with (go_at_call 69; go_must (refine (colon_none_is s _ hs HC.out).mono ?_); rintro e w1 ⟨rfl, hb1⟩; have HB1 := Lib.hid hb1; clear hb1)
      go_ret
      exact ⟨rfl, HB1.out⟩
    | some i =>
      have hi := colon_lt hc
      rw [L_length] at hi
      by_cases hi5 : i = 5
      · subst hi5
        have hdd : decide ((L s).take 5 = Sp.xmlnsB) = d := by rw [← hd, hc]; simp [h]
        have hx : ((s.extract 0 5).toList == [120, 109, 108, 110, 115]) = d := by
          rw [toList_L, L_extract, ← hdd]
          simp only [List.drop_zero, Nat.sub_zero]
          by_cases ht : (L s).take 5 = Sp.xmlnsB
          · rw [ht]; rfl
          · rw [decide_eq_false ht, beq_eq_false_iff_ne]; exact ht
        have h5 : (5 : Int) ≤ s.size := by omega
        have h5n : 5 ≤ s.size := by omega
        have HC := Lib.hid hc
        clear hd h hc hdd hi
        go_enter Tryz.func35, Tryz.ntmps35
        go_wp2_with (go_at_call 69; go_must (refine (colon_some_is s _ hs 5 HC.out).mono ?_); rintro e w1 ⟨rfl, hb1⟩; have HB1 := Lib.hid hb1; clear hb1)
        go_ret
        exact ⟨rfl, HB1.out⟩
      · have hd2 : d = false := by rw [← hd, hc]; simp [h, hi5]
        have h5 : ((i : Int) == 5) = false := by rw [beq_eq_false_iff_ne]; omega
        subst hd2
        have HC := Lib.hid hc
        clear hd h hc hi5
        go_enter Tryz.func35, Tryz.ntmps35
        go_wp2_with (go_at_call 69; go_must (refine (colon_some_is s _ hs i HC.out).mono ?_); rintro e w1 ⟨rfl, hb1⟩; have HB1 := Lib.hid hb1; clear hb1)
        go_ret
        exact ⟨rfl, HB1.out⟩
set_option maxHeartbeats 4000000 in
set_option maxRecDepth 100000 in
theorem again_calls (s : ByteArray) (w : World) (hs : s.size ≤ 1152921504606846976) : Calls Tryz.prog 68 #[.string s] w fun e w' => (∃ p : ByteArray, e = .returned (.string p) ∧ L p = againL (L s)) ∧ Below w.heap.size w w' := by
  have hs2 : s.size ≤ 1152921504606846980 := by omega
  have hcl := cut_len (L s)
  rw [L_length] at hcl
  by_cases h1 : (Sp.cut (L s)).1 = []
  · have hR : againL (L s) = L s := by unfold againL; rw [if_pos (.inl h1)]
    have HR := Lib.hid hR
    have H1 : Hid (decide ((Sp.cut (L s)).1 = []) = true) := by show _ = _; simp [h1]
    clear hR h1 hcl
    go_enter Tryz.func68, Tryz.ntmps68
    go_wp2_with (go_at_call 34; go_must (refine (prefix_calls s _ hs2).mono ?_); rintro e w1 ⟨⟨p, rfl, hpL⟩, hb1⟩; (have e1 : p.toList.isEmpty = true := by (rw [empt, hpL]; exact H1.out)); have HB1 := Lib.hid hb1; clear hb1 hpL)
    go_ret
    exact ⟨⟨s, rfl, HR.out.symm⟩, HB1.out⟩
  · have H1 : Hid (decide ((Sp.cut (L s)).1 = []) = false) := by show _ = _; simp [h1]
    by_cases h2 : (Sp.cut (L s)).1 = Sp.xmlB
    · have hR : againL (L s) = L s := by unfold againL; rw [if_pos (.inr h2)]
      have HR := Lib.hid hR
      have H2 : Hid (((Sp.cut (L s)).1 == [120, 109, 108]) = true) := by show _ = _; rw [h2]; rfl
      clear hR h1 h2 hcl
      go_enter Tryz.func68, Tryz.ntmps68
      go_wp2_with (go_at_call 34; go_must (refine (prefix_calls s _ hs2).mono ?_); rintro e w1 ⟨⟨p, rfl, hpL⟩, hb1⟩; (have e1 : p.toList.isEmpty = false := by (rw [empt, hpL]; exact H1.out)); (have e2 : (p.toList == [120, 109, 108]) = true := by (rw [toList_L, hpL]; exact H2.out)); have HB1 := Lib.hid hb1; clear hb1 hpL)
      go_ret
      exact ⟨⟨s, rfl, HR.out.symm⟩, HB1.out⟩
    · have hR : againL (L s) = (Sp.cut (L s)).1 ++ [113, 58] ++ (Sp.cut (L s)).2.1 := by unfold againL; rw [if_neg (by rintro (h | h); exact h1 h; exact h2 h)]
      have HR := Lib.hid hR
      have H2 : Hid (((Sp.cut (L s)).1 == [120, 109, 108]) = false) := by show _ = _; rw [beq_eq_false_iff_ne]; exact h2
      have HCL := Lib.hid hcl
      clear hR h1 h2 hcl
      go_enter Tryz.func68, Tryz.ntmps68
      go_wp2_with (first
        | (go_at_call 34; go_must (refine (prefix_calls s _ hs2).mono ?_); rintro e w1 ⟨⟨p, rfl, hpL⟩, hb1⟩; (have e1 : p.toList.isEmpty = false := by (rw [empt, hpL]; exact H1.out)); (have e2 : (p.toList == [120, 109, 108]) = false := by (rw [toList_L, hpL]; exact H2.out)); (have hps : p.size ≤ 1152921504606846980 := by (have := HCL.out.1; rw [← hpL, L_length] at this; omega)); (have hz1 : ¬ (9223372036854775807 < p.size + 2) := by omega); have HPL := Lib.hid hpL; have HB1 := Lib.hid hb1; clear hb1 hpL)
        | (go_at_call 108; go_must (refine (local_calls s _ hs2).mono ?_); rintro e w2 ⟨⟨q, rfl, hqL⟩, hb2⟩; (have hqs : q.size ≤ 1152921504606846980 := by (have := HCL.out.2; rw [← hqL, L_length] at this; omega)); (have hz2 : ¬ (9223372036854775807 < p.size + 2 + q.size) := by omega); have HQL := Lib.hid hqL; have HB2 := Lib.hid (below_then HB1.out hb2); clear hb2 hqL))
      go_ret
      refine ⟨⟨_, rfl, ?_⟩, HB2.out⟩
      rw [HR.out, ← HPL.out, ← HQL.out]
      simp [ByteArray.data_append]
theorem again_len (s : List UInt8) : (againL s).length ≤ s.length + s.length + 2 := by
  have := cut_len s
  unfold againL
  split
  · omega
  · simp only [List.length_append, List.length_cons, List.length_nil]
    omega
theorem again_is (s : ByteArray) (w : World) (hs : s.size ≤ 1152921504606846976) (r : List UInt8) (hr : againL (L s) = r) : Calls Tryz.prog 68 #[.string s] w fun e w' => e = .returned (.string ⟨r.toArray⟩) ∧ Below w.heap.size w w' :=
  (again_calls s w hs).mono fun e w' ⟨⟨p, he, hp⟩, hb⟩ => ⟨by rw [he, ← hr, ← hp, bs_L], hb⟩
end Go.Proofs.YtokdclmikllepaaGreatDoor
namespace Go.Proofs.YtokdclmikllepaaGreatDoor
open Go.RowKit
set_option linter.unusedVariables false
set_option linter.unusedSimpArgs false

/-! ### ref10.Same at equal lists; few of layer 10 -/
theorem SasR.cells {w : World} {v : Value} {l : List Sp.SA} (h : SasR w v l) : ∃ a c, v = .slice a l.length c ∧ (0 < l.length → ∃ g o, a = some ⟨g, o, none⟩ ∧ g < w.heap.size ∧ ∀ i x, l[i]? = some x → ∀ W, Below w.heap.size w W →
    W.cell? ⟨g, o + i * 4, none⟩ = some (.string ⟨x.space.toArray⟩) ∧ W.cell? ⟨g, o + i * 4 + 1, none⟩ = some (.string ⟨x.name.toArray⟩) ∧ W.cell? ⟨g, o + i * 4 + 2, none⟩ = some (.string ⟨x.value.toArray⟩) ∧ W.cell? ⟨g, o + i * 4 + 3, none⟩ = some (.int .i64 x.at_)) := by
  obtain ⟨a, c, rfl, hc⟩ := h
  refine ⟨a, c, rfl, fun hl => ?_⟩
  obtain ⟨g, o, rfl, hg, h2⟩ := hc hl
  refine ⟨g, o, rfl, hg, fun i x hx W hW => ?_⟩
  have e : ∀ j, W.cell? ⟨g, j, none⟩ = w.cell? ⟨g, j, none⟩ := fun j => World.cell?_of_block (hW.block g hg)
  simp only [e]
  exact h2 i x hx
theorem SesR.cells {w : World} {v : Value} {l : List Sp.SE} (h : SesR w v l) : ∃ a c, v = .slice a l.length c ∧ (0 < l.length → ∃ g o, a = some ⟨g, o, none⟩ ∧ g < w.heap.size ∧ ∀ i x, l[i]? = some x → ∃ av, SasR w av x.attrs ∧ ∀ W, Below w.heap.size w W →
    W.cell? ⟨g, o + i * 6, none⟩ = some (.string ⟨x.space.toArray⟩) ∧ W.cell? ⟨g, o + i * 6 + 1, none⟩ = some (.string ⟨x.name.toArray⟩) ∧ W.cell? ⟨g, o + i * 6 + 2, none⟩ = some av ∧ W.cell? ⟨g, o + i * 6 + 3, none⟩ = some (.string ⟨x.text.toArray⟩) ∧
    W.cell? ⟨g, o + i * 6 + 4, none⟩ = some (.int .i64 x.up) ∧ W.cell? ⟨g, o + i * 6 + 5, none⟩ = some (.int .i64 x.at_)) := by
  obtain ⟨a, c, rfl, hc⟩ := h
  refine ⟨a, c, rfl, fun hl => ?_⟩
  obtain ⟨g, o, rfl, hg, h2⟩ := hc hl
  refine ⟨g, o, rfl, hg, fun i x hx => ?_⟩
  obtain ⟨av, h3, h4⟩ := h2 i x hx
  refine ⟨av, h3, fun W hW => ?_⟩
  have e : ∀ j, W.cell? ⟨g, j, none⟩ = w.cell? ⟨g, j, none⟩ := fun j => World.cell?_of_block (hW.block g hg)
  simp only [e]
  exact h4
set_option maxHeartbeats 8000000 in
set_option maxRecDepth 100000 in
theorem same10_calls (w : World) (v1 v2 : Value) (l : List Sp.SE) (h1 : SesR w v1 l) (h2 : SesR w v2 l) (hl : l.length ≤ 4096) (hw : ∀ x ∈ l, x.attrs.length ≤ 100000) :
    Calls Tryz.prog 33 #[v1, v2] w fun e w' => e = .returned (.bool true) ∧ Below w.heap.size w w' := by
  obtain ⟨n, hn⟩ : ∃ n, l.length = n := ⟨_, rfl⟩
  obtain ⟨a1, c1, rfl, hc1⟩ := h1.cells
  obtain ⟨a2, c2, rfl, hc2⟩ := h2.cells
  rw [hn] at hl hc1 hc2 ⊢
  clear h1 h2
  by_cases h0 : n = 0
  · subst h0
    clear hc1 hc2 hw hn
    go_enter Tryz.func33, Tryz.ntmps33
    go_wp2_with fail
    refine wp_loop_rounds 1 ?_
    rw [rounds_succ]
    go_wp2_with fail
    go_ret
    exact ⟨rfl, Below.refl _ _⟩
  · obtain ⟨g1, o1, rfl, hg1, hc1⟩ := hc1 (by omega)
    obtain ⟨g2, o2, rfl, hg2, hc2⟩ := hc2 (by omega)
    have HC : Hid (∀ i, i < n → ∃ (x : Sp.SE) (av1 av2 : Value), x.attrs.length ≤ 100000 ∧ SasR w av1 x.attrs ∧ SasR w av2 x.attrs ∧
        (∀ W, Below w.heap.size w W → W.cell? ⟨g1, o1 + i * 6, none⟩ = some (.string ⟨x.space.toArray⟩) ∧ W.cell? ⟨g1, o1 + i * 6 + 1, none⟩ = some (.string ⟨x.name.toArray⟩) ∧ W.cell? ⟨g1, o1 + i * 6 + 2, none⟩ = some av1 ∧ W.cell? ⟨g1, o1 + i * 6 + 3, none⟩ = some (.string ⟨x.text.toArray⟩) ∧ W.cell? ⟨g1, o1 + i * 6 + 4, none⟩ = some (.int .i64 x.up) ∧ W.cell? ⟨g1, o1 + i * 6 + 5, none⟩ = some (.int .i64 x.at_)) ∧
        (∀ W, Below w.heap.size w W → W.cell? ⟨g2, o2 + i * 6, none⟩ = some (.string ⟨x.space.toArray⟩) ∧ W.cell? ⟨g2, o2 + i * 6 + 1, none⟩ = some (.string ⟨x.name.toArray⟩) ∧ W.cell? ⟨g2, o2 + i * 6 + 2, none⟩ = some av2 ∧ W.cell? ⟨g2, o2 + i * 6 + 3, none⟩ = some (.string ⟨x.text.toArray⟩) ∧ W.cell? ⟨g2, o2 + i * 6 + 4, none⟩ = some (.int .i64 x.up) ∧ W.cell? ⟨g2, o2 + i * 6 + 5, none⟩ = some (.int .i64 x.at_))) := fun i hi => by
      have hx := List.getElem?_eq_getElem (l := l) (i := i) (by omega)
      obtain ⟨av1, k1, x0⟩ := hc1 i _ hx
      obtain ⟨av2, k2, y0⟩ := hc2 i _ hx
      exact ⟨_, av1, av2, hw _ (List.mem_of_getElem? hx), k1, k2, x0, y0⟩
    clear hc1 hc2 hn h0 hw
    go_enter Tryz.func33, Tryz.ntmps33
    go_wp2_with fail
    go_loopg [5, 6, 7, 8] (n + 1) (fun k i _ _ _ wr => ∃ j : Nat, i = .int .i64 j ∧ j ≤ n ∧ n - j < k ∧ Hid (Below w.heap.size w wr))
    case atStart => exact ⟨0, rfl, Nat.zero_le _, by omega, Below.refl _ _⟩
    case round =>
      obtain ⟨j, rfl, hj, hk, HB⟩ := hrel
      by_cases hlt : j < n
      · have hd : decide ((j : Int) < n) = true := by simp; omega
        have hx0 : (0 : Int) ≤ j := by omega
        have hx1 : (j : Int) < n := by omega
        obtain ⟨x, av1, av2, hal, ka1, ka2, hcx, hcy⟩ := HC.out j hlt
        obtain ⟨x0, x1, x2, x3, x4, x5⟩ := hcx wr HB.out
        have hcy1 := fun o => hcy (wr.alloc o) (HB.out.alloc HB.out.size o)
        have y0 := fun o => (hcy1 o).1
        have y1 := fun o => (hcy1 o).2.1
        have y2 := fun o => (hcy1 o).2.2.1
        have y3 := fun o => (hcy1 o).2.2.2.1
        have y4 := fun o => (hcy1 o).2.2.2.2.1
        have y5 := fun o => (hcy1 o).2.2.2.2.2
        obtain ⟨n1, hn1⟩ : ∃ n1, x.attrs.length = n1 := ⟨_, rfl⟩
        obtain ⟨b1, d1, rfl, hk1⟩ := ka1.cells
        obtain ⟨b2, d2, rfl, hk2⟩ := ka2.cells
        rw [hn1] at hal hk1 x2 hk2 y2
        have HK1 := Lib.hid hk1
        have HK2 := Lib.hid hk2
        have HN1 := Lib.hid hn1
        clear hcx hcy hcy1 ka1 ka2 hk1 hk2 hn1
        obtain ⟨gk0, rfl⟩ : ∃ z, z = gk := ⟨_, rfl⟩
        obtain ⟨wr0, rfl⟩ : ∃ z, z = wr := ⟨_, rfl⟩
        have hbs := HB.out.size
        go_wp2_with fail
        go_loopg [8] (n1 + 1) (fun k2 q2 wr2 => ∃ q : Nat, q2 = .int .i64 q ∧ q ≤ n1 ∧ n1 - q < k2 ∧ Hid (Below w.heap.size w wr2) ∧ wr2.cell? ⟨wr0.heap.size, 2, none⟩ = some (.slice b1 n1 d1) ∧ wr2.cell? ⟨wr0.heap.size + 1, 2, none⟩ = some (.slice b2 n1 d2))
        case atStart =>
          refine ⟨0, rfl, Nat.zero_le _, by omega, (HB.out.alloc hbs _).alloc (by rw [sz_alloc]; omega) _, ?_, ?_⟩
          · exact (cell_of_row _ _ 2 _ _ _ ((heap_alloc_old _ _ (by rw [sz_alloc]; omega)).trans (heap_alloc_new _ _))).trans rfl
          · exact (cell_of_row _ _ 2 _ _ _ (by rw [← sz_alloc wr0]; exact heap_alloc_new _ _)).trans rfl
        case round =>
          clear HB x0 x1 x2 x3 x4 x5 y0 y1 y2 y3 y4 y5
          obtain ⟨q, rfl, hq, hk2, HB, z1, z2⟩ := hrel
          by_cases hlt2 : q < n1
          · have hd2 : decide ((q : Int) < n1) = true := by simp; omega
            have hq0 : (0 : Int) ≤ q := by omega
            have hq1 : (q : Int) < n1 := by omega
            obtain ⟨ga, oa, rfl, hga, ha⟩ := HK1.out (by omega)
            obtain ⟨gb, ob, rfl, hgb, hbb⟩ := HK2.out (by omega)
            obtain ⟨a, ha1⟩ : ∃ a, x.attrs[q]? = some a := ⟨_, List.getElem?_eq_getElem (by rw [HN1.out]; exact hlt2)⟩
            obtain ⟨u0, u1, u2, u3⟩ := ha q a ha1 wr HB.out
            obtain ⟨v0, v1, v2, v3⟩ := hbb q a ha1 wr HB.out
            clear ha hbb ha1
            go_wp2_with fail
            go_quiet (fail)
            go_wp2_with fail
            go_roundg (gk - 1)
            case measure => omega
            case rel => exact ⟨q + 1, by simp, by omega, by omega, below_drewN HB.out _, z1, z2⟩
          · have hq' : q = n1 := by omega
            subst hq'
            have hd2 : decide ((q : Int) < q) = false := by simp
            go_wp2_with fail
            go_roundg (gk0 - 1)
            case measure => omega
            case rel => exact ⟨j + 1, by simp, by omega, by omega, HB⟩
      · have hj' : j = n := by omega
        subst hj'
        have hd : decide ((j : Int) < j) = false := by simp
        go_wp2_with fail
        go_ret
        exact ⟨rfl, HB.out⟩

def Few10End (l : List Sp.EE) (w : World) (e : Ending) (w' : World) : Prop := ∃ b : Bool, e = .returned (.bool b) ∧ Below w.heap.size w w' ∧ (b = true → l.length ≤ 151 ∧ (l.map (fun x => x.attrs.length)).sum ≤ 300)
set_option maxHeartbeats 8000000 in
set_option maxRecDepth 100000 in
theorem few10_calls (w : World) (v : Value) (l : List Sp.EE) (h : ElsR w v l) (hl : l.length ≤ 140737488351232) (hb : ∀ x ∈ l, x.attrs.length ≤ 140737488351232) :
    Calls Tryz.prog 30 #[v] w (Few10End l w) := by
  obtain ⟨n, hn⟩ : ∃ n, l.length = n := ⟨_, rfl⟩
  obtain ⟨a1, c1, rfl, hc1⟩ := h.cells
  rw [hn] at hl hc1 ⊢
  have HN := Lib.hid hn
  have HBD := Lib.hid hb
  clear h hb
  by_cases h0 : n = 0
  · have hl0 : l = [] := List.eq_nil_of_length_eq_zero (by omega)
    subst hl0 h0
    clear hc1 hn
    go_enter Tryz.func30, Tryz.ntmps30
    go_wp2_with fail
    refine wp_loop_rounds 1 ?_
    rw [rounds_succ]
    go_wp2_with fail
    go_ret
    exact ⟨true, rfl, Below.refl _ _, fun _ => ⟨by simp, by simp⟩⟩
  · obtain ⟨g1, o1, rfl, hg1, hc1⟩ := hc1 (by omega)
    have HC := Lib.hid hc1
    clear hc1 hn h0
    go_enter Tryz.func30, Tryz.ntmps30
    go_wp2_with fail
    go_loopg [3, 4] (n + 1) (fun k s i wr => ∃ (j m : Nat), i = .int .i64 j ∧ s = .int .i64 m ∧ j ≤ n ∧ n - j < k ∧ j ≤ 151 ∧ m ≤ 300 ∧ Hid (((l.take j).map (fun x => x.attrs.length)).sum = m) ∧ Hid (Below w.heap.size w wr))
    case atStart => exact ⟨0, 0, rfl, rfl, Nat.zero_le _, by omega, by omega, by omega, rfl, Below.refl _ _⟩
    case round =>
      obtain ⟨j, m, rfl, rfl, hj, hk, hj151, hm, HS, HB⟩ := hrel
      by_cases hlt : j < n
      · have hd : decide ((j : Int) < n) = true := by simp; omega
        have hx0 : (0 : Int) ≤ j := by omega
        have hx1 : (j : Int) < n := by omega
        obtain ⟨x, hx⟩ : ∃ x, l[j]? = some x := ⟨_, List.getElem?_eq_getElem (by rw [HN.out]; exact hlt)⟩
        have hbx := HBD.out x (List.mem_of_getElem? hx)
        obtain ⟨av, hav, hcl⟩ := HC.out j x hx
        obtain ⟨aa, ac, rfl, -⟩ := hav
        obtain ⟨-, y1, -, -, -⟩ := hcl wr HB.out
        obtain ⟨na, hna⟩ : ∃ na, x.attrs.length = na := ⟨_, rfl⟩
        rw [hna] at y1 hbx
        obtain ⟨mn, hmn⟩ : ∃ mn, m + na = mn := ⟨_, rfl⟩
        have hw : IntKind.i64.wrap ((m : Int) + na) = (mn : Int) := by rw [← hmn]; exact (IntWalk.i64_in _ (by omega)).trans (by omega)
        have hsum : ((l.take (j + 1)).map (fun x => x.attrs.length)).sum = mn := by
          rw [List.take_add_one, hx, List.map_append, List.sum_append, HS.out, ← hmn]
          simp [hna]
        have HSUM := Lib.hid hsum
        have hmn9 : mn ≤ 140737488351532 := by omega
        clear hcl hna hmn hsum hx
        by_cases h3 : 300 < mn
        · have hd3 : decide ((300 : Int) < mn) = true := by simp; omega
          go_wp2_with fail
          go_ret
          exact ⟨false, rfl, HB.out, fun h => by cases h⟩
        · have hd3 : decide ((300 : Int) < mn) = false := by simp; omega
          by_cases h4 : 150 < j
          · have hd4 : decide ((150 : Int) < j) = true := by simp; omega
            go_wp2_with fail
            go_ret
            exact ⟨false, rfl, HB.out, fun h => by cases h⟩
          · have hd4 : decide ((150 : Int) < j) = false := by simp; omega
            go_wp2_with fail
            go_roundg (gk - 1)
            case measure => omega
            case rel => exact ⟨j + 1, mn, by simp, rfl, by omega, by omega, by omega, by omega, HSUM, HB.out⟩
      · have hj' : n = j := by omega
        subst hj'
        have hd : decide ((n : Int) < n) = false := by simp
        go_wp2_with fail
        go_ret
        refine ⟨true, rfl, HB.out, fun _ => ⟨by rw [HN.out]; exact hj151, ?_⟩⟩
        have := HS.out
        rw [List.take_of_length_le (by rw [HN.out]; exact Nat.le_refl _)] at this
        rw [this]
        exact hm
end Go.Proofs.YtokdclmikllepaaGreatDoor
namespace Go.Proofs.YtokdclmikllepaaGreatDoor
open Go.RowKit
set_option linter.unusedVariables false
set_option linter.unusedSimpArgs false

/-! ### law10.renamed -/
theorem set_new {w : World} {b i : Nat} {cs : Array Value} {t : TypeId} (hb : w.heap[b]? = some (.cells cs t (0, 0))) (v : Value) : (w.setCell ⟨b, i, none⟩ v).heap[b]? = some (.cells (cs.setIfInBounds i v) t (0, 0)) ∧ w.grownBy (w.setCell ⟨b, i, none⟩ v) (some b) := by
  rw [setCell_eq_setRow w b i cs t (0, 0) _ hb]
  exact ⟨setRow_heap w b cs _ _ _ hb, rfl, rfl, rfl, by simp, fun k _ hk => setRow_other w b k _ (fun e => hk (by rw [e]))⟩
theorem not_frozen {w : World} {b i : Nat} {cs : Array Value} {t : TypeId} (hb : w.heap[b]? = some (.cells cs t (0, 0))) : w.frozen? ⟨b, i, none⟩ = false := by
  simp only [World.frozen?, hb]
  simp
theorem grown_below {w w' : World} {B b : Nat} (hg : w.grownBy w' (some b)) (hw : B ≤ w.heap.size) (hb : B ≤ b) : Below B w w' := ⟨hg.os, hg.tape, hg.output, hg.size, fun k hk => hg.block k (by omega) (fun e => by injection e with e; omega)⟩ 
theorem wpList_appEA {ops : Array Oper} {rest : List Oper} {o : Oper} {a : Act} {Q : Exit → Act → World → Prop} (hgd : o.guard = none) (s x : Operand)
    (ho : o.op = .call { callee := .builtin .append, args := #[s, x], argTypes := #[38, 38] })
    {base : Nat} {W : World} {v : Value} {acc : List Sp.EA} (m : Sp.EA) (hs : a.eval s = v) (hv : EasAt base W v acc) (hbase : base ≤ W.heap.size) (hn : acc.length < 65537)
    (cs : Array Value) (hcs : cs.toList = eaCells m) (hx : a.eval x = .slice (some ⟨W.heap.size, 0, none⟩) 1 1)
    (h : ∀ v' w', EasAt base w' v' (acc ++ [m]) → (W.alloc (.cells cs 42)).grownBy w' v.ownBlock → Below base W w' → wpList Tryz.prog ops Q rest (a.put o.dst v') w') : wpList Tryz.prog ops Q (o :: rest) a (W.alloc (.cells cs 42)) := by
  obtain ⟨i0, hi, hz0, hz1, hz2⟩ := info_parts infoAttr
  have hbA : Below W.heap.size W (W.alloc (.cells cs 42)) := (Below.refl _ _).alloc (Nat.le_refl _) _
  have hownA := row_below hv hbA
  refine wpList_append_own _ hgd s x 38 ho base 42 i0 _ 3 40 Tryz.underlying38 hi hz0 hz1 hz2 rfl (by decide) v acc.length (acc.flatMap eaCells) hs hownA ⟨W.heap.size, 0, none⟩ 1 1 (eaCells m) hx rfl
    (World.news_of_block (cs := cs) (heap_alloc_new W _) |> fun hh => by rw [← hcs]; exact hh) ?_ (by unfold maxLen; omega) (by omega) (by rw [sz_alloc]; omega) ?_
  · intro u hu
    simp only [eaCells, List.mem_cons, List.not_mem_nil, or_false] at hu
    rcases hu with rfl | rfl | rfl <;> rfl
  · intro v' w' h1 h2 _
    refine h v' w' ?_ h2 ?_
    · unfold EasAt
      rw [List.flatMap_append, List.length_append]
      simpa using h1
    · refine ⟨h2.os, h2.tape, h2.output, Nat.le_trans (by rw [sz_alloc]; omega) h2.size, fun k hk => ?_⟩
      have hk2 : k < (W.alloc (.cells cs 42)).heap.size := by rw [sz_alloc]; omega
      refine (h2.block k hk2 (fun e => ?_)).trans (heap_alloc_old _ _ (by omega))
      have := own_row_ge hownA e.symm
      omega
theorem wpList_appEE {ops : Array Oper} {rest : List Oper} {o : Oper} {a : Act} {Q : Exit → Act → World → Prop} (hgd : o.guard = none) (s x : Operand)
    (ho : o.op = .call { callee := .builtin .append, args := #[s, x], argTypes := #[45, 45] })
    {base : Nat} {W : World} {v av : Value} {acc : List Sp.EE} (m : Sp.EE) (hs : a.eval s = v) (hv : ElsAt base W v acc) (hav : EasAt base W av m.attrs) (hbase : base ≤ W.heap.size) (hn : acc.length < 65537)
    (cs : Array Value) (hcs : cs.toList = eeCells m av) (hx : a.eval x = .slice (some ⟨W.heap.size, 0, none⟩) 1 1)
    (h : ∀ v' w', ElsAt base w' v' (acc ++ [m]) → Below base W w' → wpList Tryz.prog ops Q rest (a.put o.dst v') w') : wpList Tryz.prog ops Q (o :: rest) a (W.alloc (.cells cs 53)) := by
  obtain ⟨ps, hps, hat, hown⟩ := hv
  have hpl : ps.length = acc.length := by rw [← hps, List.length_map]
  obtain ⟨i0, hi, hz0, hz1, hz2⟩ := info_parts infoElem
  have hbA : Below W.heap.size W (W.alloc (.cells cs 53)) := (Below.refl _ _).alloc (Nat.le_refl _) _
  have hatA : ∀ x ∈ ps, EasAt base (W.alloc (.cells cs 53)) x.2 x.1.attrs := fun x hx => row_below (hat x hx) hbA
  have hownA := row_below hown hbA
  have havA : EasAt base (W.alloc (.cells cs 53)) av m.attrs := row_below hav hbA
  have hone : av.oneCell' = true := by rcases hav.2 with ⟨rfl, _⟩ | ⟨g', cap, cur, rfl, _⟩ <;> rfl
  refine wpList_append_own _ hgd s x 45 ho base 53 i0 _ 5 72 Tryz.underlying45 hi hz0 hz1 hz2 rfl (by decide) v ps.length (ps.flatMap fun x => eeCells x.1 x.2) hs hownA ⟨W.heap.size, 0, none⟩ 1 1 (eeCells m av) hx rfl
    (World.news_of_block (cs := cs) (heap_alloc_new W _) |> fun hh => by rw [← hcs]; exact hh) ?_ (by unfold maxLen; omega) (by omega) (by rw [sz_alloc]; omega) ?_
  · intro u hu
    simp only [eeCells, List.mem_cons, List.not_mem_nil, or_false] at hu
    rcases hu with rfl | rfl | rfl | rfl | rfl <;> first | exact hone | rfl
  · intro v' w' h1 h2 _
    refine h v' w' ⟨ps ++ [(m, av)], by rw [List.map_append, hps]; rfl, fun x hx => ?_, ?_⟩ ?_
    · rcases List.mem_append.1 hx with hx | hx
      · exact World.ownsRow.kept (hatA x hx) h2 (own_own_ne (hatA x hx) hownA (by decide))
      · rw [List.mem_singleton.1 hx]
        exact World.ownsRow.kept havA h2 (own_own_ne havA hownA (by decide))
    · rw [List.flatMap_append, List.length_append]
      simpa using h1
    · refine ⟨h2.os, h2.tape, h2.output, Nat.le_trans (by rw [sz_alloc]; omega) h2.size, fun k hk => ?_⟩
      have hk2 : k < (W.alloc (.cells cs 53)).heap.size := by rw [sz_alloc]; omega
      refine (h2.block k hk2 (fun e => ?_)).trans (heap_alloc_old _ _ (by omega))
      have := own_row_ge hownA e.symm
      omega
structure RN (W0 wr : World) (nr tx : ByteArray) (up at_ : Int) (av : Value) (aacc : List Sp.EA) : Prop where
  blk : wr.heap[W0.heap.size]? = some (.cells #[.string nr, av, .string tx, .int .i64 up, .int .i64 at_] 53 (0, 0))
  eas : EasAt W0.heap.size wr av aacc
  bel : Below W0.heap.size W0 wr
theorem RN.lt {W0 wr : World} {nr tx : ByteArray} {up at_ : Int} {av : Value} {aacc : List Sp.EA} (h : RN W0 wr nr tx up at_ av aacc) : W0.heap.size < wr.heap.size := (Array.getElem?_eq_some_iff.1 h.blk).1
theorem RN.below {W0 wr w' : World} {nr tx : ByteArray} {up at_ : Int} {av : Value} {aacc : List Sp.EA} (h : RN W0 wr nr tx up at_ av aacc) (hb : Below wr.heap.size wr w') : RN W0 w' nr tx up at_ av aacc :=
  ⟨(hb.block _ h.lt).trans h.blk, row_below h.eas hb, below_then h.bel hb⟩
theorem RN.put {W0 w6 w8 : World} {o : Obj} {nr tx : ByteArray} {up at_ : Int} {av av' : Value} {aacc aacc' : List Sp.EA} (h : RN W0 w6 nr tx up at_ av aacc) (he : EasAt W0.heap.size w8 av' aacc') (hg : (w6.alloc o).grownBy w8 av.ownBlock) (hb : Below W0.heap.size w6 w8) :
    RN W0 (w8.setCell ⟨W0.heap.size, 1, none⟩ av') nr tx up at_ av' aacc' ∧ w8.cell? ⟨W0.heap.size, 1, none⟩ = some av ∧ w8.frozen? ⟨W0.heap.size, 1, none⟩ = false := by
  have h6 := h.below ((Below.refl _ w6).alloc (Nat.le_refl _) o)
  have hne : av.ownBlock ≠ some W0.heap.size := own_ne h6.eas h6.blk (by decide)
  have hb8 : w8.heap[W0.heap.size]? = _ := (hg.block _ h6.lt (fun e => hne e.symm)).trans h6.blk
  have hst := set_new hb8 (i := 1) av'
  refine ⟨⟨hst.1, World.ownsRow.kept he hst.2 (.inr (own_ne he hb8 (by decide))), (h.bel.trans hb).trans (grown_below hst.2 (Nat.le_trans (Nat.le_of_lt h.lt) hb.size) (Nat.le_refl _))⟩, ?_, not_frozen hb8⟩
  rw [cell_of_row _ _ 1 _ _ _ hb8]
  rfl
theorem renA_at (a : Sp.EA) : renA a = ⟨(renA a).name, a.value, a.at_⟩ := rfl
def NBs (a : Sp.EA) : Prop := a.name.length ≤ 288230376151711744 ∧ a.value.length ≤ 288230376151711744
def NEs (x : Sp.EE) : Prop := x.name.length ≤ 288230376151711744 ∧ x.attrs.length ≤ 300 ∧ ∀ a ∈ x.attrs, NBs a
end Go.Proofs.YtokdclmikllepaaGreatDoor
namespace Go.Proofs.YtokdclmikllepaaGreatDoor
open Go.RowKit
set_option linter.unusedVariables false
set_option linter.unusedSimpArgs false

/-! ### law10.renamed -/
theorem renA_q {a : Sp.EA} (hd : (Sp.declares a.name).2 = true) (hx : a.name ≠ Sp.xmlnsB) : (renA a).name = a.name ++ [113] := by
  unfold renA
  simp only
  rw [if_pos hd, if_neg hx]
theorem renA_x {a : Sp.EA} (hd : (Sp.declares a.name).2 = true) (hx : a.name = Sp.xmlnsB) : (renA a).name = a.name := by
  unfold renA
  simp only
  rw [if_pos hd, if_pos hx]
theorem renA_n {a : Sp.EA} (hd : (Sp.declares a.name).2 = false) : (renA a).name = againL a.name := by
  unfold renA
  simp only
  rw [if_neg (by rw [hd]; exact Bool.false_ne_true)]
set_option maxHeartbeats 16000000 in
set_option maxRecDepth 100000 in
theorem renamed_calls (w : World) (v : Value) (l : List Sp.EE) (h : ElsR w v l) (hl : l.length ≤ 151) (hbd : ∀ x ∈ l, NEs x) :
    Calls Tryz.prog 32 #[v] w fun e w' => ∃ v', e = .returned v' ∧ ElsAt w.heap.size w' v' (l.map renE) ∧ Below w.heap.size w w' := by
  obtain ⟨n, hn⟩ : ∃ n, l.length = n := ⟨_, rfl⟩
  obtain ⟨a1, c1, rfl, hc1⟩ := h.cells
  rw [hn] at hl hc1 ⊢
  have HN := Lib.hid hn
  have HBD := Lib.hid hbd
  by_cases h0 : n = 0
  · have hl0 : l = [] := List.eq_nil_of_length_eq_zero (by omega)
    subst hl0 h0
    clear hc1 hn hbd h
    go_enter Tryz.func32, Tryz.ntmps32
    go_wp2_with fail
    refine wp_loop_rounds 1 ?_
    rw [rounds_succ]
    go_wp2_with fail
    go_ret
    exact ⟨_, rfl, ⟨[], rfl, (fun x hx => by cases hx), ⟨rfl, .inl ⟨rfl, rfl⟩⟩⟩, Below.refl _ _⟩
  · obtain ⟨g1, o1, rfl, hg1, hc1⟩ := hc1 (by omega)
    have HC := Lib.hid hc1
    clear hc1 h0 hn hbd h
    go_enter Tryz.func32, Tryz.ntmps32
    go_wp2_with fail
    go_loopg [3, 4] (n + 1) (fun k out i wr => ∃ j : Nat, i = .int .i64 j ∧ j ≤ n ∧ n - j < k ∧ Hid (ElsAt w.heap.size wr out ((l.take j).map renE)) ∧ Hid (Below w.heap.size w wr))
    case atStart => exact ⟨0, rfl, Nat.zero_le _, by omega, ⟨[], rfl, (fun x hx => by cases hx), ⟨rfl, .inl ⟨rfl, rfl⟩⟩⟩, Below.refl _ _⟩
    case round =>
      obtain ⟨j, rfl, hj, hk, HO, HB⟩ := hrel
      by_cases hlt : j < n
      · have hd : decide ((j : Int) < n) = true := by simp; omega
        have hj0 : (0 : Int) ≤ j := by omega
        have hj1 : (j : Int) < n := by omega
        obtain ⟨x, hx⟩ : ∃ x, l[j]? = some x := ⟨_, List.getElem?_eq_getElem (by rw [HN.out]; exact hlt)⟩
        obtain ⟨hx1, hx2, hx3⟩ := HBD.out x (List.mem_of_getElem? hx)
        obtain ⟨av, hav, hcl⟩ := HC.out j x hx
        obtain ⟨aa, ac, rfl, hca⟩ := hav.cells
        obtain ⟨nm, hnm⟩ : ∃ nm : ByteArray, (⟨x.name.toArray⟩ : ByteArray) = nm := ⟨_, rfl⟩
        obtain ⟨tx, htx⟩ : ∃ tx : ByteArray, (⟨x.text.toArray⟩ : ByteArray) = tx := ⟨_, rfl⟩
        obtain ⟨na, hna⟩ : ∃ na, x.attrs.length = na := ⟨_, rfl⟩
        obtain ⟨nr, hnr⟩ : ∃ nr : ByteArray, (⟨(againL x.name).toArray⟩ : ByteArray) = nr := ⟨_, rfl⟩
        rw [hnm, htx, hna] at hcl
        rw [hna] at hca hx2
        obtain ⟨hnms, hnmL⟩ := sz_of hnm
        obtain ⟨htxs, htxL⟩ := sz_of htx
        obtain ⟨hnrs, hnrL⟩ := sz_of hnr
        have hnm9 : nm.size ≤ 1152921504606846976 := by omega
        have hrr : againL (L nm) = againL x.name := by rw [hnmL]
        have hnew : (l.take (j + 1)).map renE = (l.take j).map renE ++ [⟨L nr, x.attrs.map renA, L tx, x.up, x.at_⟩] := by
          rw [List.take_add_one, hx, List.map_append, hnrL, htxL]
          rfl
        have hlj : ((l.take j).map renE).length < 65537 := by rw [List.length_map, List.length_take]; omega
        have HLJ := Lib.hid hlj
        have HNEW := Lib.hid hnew
        have HCL := Lib.hid hcl
        have HCA := Lib.hid hca
        have HNR := Lib.hid hnr
        have HRR := Lib.hid hrr
        have HNA := Lib.hid hna
        have HX3 := Lib.hid hx3
        obtain ⟨gk0, rfl⟩ : ∃ z, z = gk := ⟨_, rfl⟩
        obtain ⟨W0, rfl⟩ : ∃ z, z = wr := ⟨_, rfl⟩
        obtain ⟨y0, y1, y2, y3, y4⟩ := HCL.out W0 HB.out
        clear hx hx1 hx3 hav hcl hca hnm htx hna hnr hnms hnmL htxs htxL hnrs hnrL hrr hnew hlj
        go_upto_region 6 with fail
        have zz := heap_alloc_new W0 (.cells #[.string nm, .slice aa na ac, .string tx, .int .i64 x.up, .int .i64 x.at_] 53)
        have hbA : Below W0.heap.size W0 (W0.alloc (.cells #[.string nm, .slice aa na ac, .string tx, .int .i64 x.up, .int .i64 x.at_] 53)) := (Below.refl _ _).alloc (Nat.le_refl _) _
        have hltA : W0.heap.size < (W0.alloc (.cells #[.string nm, .slice aa na ac, .string tx, .int .i64 x.up, .int .i64 x.at_] 53)).heap.size := by rw [sz_alloc]; omega
        generalize W0.alloc (.cells #[.string nm, .slice aa na ac, .string tx, .int .i64 x.up, .int .i64 x.at_] 53) = wa at zz hbA hltA ⊢
        have z0 : wa.cell? ⟨W0.heap.size, 0, none⟩ = some (.string nm) := cell_of_row _ _ 0 _ _ _ zz
        have HZZ := Lib.hid zz
        have HBA := Lib.hid hbA
        have HLA := Lib.hid hltA
        clear zz hbA hltA y0 y1 y2 y3 y4
        go_upto_region 7 with (go_at_call 68; go_must (refine (again_is nm _ hnm9 _ HRR.out).mono ?_); rw [HNR.out]; rintro e w1 ⟨rfl, hb1⟩; have zz1 := (hb1.block _ HLA.out).trans HZZ.out; clear z0; have z0 : w1.cell? ⟨W0.heap.size, 0, none⟩ = some (.string nm) := cell_of_row _ _ 0 _ _ _ zz1; have kf0 := not_frozen (i := 0) zz1; have HZ1 := Lib.hid zz1; have HB1 := Lib.hid (below_then HBA.out hb1); clear hb1 zz1)
        have hs2 := set_new HZ1.out (i := 0) (.string nr)
        generalize w1.setCell ⟨W0.heap.size, 0, none⟩ (.string nr) = w2 at hs2 ⊢
        have zz2 : w2.heap[W0.heap.size]? = some (.cells #[.string nr, .slice aa na ac, .string tx, .int .i64 x.up, .int .i64 x.at_] 53 (0, 0)) := hs2.1
        have k1 : w2.cell? ⟨W0.heap.size, 1, none⟩ = some (.slice aa na ac) := cell_of_row _ _ 1 _ _ _ zz2
        have kf1 := not_frozen (i := 1) zz2
        have hs3 := set_new zz2 (i := 1) (.slice none 0 0)
        have HR3 : Hid (RN W0 (w2.setCell ⟨W0.heap.size, 1, none⟩ (.slice none 0 0)) nr tx x.up x.at_ (.slice none 0 0) ((x.attrs.take 0).map renA)) :=
          ⟨hs3.1, ⟨rfl, .inl ⟨rfl, rfl⟩⟩, (HB1.out.trans (grown_below hs2.2 HB1.out.size (Nat.le_refl _))).trans (grown_below hs3.2 (Nat.le_trans HB1.out.size hs2.2.size) (Nat.le_refl _))⟩
        clear z0 kf0 hs2 hs3 zz2 HZ1 HB1 HZZ HBA HLA
        go_wp2_with fail
        go_loopg [6] (na + 1) (fun k2 q2 wr2 => ∃ (q : Nat) (a3 : Option Addr) (c3 : Nat), q2 = .int .i64 q ∧ q ≤ na ∧ na - q < k2 ∧ Hid (RN W0 wr2 nr tx x.up x.at_ (.slice a3 q c3) ((x.attrs.take q).map renA)))
        case atStart => exact ⟨0, none, 0, rfl, Nat.zero_le _, by omega, HR3⟩
        case round =>
          clear HR3 k1 kf1
          obtain ⟨q, a3, c3, rfl, hq, hk2, HR⟩ := hrel
          obtain ⟨-, y1, -, -, -⟩ := HCL.out wr (below_then HB.out HR.out.bel)
          by_cases hlt2 : q < na
          · have hd2 : decide ((q : Int) < na) = true := by simp; omega
            have hq0 : (0 : Int) ≤ q := by omega
            have hq1 : (q : Int) < na := by omega
            obtain ⟨ga, oa, rfl, hga, ha⟩ := HCA.out (by omega)
            obtain ⟨a, ha1⟩ : ∃ a, x.attrs[q]? = some a := ⟨_, List.getElem?_eq_getElem (by rw [HNA.out]; exact hlt2)⟩
            obtain ⟨hn1, hn2⟩ := HX3.out a (List.mem_of_getElem? ha1)
            obtain ⟨an, han⟩ : ∃ an : ByteArray, (⟨a.name.toArray⟩ : ByteArray) = an := ⟨_, rfl⟩
            obtain ⟨vl, hvl⟩ : ∃ vl : ByteArray, (⟨a.value.toArray⟩ : ByteArray) = vl := ⟨_, rfl⟩
            obtain ⟨u0, u1, u2⟩ := ha q a ha1 wr (below_then HB.out HR.out.bel)
            rw [han] at u0
            rw [hvl] at u1
            obtain ⟨hans, hanL⟩ := sz_of han
            obtain ⟨hvls, hvlL⟩ := sz_of hvl
            have han9 : an.size ≤ 1152921504606846976 := by omega
            have han10 : an.size ≤ 1152921504606846980 := by omega
            have hz1 : ¬ (9223372036854775807 < an.size + 1) := by omega
            have hnx : ∀ nn : ByteArray, L nn = (renA a).name → (x.attrs.take (q + 1)).map renA = (x.attrs.take q).map renA ++ [⟨L nn, L vl, a.at_⟩] := fun nn hnn => by
              rw [List.take_add_one, ha1, List.map_append, hvlL, hnn]
              rfl
            have hlen : ∀ m, ((x.attrs.take q).map renA ++ [m]).length = q + 1 := fun m => by
              rw [List.length_append, List.length_map, List.length_take, HNA.out]
              simp
              omega
            have hlq : ((x.attrs.take q).map renA).length < 65537 := by rw [List.length_map, List.length_take]; omega
            have HNX := Lib.hid hnx
            have HLEN := Lib.hid hlen
            have HLQ := Lib.hid hlq
            have HANL := Lib.hid hanL
            clear ha ha1 hn1 hn2 han hvl hans hanL hvls hvlL hnx hlen hlq
            go_upto_region 12 with fail
            have zz := heap_alloc_new wr (.cells #[.string an, .string vl, .int .i64 a.at_] 42)
            have hbB : Below wr.heap.size wr (wr.alloc (.cells #[.string an, .string vl, .int .i64 a.at_] 42)) := (Below.refl _ _).alloc (Nat.le_refl _) _
            have hltB : wr.heap.size < (wr.alloc (.cells #[.string an, .string vl, .int .i64 a.at_] 42)).heap.size := by rw [sz_alloc]; omega
            generalize wr.alloc (.cells #[.string an, .string vl, .int .i64 a.at_] 42) = wb at zz hbB hltB ⊢
            have z0 : wb.cell? ⟨wr.heap.size, 0, none⟩ = some (.string an) := cell_of_row _ _ 0 _ _ _ zz
            have HZZ := Lib.hid zz
            have HBB := Lib.hid hbB
            have HLB := Lib.hid hltB
            clear zz hbB hltB y1 u0 u1 u2
            by_cases hdd : (Sp.declares a.name).2 = true
            · have HD := Lib.hid hdd
              by_cases hxx : a.name = Sp.xmlnsB
              · have hx1 : (an.toList == [120, 109, 108, 110, 115]) = true := by rw [toList_L, HANL.out, hxx]; rfl
                have HNM : Hid (L an = (renA a).name) := by show _ = _; rw [HANL.out, renA_x hdd hxx]
                clear hdd hxx
                go_upto_region 16 with (go_at_call 35; go_must (refine (rdecl_calls an _ han10 true (by rw [HANL.out]; exact HD.out)).mono ?_); rintro e w1 ⟨rfl, hb1⟩; have zz1 := (hb1.block _ HLB.out).trans HZZ.out; have hl1 := Nat.lt_of_lt_of_le HLB.out hb1.size; clear z0; have z0 : w1.cell? ⟨wr.heap.size, 0, none⟩ = some (.string an) := cell_of_row _ _ 0 _ _ _ zz1; have kf0 := not_frozen (i := 0) zz1; have HZ1 := Lib.hid zz1; have HL1 := Lib.hid hl1; have HW1 := Lib.hid (below_then HBB.out hb1); clear hb1 zz1 hl1)
                have zz6 := HZ1.out
                have hb6 := HW1.out
                obtain ⟨w6, rfl⟩ : ∃ z, z = w1 := ⟨_, rfl⟩
                clear z0 kf0
                have HR6 := Lib.hid (HR.out.below hb6)
                have hblk := HR6.out.blk
                have k1 : w6.cell? ⟨W0.heap.size, 1, none⟩ = some (.slice a3 q c3) := cell_of_row _ _ 1 _ _ _ hblk
                have u0 : w6.cell? ⟨wr.heap.size, 0, none⟩ = some (.string an) := cell_of_row _ _ 0 _ _ _ zz6
                have u1 : w6.cell? ⟨wr.heap.size, 1, none⟩ = some (.string vl) := cell_of_row _ _ 1 _ _ _ zz6
                have u2 : w6.cell? ⟨wr.heap.size, 2, none⟩ = some (.int .i64 a.at_) := cell_of_row _ _ 2 _ _ _ zz6
                clear hb6 zz6 hblk
                go_wp2_with (at_builtin; refine wpList_appEA rfl (.tmp 56) (.tmp 58) rfl (base := W0.heap.size) (W := w6) ⟨L (an), L vl, a.at_⟩ (by rfl) HR6.out.eas HR6.out.bel.size HLQ.out #[.string an, .string vl, .int .i64 a.at_] (by simp only [eaCells, bs_L]) (by rfl) ?_; intro v8 w8 ho8 hg8 hb8; obtain ⟨a8, c8, hv8⟩ := own_len ho8; rw [HLEN.out] at hv8; subst hv8; obtain ⟨hp8, k1, kf1⟩ := HR6.out.put ho8 hg8 hb8; have HP8 := Lib.hid hp8; clear ho8 hg8 hb8 hp8)
                go_roundg (gk - 1)
                case measure => omega
                case rel =>
                  refine ⟨q + 1, a8, c8, by simp, by omega, by omega, ?_⟩
                  show RN _ _ _ _ _ _ _ _
                  rw [HNX.out (an) HNM.out]
                  exact HP8.out
              · have hx1 : (an.toList == [120, 109, 108, 110, 115]) = false := by rw [toList_L, HANL.out, beq_eq_false_iff_ne]; exact hxx
                have HNM : Hid (L (an ++ ⟨#[113]⟩) = (renA a).name) := by show _ = _; rw [renA_q hdd hxx, ← HANL.out]; simp [ByteArray.data_append]
                clear hdd hxx
                go_upto_region 16 with (go_at_call 35; go_must (refine (rdecl_calls an _ han10 true (by rw [HANL.out]; exact HD.out)).mono ?_); rintro e w1 ⟨rfl, hb1⟩; have zz1 := (hb1.block _ HLB.out).trans HZZ.out; have hl1 := Nat.lt_of_lt_of_le HLB.out hb1.size; clear z0; have z0 : w1.cell? ⟨wr.heap.size, 0, none⟩ = some (.string an) := cell_of_row _ _ 0 _ _ _ zz1; have kf0 := not_frozen (i := 0) zz1; have HZ1 := Lib.hid zz1; have HL1 := Lib.hid hl1; have HW1 := Lib.hid (below_then HBB.out hb1); clear hb1 zz1 hl1)
                have hs6 := set_new HZ1.out (i := 0) (.string (an ++ ⟨#[113]⟩))
                have hb6 := HW1.out.trans (grown_below hs6.2 HW1.out.size (Nat.le_refl wr.heap.size))
                generalize w1.setCell ⟨wr.heap.size, 0, none⟩ (.string (an ++ ⟨#[113]⟩)) = w6 at hs6 hb6 ⊢
                have zz6 : w6.heap[wr.heap.size]? = some (.cells #[.string (an ++ ⟨#[113]⟩), .string vl, .int .i64 a.at_] 42 (0, 0)) := hs6.1
                obtain ⟨aq, haq⟩ : ∃ aq : ByteArray, an ++ ⟨#[113]⟩ = aq := ⟨_, rfl⟩
                have HNQ : Hid (L aq = (renA a).name) := haq ▸ HNM
                rw [haq] at zz6
                clear z0 kf0 hs6 HNM
                have HNM := HNQ
                have HR6 := Lib.hid (HR.out.below hb6)
                have hblk := HR6.out.blk
                have k1 : w6.cell? ⟨W0.heap.size, 1, none⟩ = some (.slice a3 q c3) := cell_of_row _ _ 1 _ _ _ hblk
                have u0 : w6.cell? ⟨wr.heap.size, 0, none⟩ = some (.string aq) := cell_of_row _ _ 0 _ _ _ zz6
                have u1 : w6.cell? ⟨wr.heap.size, 1, none⟩ = some (.string vl) := cell_of_row _ _ 1 _ _ _ zz6
                have u2 : w6.cell? ⟨wr.heap.size, 2, none⟩ = some (.int .i64 a.at_) := cell_of_row _ _ 2 _ _ _ zz6
                clear hb6 zz6 hblk
                go_wp2_with (at_builtin; refine wpList_appEA rfl (.tmp 56) (.tmp 58) rfl (base := W0.heap.size) (W := w6) ⟨L (aq), L vl, a.at_⟩ (by rfl) HR6.out.eas HR6.out.bel.size HLQ.out #[.string aq, .string vl, .int .i64 a.at_] (by simp only [eaCells, bs_L]) (by rfl) ?_; intro v8 w8 ho8 hg8 hb8; obtain ⟨a8, c8, hv8⟩ := own_len ho8; rw [HLEN.out] at hv8; subst hv8; obtain ⟨hp8, k1, kf1⟩ := HR6.out.put ho8 hg8 hb8; have HP8 := Lib.hid hp8; clear ho8 hg8 hb8 hp8)
                go_roundg (gk - 1)
                case measure => omega
                case rel =>
                  refine ⟨q + 1, a8, c8, by simp, by omega, by omega, ?_⟩
                  show RN _ _ _ _ _ _ _ _
                  rw [HNX.out (aq) HNM.out]
                  exact HP8.out
            · have hdf : (Sp.declares a.name).2 = false := Bool.eq_false_iff.2 hdd
              have HD := Lib.hid hdf
              obtain ⟨rn, hrn⟩ : ∃ rn : ByteArray, (⟨(againL (L an)).toArray⟩ : ByteArray) = rn := ⟨_, rfl⟩
              have HNM : Hid (L rn = (renA a).name) := by show _ = _; rw [renA_n hdf, ← HANL.out, (sz_of hrn).2]
              have HAR := Lib.hid hrn
              clear hdd hdf hrn
              go_upto_region 16 with (first
                | (go_at_call 35; go_must (refine (rdecl_calls an _ han10 false (by rw [HANL.out]; exact HD.out)).mono ?_); rintro e w1 ⟨rfl, hb1⟩; have zz1 := (hb1.block _ HLB.out).trans HZZ.out; have hl1 := Nat.lt_of_lt_of_le HLB.out hb1.size; clear z0; have z0 : w1.cell? ⟨wr.heap.size, 0, none⟩ = some (.string an) := cell_of_row _ _ 0 _ _ _ zz1; have kf0 := not_frozen (i := 0) zz1; have HZ1 := Lib.hid zz1; have HL1 := Lib.hid hl1; have HW1 := Lib.hid (below_then HBB.out hb1); clear hb1 zz1 hl1)
                | (go_at_call 68; go_must (refine (again_is an _ han9 _ rfl).mono ?_); rw [HAR.out]; rintro e w2 ⟨rfl, hb2⟩; have zz2 := (hb2.block _ HL1.out).trans HZ1.out; clear z0 kf0; have z0 : w2.cell? ⟨wr.heap.size, 0, none⟩ = some (.string an) := cell_of_row _ _ 0 _ _ _ zz2; have kf0 := not_frozen (i := 0) zz2; have HZ2 := Lib.hid zz2; have HW2 := Lib.hid (below_then HW1.out hb2); clear hb2 zz2))
              have hs6 := set_new HZ2.out (i := 0) (.string rn)
              have hb6 := HW2.out.trans (grown_below hs6.2 HW2.out.size (Nat.le_refl wr.heap.size))
              generalize w2.setCell ⟨wr.heap.size, 0, none⟩ (.string rn) = w6 at hs6 hb6 ⊢
              have zz6 : w6.heap[wr.heap.size]? = some (.cells #[.string rn, .string vl, .int .i64 a.at_] 42 (0, 0)) := hs6.1
              clear z0 kf0 hs6
              have HR6 := Lib.hid (HR.out.below hb6)
              have hblk := HR6.out.blk
              have k1 : w6.cell? ⟨W0.heap.size, 1, none⟩ = some (.slice a3 q c3) := cell_of_row _ _ 1 _ _ _ hblk
              have u0 : w6.cell? ⟨wr.heap.size, 0, none⟩ = some (.string rn) := cell_of_row _ _ 0 _ _ _ zz6
              have u1 : w6.cell? ⟨wr.heap.size, 1, none⟩ = some (.string vl) := cell_of_row _ _ 1 _ _ _ zz6
              have u2 : w6.cell? ⟨wr.heap.size, 2, none⟩ = some (.int .i64 a.at_) := cell_of_row _ _ 2 _ _ _ zz6
              clear hb6 zz6 hblk
              go_wp2_with (at_builtin; refine wpList_appEA rfl (.tmp 56) (.tmp 58) rfl (base := W0.heap.size) (W := w6) ⟨L (rn), L vl, a.at_⟩ (by rfl) HR6.out.eas HR6.out.bel.size HLQ.out #[.string rn, .string vl, .int .i64 a.at_] (by simp only [eaCells, bs_L]) (by rfl) ?_; intro v8 w8 ho8 hg8 hb8; obtain ⟨a8, c8, hv8⟩ := own_len ho8; rw [HLEN.out] at hv8; subst hv8; obtain ⟨hp8, k1, kf1⟩ := HR6.out.put ho8 hg8 hb8; have HP8 := Lib.hid hp8; clear ho8 hg8 hb8 hp8)
              go_roundg (gk - 1)
              case measure => omega
              case rel =>
                refine ⟨q + 1, a8, c8, by simp, by omega, by omega, ?_⟩
                show RN _ _ _ _ _ _ _ _
                rw [HNX.out (rn) HNM.out]
                exact HP8.out
          · have hq' : na = q := by omega
            subst hq'
            have hd2 : decide ((na : Int) < na) = false := by simp
            have hblk := HR.out.blk
            have x0 : wr.cell? ⟨W0.heap.size, 0, none⟩ = some (.string nr) := cell_of_row _ _ 0 _ _ _ hblk
            have x1 : wr.cell? ⟨W0.heap.size, 1, none⟩ = some (.slice a3 na c3) := cell_of_row _ _ 1 _ _ _ hblk
            have x2 : wr.cell? ⟨W0.heap.size, 2, none⟩ = some (.string tx) := cell_of_row _ _ 2 _ _ _ hblk
            have x3 : wr.cell? ⟨W0.heap.size, 3, none⟩ = some (.int .i64 x.up) := cell_of_row _ _ 3 _ _ _ hblk
            have x4 : wr.cell? ⟨W0.heap.size, 4, none⟩ = some (.int .i64 x.at_) := cell_of_row _ _ 4 _ _ _ hblk
            have heas : EasAt w.heap.size wr (.slice a3 na c3) (x.attrs.map renA) := by
              have := HR.out.eas
              rw [List.take_of_length_le (by rw [HNA.out]; exact Nat.le_refl _)] at this
              exact row_lower this HB.out.size
            have HEA := Lib.hid heas
            have HBW := Lib.hid (below_then HB.out HR.out.bel)
            have HOW := Lib.hid (HO.out.below HR.out.bel)
            clear hblk heas
            go_wp2_with (at_builtin; refine wpList_appEE rfl (.tmp 61) (.tmp 63) rfl (base := w.heap.size) (W := wr) (av := .slice a3 na c3) ⟨L nr, x.attrs.map renA, L tx, x.up, x.at_⟩ (by rfl) HOW.out HEA.out HBW.out.size HLJ.out #[.string nr, .slice a3 na c3, .string tx, .int .i64 x.up, .int .i64 x.at_] (by simp only [eeCells, bs_L]) (by rfl) ?_; intro v7 w7 ho7 hb7; have HO7 := Lib.hid ho7; have HB7 := Lib.hid (HBW.out.trans hb7); clear ho7 hb7)
            go_roundg (gk0 - 1)
            case measure => omega
            case rel =>
              refine ⟨j + 1, by simp, by omega, by omega, ?_, HB7⟩
              show ElsAt _ _ _ _
              rw [HNEW.out]
              exact HO7.out
      · have hj' : n = j := by omega
        subst hj'
        have hd : decide ((n : Int) < n) = false := by simp
        go_wp2_with fail
        go_ret
        have h := HO.out
        rw [List.take_of_length_le (by rw [HN.out]; exact Nat.le_refl _)] at h
        exact ⟨_, rfl, h, HB.out⟩
end Go.Proofs.YtokdclmikllepaaGreatDoor
namespace Go.Proofs.YtokdclmikllepaaGreatDoor
open Go.RowKit
set_option linter.unusedVariables false
set_option linter.unusedSimpArgs false

/-! ### law10.awake -/
theorem SasAt.cell {B : Nat} {w : World} {v : Value} {l : List Sp.SA} (h : SasAt B w v l) (h0 : 0 < l.length) :
    ∃ g cap, v = .slice (some ⟨g, 0, none⟩) l.length cap ∧ B ≤ g ∧ g < w.heap.size ∧ ∀ i x, l[i]? = some x →
      w.cell? ⟨g, i * 4, none⟩ = some (.string ⟨x.space.toArray⟩) ∧ w.cell? ⟨g, i * 4 + 1, none⟩ = some (.string ⟨x.name.toArray⟩) ∧ w.cell? ⟨g, i * 4 + 2, none⟩ = some (.string ⟨x.value.toArray⟩) ∧ w.cell? ⟨g, i * 4 + 3, none⟩ = some (.int .i64 x.at_) := by
  obtain ⟨g, cap, rfl, hb, hlt, hc⟩ := ownsRow_cells h h0
  refine ⟨g, cap, rfl, hb, hlt, fun i a ha => ?_⟩
  have hf := fun k hk => flat_get saCells 4 (fun _ => rfl) l i k hk
  refine ⟨hc _ _ ?_, hc _ _ ?_, hc _ _ ?_, hc _ _ ?_⟩
  · rw [show i * 4 = i * 4 + 0 from rfl, hf 0 (by omega), ha]; rfl
  · rw [hf 1 (by omega), ha]; rfl
  · rw [hf 2 (by omega), ha]; rfl
  · rw [hf 3 (by omega), ha]; rfl
theorem SesAt.cell {B : Nat} {w : World} {v : Value} {l : List Sp.SE} (h : SesAt B w v l) (h0 : 0 < l.length) :
    ∃ g cap, v = .slice (some ⟨g, 0, none⟩) l.length cap ∧ B ≤ g ∧ g < w.heap.size ∧ ∀ i x, l[i]? = some x → ∃ av, SasAt B w av x.attrs ∧
      w.cell? ⟨g, i * 6, none⟩ = some (.string ⟨x.space.toArray⟩) ∧ w.cell? ⟨g, i * 6 + 1, none⟩ = some (.string ⟨x.name.toArray⟩) ∧ w.cell? ⟨g, i * 6 + 2, none⟩ = some av ∧ w.cell? ⟨g, i * 6 + 3, none⟩ = some (.string ⟨x.text.toArray⟩) ∧
      w.cell? ⟨g, i * 6 + 4, none⟩ = some (.int .i64 x.up) ∧ w.cell? ⟨g, i * 6 + 5, none⟩ = some (.int .i64 x.at_) := by
  obtain ⟨ps, hps, hat, hown⟩ := h
  have hpl : ps.length = l.length := by rw [← hps, List.length_map]
  obtain ⟨g, cap, rfl, hb, hlt, hc⟩ := ownsRow_cells hown (by omega)
  refine ⟨g, cap, by rw [hpl], hb, hlt, fun i x hx => ?_⟩
  rw [← hps, List.getElem?_map] at hx
  obtain ⟨y, hy, rfl⟩ := Option.map_eq_some_iff.1 hx
  have hf := fun k hk => flat_get (fun x : Sp.SE × Value => seCells x.1 x.2) 6 (fun _ => rfl) ps i k hk
  refine ⟨y.2, hat y (List.mem_of_getElem? hy), hc _ _ ?_, hc _ _ ?_, hc _ _ ?_, hc _ _ ?_, hc _ _ ?_, hc _ _ ?_⟩
  · rw [show i * 6 = i * 6 + 0 from rfl, hf 0 (by omega), hy]; rfl
  · rw [hf 1 (by omega), hy]; rfl
  · rw [hf 2 (by omega), hy]; rfl
  · rw [hf 3 (by omega), hy]; rfl
  · rw [hf 4 (by omega), hy]; rfl
  · rw [hf 5 (by omega), hy]; rfl
def sdoc1 : ByteArray := ⟨#[60, 97, 32, 120, 109, 108, 110, 115, 61, 34, 117, 34, 32, 120, 109, 108, 110, 115, 58, 112, 61, 34, 118, 34, 32, 112, 58, 107, 61, 34, 49, 34, 32, 107, 61, 34, 50, 34, 62, 60, 112, 58, 98, 47, 62, 60, 47, 97, 62]⟩
def sels1 : List Sp.EE := [⟨[97], [⟨[120, 109, 108, 110, 115], [117], 3⟩, ⟨[120, 109, 108, 110, 115, 58, 112], [118], 13⟩, ⟨[112, 58, 107], [49], 25⟩, ⟨[107], [50], 33⟩], [], -1, 0⟩, ⟨[112, 58, 98], [], [], 0, 39⟩]
def sres1 : List Sp.SE := [⟨[117], [97], [⟨[118], [107], [49], 25⟩, ⟨[], [107], [50], 33⟩], [], -1, 0⟩, ⟨[118], [98], [], [], 0, 39⟩]
def sels2 : List Sp.EE := [⟨[112, 58, 97], [], [], -1, 0⟩]
set_option maxRecDepth 100000 in
theorem sdoc1_parse : Sp.parse (L sdoc1) = .ok sels1 := by rfl
set_option maxRecDepth 100000 in
theorem sels1_res : Sp.resolve sels1 = .ok sres1 := by rfl
theorem sels2_res : Sp.resolve sels2 = .error (0, 101) := by rfl
theorem sels1_bd : ∀ x ∈ sels1, NE x := by
  unfold sels1 NE NB
  decide
theorem sels2_bd : ∀ x ∈ sels2, NE x := by
  unfold sels2 NE NB
  decide
theorem sels2_R (w : World) : ElsR (w.alloc (.cells #[.string ⟨#[112, 58, 97]⟩, .slice none 0 0, .string ⟨#[]⟩, .int .i64 (-1), .int .i64 0] 53)) (.slice (some ⟨w.heap.size, 0, none⟩) 1 1) sels2 := by
  refine ⟨_, 1, rfl, fun _ => ⟨w.heap.size, 0, rfl, by rw [sz_alloc]; omega, fun i x hx => ?_⟩⟩
  have zz := heap_alloc_new w (.cells #[.string ⟨#[112, 58, 97]⟩, .slice none 0 0, .string ⟨#[]⟩, .int .i64 (-1), .int .i64 0] 53)
  cases i with
  | succ i => cases i <;> cases hx
  | zero =>
    cases hx
    refine ⟨.slice none 0 0, ⟨none, 0, rfl, fun h => absurd h (Nat.lt_irrefl 0)⟩, cell_of_row _ _ 0 _ _ _ zz, cell_of_row _ _ 1 _ _ _ zz, cell_of_row _ _ 2 _ _ _ zz, cell_of_row _ _ 3 _ _ _ zz, cell_of_row _ _ 4 _ _ _ zz⟩
theorem resolve_ok (w : World) (v : Value) (l : List Sp.EE) (h : ElsR w v l) (hl : l.length ≤ 1000) (hbd : ∀ x ∈ l, NE x) (r : List Sp.SE) (hR : Sp.resolve l = .ok r) :
    Calls Tryz.prog 31 #[v] w fun e w' => (∃ v', e = .returned (.tuple #[v', .int .i64 0, .int .i64 0]) ∧ SesAt w.heap.size w' v' r) ∧ Below w.heap.size w w' :=
  (resolve_calls w v l h hl hbd _ hR).mono fun e w' ⟨hb, he⟩ => ⟨he, hb⟩
theorem resolve_err (w : World) (v : Value) (l : List Sp.EE) (h : ElsR w v l) (hl : l.length ≤ 1000) (hbd : ∀ x ∈ l, NE x) (f : Sp.FltI) (hR : Sp.resolve l = .error f) :
    Calls Tryz.prog 31 #[v] w fun e w' => e = .returned (.tuple #[.slice none 0 0, .int .i64 f.1, .int .i64 (f.2 : Int)]) ∧ Below w.heap.size w w' :=
  (resolve_calls w v l h hl hbd _ hR).mono fun e w' ⟨hb, he⟩ => ⟨he, hb⟩

set_option maxHeartbeats 8000000 in
set_option maxRecDepth 100000 in
theorem sawake_calls (w : World) (hG : Gl w) : Calls Tryz.prog 29 #[] w fun e w' => e = .returned (.bool true) ∧ Below w.heap.size w w' := by
  have HG := Lib.hid hG
  clear hG
  go_enter Tryz.func29, Tryz.ntmps29
  go_wp2_with fail
  refine (parse_is sdoc1 _ HG.out (by decide) _ sdoc1_parse).mono ?_
  rintro e w1 ⟨hb1, v, rfl, hm⟩
  have HR := Lib.hid hm.toR
  have h9 := hm.toR
  obtain ⟨a1, c1, rfl, -⟩ := h9
  have HB1 := Lib.hid hb1
  clear hb1 hm
  go_wp2_with fail
  refine (resolve_ok _ _ sels1 HR.out (by decide) sels1_bd _ sels1_res).mono ?_
  rintro e w2 ⟨⟨v2, rfl, hm2⟩, hb2⟩
  obtain ⟨g, cap, rfl, hg1, hg2, hc⟩ := hm2.cell (by decide)
  obtain ⟨av, hat, c0, c1, c2, c3, c4, c5⟩ := hc 0 _ rfl
  obtain ⟨av', hat', d0, d1, d2, d3, d4, d5⟩ := hc 1 _ rfl
  obtain ⟨ga, capa, rfl, hga1, hga2, hca⟩ := hat.cell (by decide)
  obtain ⟨a0, -, -, -⟩ := hca 0 _ rfl
  obtain ⟨b0, -, -, -⟩ := hca 1 _ rfl
  have HB2 := Lib.hid (below_then HB1.out hb2)
  clear hc hat hat' hm2 hca hb2
  go_wp2_with fail
  refine (resolve_err _ _ sels2 (sels2_R w2) (by decide) sels2_bd _ sels2_res).mono ?_
  rintro e w3 ⟨rfl, hb3⟩
  have hb4 := below_then ((Below.refl _ w2).alloc (Nat.le_refl _) _) hb3
  have k : ∀ b i u, b < w2.heap.size → w2.cell? ⟨b, i, none⟩ = some u → w3.cell? ⟨b, i, none⟩ = some u := fun b i u hb h => (World.cell?_of_block (hb4.block b hb)).trans h
  have e0 := k _ _ _ hg2 c0
  have e1 := k _ _ _ hg2 c1
  have e2 := k _ _ _ hg2 c2
  have f0 := k _ _ _ hg2 d0
  have f1 := k _ _ _ hg2 d1
  have f4 := k _ _ _ hg2 d4
  have u0 := k _ _ _ hga2 a0
  have u1 := k _ _ _ hga2 b0
  have HB3 := Lib.hid (below_then HB2.out hb4)
  clear k c0 c1 c2 c3 c4 c5 d0 d1 d2 d3 d4 d5 a0 b0 hb3 hb4 HB1 HR HB2
  simp only [Nat.zero_mul, Nat.zero_add, Nat.one_mul, Nat.reduceAdd] at e0 e1 e2 f0 f1 f4 u0 u1
  go_wp2_with fail
  go_ret
  exact ⟨rfl, HB3.out⟩
end Go.Proofs.YtokdclmikllepaaGreatDoor
namespace Go.Proofs.YtokdclmikllepaaGreatDoor
open Go.RowKit
set_option linter.unusedVariables false
set_option linter.unusedSimpArgs false

/-! ### SpacesTurned -/
theorem elemS_code {scs : List Sp.Sc} {i : Nat} {x : Sp.EE} {f : Sp.FltI} (h : Sp.elemS scs i x = .error f) : f.2 ≠ 0 := by
  unfold Sp.elemS at h
  split at h
  · cases h; exact (by decide : (101 : Nat) ≠ 0)
  · split at h
    · rename_i f' hf
      cases h
      rw [withS_code _ _ _ hf]
      decide
    · split at h
      · cases h; exact (by decide : (101 : Nat) ≠ 0)
      · split at h
        · rename_i hf
          cases h
          exact attrsS_code _ _ _ _ _ hf
        · cases h
theorem runS_code : ∀ (t : List Sp.EE) (i : Nat) (scs : List Sp.Sc) (acc : List Sp.SE) (f : Sp.FltI), Sp.runS i scs t acc = .error f → f.2 ≠ 0
  | [], i, scs, acc, f, h => by rw [Sp.runS] at h; cases h
  | x :: t, i, scs, acc, f, h => by
    rw [Sp.runS] at h
    split at h
    · rename_i hf
      cases h
      exact elemS_code hf
    · exact runS_code t _ _ _ f h
theorem resolve_code {l : List Sp.EE} {f : Sp.FltI} (h : Sp.resolve l = .error f) : f.2 ≠ 0 := by
  unfold Sp.resolve at h
  split at h
  · exact runS_code _ _ _ _ _ h
  · cases h; exact (by decide : (2 : Nat) ≠ 0)
theorem resolve_bd {l : List Sp.EE} {r : List Sp.SE} (h : Sp.resolve l = .ok r) (hl : l.length ≤ 151) (hb : ∀ x ∈ l, x.attrs.length ≤ 302) : r.length ≤ 4096 ∧ ∀ y ∈ r, y.attrs.length ≤ 100000 := by
  obtain ⟨h1, _, h3⟩ := resolve_at h
  refine ⟨by omega, fun y hy => ?_⟩
  obtain ⟨k, hk, rfl⟩ := List.mem_iff_getElem.1 hy
  have hx := List.getElem?_eq_getElem (l := l) (i := k) (by omega)
  obtain ⟨sc, sp, la, _, _, _, _, _, g6, g7⟩ := h3 k _ hx
  rw [List.getElem?_eq_getElem hk] at g7
  injection g7 with g7
  rw [g7]
  have := attrsS_len sc _ _ _ _ g6
  have := hb _ (List.mem_of_getElem? hx)
  simp at *
  omega
theorem nes_of {l : List Sp.EE} (hb : ∀ x ∈ l, BigBd x) (hs : (l.map (fun x => x.attrs.length)).sum ≤ 300) : ∀ x ∈ l, NEs x := fun x hx => by
  obtain ⟨h1, h2, h3, h4⟩ := hb x hx
  have := sum_mem (fun x : Sp.EE => x.attrs.length) l x hx
  exact ⟨by omega, by omega, fun a ha => by have := h4 a ha; exact ⟨by omega, by omega⟩⟩
theorem NEs.ne {x : Sp.EE} (h : NEs x) : NE x := ⟨by have := h.1; omega, by have := h.2.1; omega, fun a ha => by have := h.2.2 a ha; exact ⟨by have := this.1; omega, by have := this.2; omega⟩⟩
theorem ren_ne {x : Sp.EE} (h : NEs x) : NE (renE x) := by
  obtain ⟨h1, h2, h3⟩ := h
  refine ⟨?_, ?_, fun a ha => ?_⟩
  · have := again_len x.name
    show (againL x.name).length ≤ _
    omega
  · show (x.attrs.map renA).length ≤ _
    rw [List.length_map]
    omega
  · obtain ⟨b, hb, rfl⟩ := List.mem_map.1 ha
    obtain ⟨k1, k2⟩ := h3 b hb
    refine ⟨?_, by show b.value.length ≤ _; omega⟩
    unfold renA
    simp only
    split
    · split
      · omega
      · rw [List.length_append]
        show _ + 1 ≤ _
        omega
    · have := again_len b.name
      omega

set_option maxHeartbeats 8000000 in
set_option maxRecDepth 100000 in
theorem turned10_calls (w : World) (v : Value) (l : List Sp.EE) (hG : Gl w) (h : ElsR w v l) (hl : l.length ≤ 140737488351232) (hb : ∀ x ∈ l, BigBd x) :
    Calls Tryz.prog 6 #[v] w fun e w' => e = .returned (.bool true) ∧ Below w.heap.size w w' := by
  have HG := Lib.hid hG
  have HE := Lib.hid h
  obtain ⟨a1, c1, rfl, -⟩ := h
  have HBD := Lib.hid hb
  have HL := Lib.hid hl
  clear hG hb hl
  go_enter Tryz.func6, Tryz.ntmps6
  go_wp2_with fail
  refine (sawake_calls _ HG.out).mono ?_
  rintro e w1 ⟨rfl, hb1⟩
  have HB1 := Lib.hid hb1
  clear hb1
  go_wp2_with fail
  refine (few10_calls _ _ l (HE.out.below HB1.out) HL.out (fun x hx => (HBD.out x hx).2.2.1)).mono ?_
  rintro e w2 ⟨b, rfl, hb2, hfw⟩
  have HB2 := Lib.hid (below_then HB1.out hb2)
  clear hb2
  cases b with
  | false =>
    clear hfw
    go_wp2_with fail
    refine (sawake_calls _ (HG.out.below HB2.out)).mono ?_
    rintro e w3 ⟨rfl, hb3⟩
    have HB3 := Lib.hid (below_then HB2.out hb3)
    clear hb3
    go_wp2_with fail
    go_ret
    exact ⟨rfl, HB3.out⟩
  | true =>
    obtain ⟨hn, hsum⟩ := hfw rfl
    have HNS := Lib.hid (nes_of HBD.out hsum)
    have HL1 : Hid (l.length ≤ 1000) := by show _ ≤ _; omega
    have HL2 := Lib.hid hn
    cases hR : Sp.resolve l with
    | error f =>
      have hf := resolve_code hR
      have hfz : ((f.2 : Int) != 0) = true := by rw [bne_iff_ne]; omega
      have HR := Lib.hid hR
      clear hfw hn hsum hR hf
      go_wp2_with fail
      refine (resolve_err _ _ l (HE.out.below HB2.out) HL1.out (fun x hx => (HNS.out x hx).ne) f HR.out).mono ?_
      rintro e w3 ⟨rfl, hb3⟩
      have HB3 := Lib.hid (below_then HB2.out hb3)
      clear hb3
      go_wp2_with fail
      go_ret
      exact ⟨rfl, HB3.out⟩
    | ok r =>
      have HR := Lib.hid hR
      have HBR := Lib.hid (resolve_bd hR hn (fun x hx => by have := (HNS.out x hx).2.1; omega))
      have HLR0 : (l.map renE).length ≤ 1000 := by rw [List.length_map]; exact HL1.out
      have HNR0 : ∀ x ∈ l.map renE, NE x := fun x hx => by
        obtain ⟨y, hy, rfl⟩ := List.mem_map.1 hx
        exact ren_ne (HNS.out y hy)
      have HR20 := turnedS_law l r hR
      obtain ⟨m, hm⟩ : ∃ m, l.map renE = m := ⟨_, rfl⟩
      rw [hm] at HLR0 HNR0 HR20
      have HM := Lib.hid hm
      have HLR := Lib.hid HLR0
      have HNR := Lib.hid HNR0
      have HR2 := Lib.hid HR20
      clear hm HLR0 HNR0 HR20
      clear hfw hn hsum hR
      go_wp2_with fail
      refine (resolve_ok _ _ l (HE.out.below HB2.out) HL1.out (fun x hx => (HNS.out x hx).ne) r HR.out).mono ?_
      rintro e w3 ⟨⟨v3, rfl, hm3⟩, hb3⟩
      have HM3 := Lib.hid hm3.toR
      obtain ⟨a3, c3, rfl, -⟩ := hm3.toR
      have HB3 := Lib.hid (below_then HB2.out hb3)
      clear hb3 hm3
      go_wp2_with fail
      refine (renamed_calls _ _ l (HE.out.below HB3.out) HL2.out HNS.out).mono ?_
      rw [HM.out]
      rintro e w4 ⟨v4, rfl, he4, hb4⟩
      have HE4 := Lib.hid he4.toR
      obtain ⟨a4, c4, rfl, -⟩ := he4.toR
      have HM4 := Lib.hid (HM3.out.below hb4)
      have HB4 := Lib.hid (below_then HB3.out hb4)
      clear hb4 he4
      go_wp2_with fail
      refine (resolve_ok _ _ m HE4.out HLR.out HNR.out r HR2.out).mono ?_
      rintro e w5 ⟨⟨v5, rfl, hm5⟩, hb5⟩
      have HM5 := Lib.hid hm5.toR
      obtain ⟨a5, c5, rfl, -⟩ := hm5.toR
      have HM4b := Lib.hid (HM4.out.below hb5)
      have HB5 := Lib.hid (below_then HB4.out hb5)
      clear hb5 hm5
      go_wp2_with fail
      refine (same10_calls _ _ _ r HM4b.out HM5.out HBR.out.1 HBR.out.2).mono ?_
      rintro e w6 ⟨rfl, hb6⟩
      have HB6 := Lib.hid (below_then HB5.out hb6)
      clear hb6
      go_wp2_with fail
      go_ret
      exact ⟨rfl, HB6.out⟩
end Go.Proofs.YtokdclmikllepaaGreatDoor
