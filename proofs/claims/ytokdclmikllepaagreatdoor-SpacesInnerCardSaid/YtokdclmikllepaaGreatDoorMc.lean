import Derived.Test.YtokdclmikllepaaGreatDoorMb
import Derived.Maps.OwnSet
import Derived.DeepKeys4
import Derived.Test.YtokdclmikllepaaGreatDoorLya
import Derived.Laws.MakeOwn
namespace Go.Proofs.YtokdclmikllepaaGreatDoor
open Go.RowKit Go.Maps
set_option linter.unusedVariables false
set_option linter.unusedSimpArgs false

/-! ### the names that were met: a map whose keys are structs of two texts -/
theorem keyFullLaw : WideMaps.KeyLaw Tryz.prog 161 := deep_law (m := 3) (by omega) (by kernel_rfl) (by kernel_rfl) (by kernel_rfl)
theorem keyFull : Keyed Tryz.prog 161 := Keyed.of_law keyFullLaw
def kfL (a b : ByteArray) : Lit := .string (keyBytes [.string a.data.toList, .string b.data.toList])
theorem succ_of {n : Nat} (h : 0 < n) : ∃ m, n = m + 1 := ⟨n - 1, by omega⟩
set_option maxRecDepth 100000 in
theorem keyF {a b : ByteArray} (ha : a.size ≤ maxLen) (hb : b.size ≤ maxLen) : keyOf Tryz.prog 161 (.agg #[.string a, .string b]) = some (kfL a b) := by
  have hu := Tryz.underlying161
  have h9 := Tryz.underlying9
  have hkt : Tryz.prog.keyType 161 = true := by kernel_rfl
  have hc : Tryz.prog.cellsOf 161 = 2 := by kernel_rfl
  have hc9 : Tryz.prog.cellsOf 9 = 1 := by kernel_rfl
  have h0 : 0 < Tryz.prog.types.size := of_decide_eq_true (by kernel_rfl)
  obtain ⟨m, hm⟩ := succ_of h0
  have hf : (Value.agg #[.string a, .string b]).formed Tryz.prog 161 = true := by
    unfold Value.formed
    rw [hu]
    simp [hc]
  unfold keyOf
  rw [hu]
  simp only [hkt, hf, hm, Bool.and_self, if_true]
  unfold Program.keyLits
  rw [hu]
  simp only [Value.cells]
  simp [hc, Program.keyLits, h9, hc9, ha, hb, kfL]
def Met2 (D : DataW Unit) (seen : List (List UInt8 × List UInt8)) : Prop := ∀ a b : ByteArray, a.size ≤ maxLen → b.size ≤ maxLen → D.atKey (kfL a b) (.lit (.bool false)) = .lit (.bool (seen.contains (L a, L b)))
theorem met2_nil : Met2 (.map []) [] := fun _ _ _ _ => rfl
theorem kfL_inj {a b a' b' : ByteArray} (ha : a.size ≤ maxLen) (hb : b.size ≤ maxLen) (ha' : a'.size ≤ maxLen) (hb' : b'.size ≤ maxLen) (h : kfL a b = kfL a' b') : a = a' ∧ b = b' := by
  have h1 := keyF ha hb
  rw [h] at h1
  have h2 := keyFullLaw.inj h1 (keyF ha' hb')
  injection h2 with h2
  have h3 : [Value.string a, .string b] = [.string a', .string b'] := by simpa using congrArg Array.toList h2
  injection h3 with h3 h4
  injection h4 with h4 _
  injection h3 with h3
  injection h4 with h4
  exact ⟨h3, h4⟩
theorem met2_put {D : DataW Unit} {seen : List (List UInt8 × List UInt8)} (h : Met2 D seen) (hD : IsMap D) {a b : ByteArray} (ha : a.size ≤ maxLen) (hb : b.size ≤ maxLen) : Met2 (D.put (kfL a b) (.lit (.bool true))) ((L a, L b) :: seen) := by
  intro a' b' ha' hb'
  by_cases hu : a' = a ∧ b' = b
  · obtain ⟨rfl, rfl⟩ := hu
    rw [atKey_put_same (k := kfL a' b') hD trivial]
    simp
  · rw [atKey_put_other (by intro e; exact hu (kfL_inj ha' hb' ha hb e)), h a' b' ha' hb']
    have hne : (L a', L b') ≠ (L a, L b) := by
      intro e
      injection e with e1 e2
      exact hu ⟨by rw [← bs_L a', ← bs_L a, e1], by rw [← bs_L b', ← bs_L b, e2]⟩
    simp [List.contains_cons, hne]
end Go.Proofs.YtokdclmikllepaaGreatDoor
namespace Go.Proofs.YtokdclmikllepaaGreatDoor
open Go.RowKit Go.Maps
set_option linter.unusedVariables false
set_option linter.unusedSimpArgs false

/-! ### spaces.scope.attrs -/
theorem attrsS_decl1 {sc : Sp.Sc} {a : Sp.EA} {t : List Sp.EA} {seen : List (List UInt8 × List UInt8)} {acc : List Sp.SA} {dp : List UInt8} (hd : Sp.declares a.name = (dp, true)) : Sp.attrsS sc seen (a :: t) acc = Sp.attrsS sc seen t acc := by
  rw [Sp.attrsS, hd, if_pos rfl]
theorem attrsS_none1 {sc : Sp.Sc} {a : Sp.EA} {t : List Sp.EA} {seen : List (List UInt8 × List UInt8)} {acc : List Sp.SA} {dp : List UInt8} (hd : Sp.declares a.name = (dp, false)) (hs : Sp.spaceA sc a = none) : Sp.attrsS sc seen (a :: t) acc = .error (a.at_, 101) := by
  rw [Sp.attrsS, hd, if_neg Bool.false_ne_true, hs]
theorem attrsS_twice1 {sc : Sp.Sc} {a : Sp.EA} {t : List Sp.EA} {seen : List (List UInt8 × List UInt8)} {acc : List Sp.SA} {dp s cp cl : List UInt8} {cb : Bool} (hd : Sp.declares a.name = (dp, false)) (hs : Sp.spaceA sc a = some s) (hc : Sp.cut a.name = (cp, cl, cb)) (hm : seen.contains (s, cl) = true) : Sp.attrsS sc seen (a :: t) acc = .error (a.at_, 92) := by
  rw [Sp.attrsS, hd, if_neg Bool.false_ne_true, hs]
  simp only [hc]
  rw [if_pos hm]
theorem attrsS_new1 {sc : Sp.Sc} {a : Sp.EA} {t : List Sp.EA} {seen : List (List UInt8 × List UInt8)} {acc : List Sp.SA} {dp s cp cl : List UInt8} {cb : Bool} (hd : Sp.declares a.name = (dp, false)) (hs : Sp.spaceA sc a = some s) (hc : Sp.cut a.name = (cp, cl, cb)) (hm : seen.contains (s, cl) = false) :
    Sp.attrsS sc seen (a :: t) acc = Sp.attrsS sc ((s, cl) :: seen) t (acc ++ [⟨s, cl, a.value, a.at_⟩]) := by
  rw [Sp.attrsS, hd, if_neg Bool.false_ne_true, hs]
  simp only [hc]
  rw [if_neg (by rw [hm]; exact Bool.false_ne_true)]
structure AI (w wr : World) (j : Nat) (D : DataW Unit) (seen : List (List UInt8 × List UInt8)) (out : Value) (acc : List Sp.SA) : Prop where
  own : wr.ownsMap Tryz.prog 161 (plainElem Tryz.prog 4) w.heap.size j D
  met : Met2 D seen
  sas : SasAt w.heap.size wr out acc
  bel : Below w.heap.size w wr
theorem AI.below {w wr w' : World} {j : Nat} {D : DataW Unit} {seen : List (List UInt8 × List UInt8)} {out : Value} {acc : List Sp.SA} (h : AI w wr j D seen out acc) (hb : Below wr.heap.size wr w') : AI w w' j D seen out acc :=
  ⟨h.own.kept (grown_none hb) (by simp), h.met, h.sas.below hb, below_then h.bel hb⟩
theorem AI.skip {w wr : World} {j : Nat} {D : DataW Unit} {seen : List (List UInt8 × List UInt8)} {out : Value} {acc : List Sp.SA} (h : AI w wr j D seen out acc) : AI w wr (j + 1) D seen out acc :=
  ⟨h.own.mono (by omega), h.met, h.sas, h.bel⟩
theorem AI.ne {w wr : World} {j : Nat} {D : DataW Unit} {seen : List (List UInt8 × List UInt8)} {out : Value} {acc : List Sp.SA} (h : AI w wr j D seen out acc) : out.ownBlock ≠ some w.heap.size := by
  obtain ⟨es, c, hb, _⟩ := h.own
  exact row_ne_map h.sas hb
theorem AI.upd {w wr w4 : World} {j : Nat} {D : DataW Unit} {seen : List (List UInt8 × List UInt8)} {out : Value} {acc : List Sp.SA} (h : AI w wr j D seen out acc) {a b : ByteArray} (ha : a.size ≤ maxLen) (hb : b.size ≤ maxLen)
    (hown : w4.ownsMap Tryz.prog 161 (plainElem Tryz.prog 4) w.heap.size (j + 1) (D.put (kfL a b) (.lit (.bool true)))) (hg : wr.grownBy w4 (some w.heap.size)) : AI w w4 (j + 1) (D.put (kfL a b) (.lit (.bool true))) ((L a, L b) :: seen) out acc :=
  ⟨hown, met2_put h.met (h.own.tidy keyFull).isMap ha hb, World.ownsRow.kept h.sas hg (.inr h.ne), h.bel.grown hg h.bel.size (fun j hj => by cases hj; exact Nat.le_refl _)⟩
theorem AI.app {w w4 w5 : World} {o : Obj} {j : Nat} {D : DataW Unit} {seen : List (List UInt8 × List UInt8)} {out v5 : Value} {acc acc5 : List Sp.SA} (h : AI w w4 j D seen out acc) (ho : SasAt w.heap.size w5 v5 acc5) (hg : (w4.alloc o).grownBy w5 out.ownBlock) (hb : Below w.heap.size w4 w5) : AI w w5 j D seen v5 acc5 :=
  ⟨(h.own.alloc o).kept hg (fun e => h.ne e.symm), h.met, ho, h.bel.trans hb⟩
theorem smeans_none (w : World) (b n : Nat) (sc : Sp.Sc) (hS : ScAt w b n sc) (k : ByteArray) (hk : k.size ≤ maxLen) (h : sc.lookup (L k) = none) :
    Calls Tryz.prog 66 #[.map (some b), .string k] w fun e w' => (∃ (s : ByteArray), e = .returned (.tuple #[.string s, .bool false])) ∧ w' = w :=
  (smeans_calls w b n sc hS k hk).mono fun e w' ⟨⟨s, c, he, h1, h2, _⟩, hw⟩ => by
    cases c with
    | false => exact ⟨⟨s, he⟩, hw⟩
    | true => have := h2 rfl; rw [h] at this; cases this
theorem smeans_some (w : World) (b n : Nat) (sc : Sp.Sc) (hS : ScAt w b n sc) (k : ByteArray) (hk : k.size ≤ maxLen) (sv : List UInt8) (h : sc.lookup (L k) = some sv) :
    Calls Tryz.prog 66 #[.map (some b), .string k] w fun e w' => (∃ (s : ByteArray), e = .returned (.tuple #[.string s, .bool true]) ∧ L s = sv ∧ s.size ≤ maxLen) ∧ w' = w :=
  (smeans_calls w b n sc hS k hk).mono fun e w' ⟨⟨s, c, he, h1, h2, h3⟩, hw⟩ => by
    cases c with
    | false => have := h1 rfl; rw [h] at this; cases this
    | true => have := h2 rfl; rw [h] at this; injection this with this; exact ⟨⟨s, he, this.symm, h3⟩, hw⟩
def AttrsEnd (R : Except Sp.FltI (List Sp.SA)) (w : World) (e : Ending) (w' : World) : Prop := Below w.heap.size w w' ∧
  match R with
  | .ok la => ∃ v', e = .returned (.tuple #[v', .int .i64 0, .int .i64 0]) ∧ SasAt w.heap.size w' v' la
  | .error f => e = .returned (.tuple #[.slice none 0 0, .int .i64 f.1, .int .i64 (f.2 : Int)])

set_option maxHeartbeats 16000000 in
set_option maxRecDepth 100000 in
theorem sattrs_calls (w : World) (b n0 : Nat) (sc : Sp.Sc) (hS : ScAt w b n0 sc) (v : Value) (l : List Sp.EA) (h : AtsR w v l) (hl : l.length ≤ 60000) (hnb : ∀ a ∈ l, NB a) (R : Except Sp.FltI (List Sp.SA)) (hR : Sp.attrsS sc [] l [] = R) :
    Calls Tryz.prog 67 #[.map (some b), v] w (AttrsEnd R w) := by
  obtain ⟨n, hn⟩ : ∃ n, l.length = n := ⟨_, rfl⟩
  obtain ⟨a1, c1, rfl, hc1⟩ := h.cells
  rw [hn] at hl hc1 ⊢
  have hmm := @run_makeMap Tryz.prog
  have HN := Lib.hid hn
  have HNB := Lib.hid hnb
  have HS := Lib.hid hS
  have HR0 : Hid (Sp.attrsS sc [] (l.drop 0) [] = R) := hR
  have hmx : maxLen = 9223372036854775807 := rfl
  have HMX := Lib.hid hmx
  by_cases h0 : n = 0
  · have hl0 : l = [] := List.eq_nil_of_length_eq_zero (by omega)
    subst hl0 h0
    have hR2 : R = .ok [] := hR.symm
    subst hR2
    clear hc1 hn hnb hS hR hl h HR0 hmx
    go_enter Tryz.func67, Tryz.ntmps67
    go_wp2_with fail
    refine wp_loop_rounds 1 ?_
    rw [rounds_succ]
    go_wp2_with fail
    go_ret3
    exact ⟨(Below.refl _ _).alloc (Nat.le_refl _) _, _, rfl, SasAt.nil _ _⟩
  · obtain ⟨g1, o1, rfl, hg1, hc1⟩ := hc1 (by omega)
    have HC := Lib.hid hc1
    clear hc1 h0 hn hnb hS hR h hmx
    go_enter Tryz.func67, Tryz.ntmps67
    go_wp2_with fail
    go_loopg [8, 22] (n + 1) (fun k out i wr => ∃ (j : Nat) (D : DataW Unit) (seen : List (List UInt8 × List UInt8)) (acc : List Sp.SA), i = .int .i64 j ∧ j ≤ n ∧ n - j < k ∧ Hid (acc.length ≤ j) ∧ Hid (AI w wr j D seen out acc) ∧ Hid (Sp.attrsS sc seen (l.drop j) acc = R))
    case atStart => exact ⟨0, .map [], [], [], rfl, Nat.zero_le _, by omega, Nat.le_refl 0, ⟨World.ownsMap_made _ _ _ _, met2_nil, SasAt.nil _ _, (Below.refl _ _).alloc (Nat.le_refl _) _⟩, HR0⟩
    case round =>
      clear HR0
      obtain ⟨j, D, seen, acc, rfl, hj, hk, HACC, HA, HR⟩ := hrel
      by_cases hlt : j < n
      · have hd : decide ((j : Int) < n) = true := by simp; omega
        have hj0 : (0 : Int) ≤ j := by omega
        have hj1 : (j : Int) < n := by omega
        have hdr : l.drop j = l[j]'(by rw [HN.out]; exact hlt) :: l.drop (j + 1) := List.drop_eq_getElem_cons _
        obtain ⟨x, hx⟩ : ∃ x, l[j]'(by rw [HN.out]; exact hlt) = x := ⟨_, rfl⟩
        rw [hx] at hdr
        have hxg : l[j]? = some x := by rw [List.getElem?_eq_getElem (by rw [HN.out]; exact hlt), hx]
        obtain ⟨y0, y1, y2⟩ := HC.out j x hxg wr HA.out.bel
        obtain ⟨hnx1, hnx2⟩ := HNB.out x (List.mem_of_getElem? hxg)
        obtain ⟨nm, hnm⟩ : ∃ nm : ByteArray, (⟨x.name.toArray⟩ : ByteArray) = nm := ⟨_, rfl⟩
        obtain ⟨vl, hvl⟩ : ∃ vl : ByteArray, (⟨x.value.toArray⟩ : ByteArray) = vl := ⟨_, rfl⟩
        rw [hnm] at y0
        rw [hvl] at y1
        obtain ⟨hnms, hnmL⟩ := sz_of hnm
        obtain ⟨hvls, hvlL⟩ := sz_of hvl
        obtain ⟨dp, db, hD⟩ : ∃ dp db, Sp.declares x.name = (dp, db) := ⟨_, _, rfl⟩
        obtain ⟨cp, cl, cb, hC⟩ : ∃ cp cl cb, Sp.cut x.name = (cp, cl, cb) := ⟨_, _, _, rfl⟩
        have hRx := HR.out
        rw [hdr] at hRx
        have hcl := cut_len x.name
        rw [hC] at hcl
        have hcpm : cp.length ≤ maxLen := by rw [HMX.out]; simp only at hcl; omega
        have hclm : cl.length ≤ maxLen := by rw [HMX.out]; simp only at hcl; omega
        have hnm9 : nm.size ≤ 9223372036854775807 := by omega
        have hD1 := hD
        have hC1 := hC
        rw [← hnmL] at hD1 hC1
        have hspa : Sp.spaceA sc x = if cp = [] then some [] else sc.lookup cp := by unfold Sp.spaceA; rw [hC]
        have HD := Lib.hid hD1
        have HCU := Lib.hid hC1
        have HRX := Lib.hid hRx
        have HDX := Lib.hid hD
        have HCX := Lib.hid hC
        have HCPM := Lib.hid hcpm
        have HCLM := Lib.hid hclm
        have HNM9 := Lib.hid hnm9
        have HVLL := Lib.hid hvlL
        have HSPA := Lib.hid hspa
        have hwlt : w.heap.size < wr.heap.size := HA.out.own.lt
        have HWLT := Lib.hid hwlt
        clear hdr hx hxg hnm hvl hnmL hnms hvls hvlL hD hC hRx hcl hcpm hclm hnm9 hD1 hC1 hnx1 hnx2 hspa hwlt
        go_upto_region 6 with fail
        have zz := heap_alloc_new wr (.cells #[.string nm, .string vl, .int .i64 x.at_] 42)
        have hAA := HA.out.below ((Below.refl _ _).alloc (Nat.le_refl _) (.cells #[.string nm, .string vl, .int .i64 x.at_] 42))
        have hltA : wr.heap.size < (wr.alloc (.cells #[.string nm, .string vl, .int .i64 x.at_] 42)).heap.size := by rw [sz_alloc]; omega
        have z0 : (wr.alloc (.cells #[.string nm, .string vl, .int .i64 x.at_] 42)).cell? ⟨wr.heap.size, 0, none⟩ = some (.string nm) := cell_of_row _ _ 0 _ _ _ zz
        generalize wr.alloc (.cells #[.string nm, .string vl, .int .i64 x.at_] 42) = wa at zz hAA hltA z0 ⊢
        have HZZ := Lib.hid zz
        have HAA := Lib.hid hAA
        have HLA := Lib.hid hltA
        clear zz hAA hltA y0 y1 y2
        cases db with
        | true =>
          go_wp2_with (first
            | (go_at_call 107; go_must (refine (sdecl_calls nm _ dp true HD.out).mono ?_); rintro e w1 ⟨⟨p, rfl, hpL⟩, hb1⟩; have zz1 := (hb1.block _ HLA.out).trans HZZ.out; have hl1 := Nat.lt_of_lt_of_le HLA.out hb1.size; clear z0; have z0 : w1.cell? ⟨wr.heap.size, 0, none⟩ = some (.string nm) := cell_of_row _ _ 0 _ _ _ zz1; have HZ1 := Lib.hid zz1; have HL1 := Lib.hid hl1; have HA1 := Lib.hid (HAA.out.below hb1); clear hb1 zz1 hl1 hpL))
          go_roundg (gk - 1)
          case measure => omega
          case rel =>
            have hR := HRX.out
            rw [attrsS_decl1 HDX.out] at hR
            exact ⟨j + 1, D, seen, acc, by simp, by omega, by omega, Nat.le_trans HACC.out (Nat.le_succ _), HA1.out.skip, hR⟩
        | false =>
          by_cases h1 : cp = []
          · have HQZ : Hid (decide (cp = []) = true) := by show _ = _; simp [h1]
            have HSS : Hid (Sp.spaceA sc x = some []) := by show _ = _; rw [HSPA.out, if_pos h1]
            have HSPL : Hid (L (⟨#[]⟩ : ByteArray) = []) := rfl
            have HSPM : Hid ((⟨#[]⟩ : ByteArray).size ≤ maxLen) := Nat.zero_le _
            clear h1
            by_cases hm : seen.contains (([] : List UInt8), cl) = true
            · have HMEM := Lib.hid hm
              have HSQ : Hid (∀ lq : ByteArray, L lq = cl → seen.contains (L ⟨#[]⟩, L lq) = true) := fun lq h => by rw [h]; exact HMEM.out
              clear hm
              go_wp2_with (first
                | (go_at_call 107; go_must (refine (sdecl_calls nm _ dp false HD.out).mono ?_); rintro e w1 ⟨⟨p, rfl, hpL⟩, hb1⟩; have zz1 := (hb1.block _ HLA.out).trans HZZ.out; have hl1 := Nat.lt_of_lt_of_le HLA.out hb1.size; clear z0; have z0 : w1.cell? ⟨wr.heap.size, 0, none⟩ = some (.string nm) := cell_of_row _ _ 0 _ _ _ zz1; have HZ1 := Lib.hid zz1; have HL1 := Lib.hid hl1; have HA1 := Lib.hid (HAA.out.below hb1); clear hb1 zz1 hl1 hpL)
                | (go_at_call 64; go_must (refine (scut_calls nm _ HNM9.out cp cl cb HCU.out).mono ?_); rintro e w2 ⟨⟨q, lq, rfl, hqL, hlqL⟩, hb2⟩; have zz2 := (hb2.block _ HL1.out).trans HZ1.out; have hl2 := Nat.lt_of_lt_of_le HL1.out hb2.size; clear z0; have z1 : w2.cell? ⟨wr.heap.size, 1, none⟩ = some (.string vl) := cell_of_row _ _ 1 _ _ _ zz2; have z2 : w2.cell? ⟨wr.heap.size, 2, none⟩ = some (.int .i64 x.at_) := cell_of_row _ _ 2 _ _ _ zz2; have HZ2 := Lib.hid zz2; have HL2 := Lib.hid hl2; have HA2 := Lib.hid (HA1.out.below hb2); (have hqz : q.toList.isEmpty = true := by (rw [empt, hqL]; exact HQZ.out)); (have hqm : q.size ≤ maxLen := by (rw [← L_length, hqL]; exact HCPM.out)); (have hlm : lq.size ≤ maxLen := by (rw [← L_length, hlqL]; exact HCLM.out)); have HQL := Lib.hid hqL; have HLQ := Lib.hid hlqL; have HQM := Lib.hid hqm; have HLM := Lib.hid hlm; clear hb2 zz2 hl2 hqL hlqL hqm hlm)
                | (at_lookup; refine wpList_lookup_own_bool _ rfl _ _ 159 rfl 161 4 keyFull Tryz.underlying159 Tryz.underlying4 (zeroBool _) w.heap.size j D rfl (HA2.out.own.alloc _) _ _ rfl (keyF (a := ⟨#[]⟩) (b := lq) HSPM.out HLM.out) ?_; intro c hat; (have hcc : c = true := by (have h4 := (HA2.out.met ⟨#[]⟩ lq HSPM.out HLM.out).symm.trans hat; injection h4 with h4; injection h4 with h4; exact h4.symm.trans (HSQ.out lq HLQ.out))); subst hcc; have hl2v := HL2.out; clear hat))
              go_quiet (fail)
              go_wp2_with fail
              go_ret3
              have hR := HRX.out
              rw [attrsS_twice1 HDX.out HSS.out HCX.out HMEM.out] at hR
              subst hR
              exact ⟨below_drewN (HA2.out.bel.alloc HA2.out.bel.size _) _, rfl⟩
            · have HMEM : Hid (seen.contains (([] : List UInt8), cl) = false) := Bool.eq_false_iff.2 hm
              have HSQ : Hid (∀ lq : ByteArray, L lq = cl → seen.contains (L ⟨#[]⟩, L lq) = false) := fun lq h => by rw [h]; exact HMEM.out
              clear hm
              go_wp2_with (first
                | (go_at_call 107; go_must (refine (sdecl_calls nm _ dp false HD.out).mono ?_); rintro e w1 ⟨⟨p, rfl, hpL⟩, hb1⟩; have zz1 := (hb1.block _ HLA.out).trans HZZ.out; have hl1 := Nat.lt_of_lt_of_le HLA.out hb1.size; clear z0; have z0 : w1.cell? ⟨wr.heap.size, 0, none⟩ = some (.string nm) := cell_of_row _ _ 0 _ _ _ zz1; have HZ1 := Lib.hid zz1; have HL1 := Lib.hid hl1; have HA1 := Lib.hid (HAA.out.below hb1); clear hb1 zz1 hl1 hpL)
                | (go_at_call 64; go_must (refine (scut_calls nm _ HNM9.out cp cl cb HCU.out).mono ?_); rintro e w2 ⟨⟨q, lq, rfl, hqL, hlqL⟩, hb2⟩; have zz2 := (hb2.block _ HL1.out).trans HZ1.out; have hl2 := Nat.lt_of_lt_of_le HL1.out hb2.size; clear z0; have z1 : w2.cell? ⟨wr.heap.size, 1, none⟩ = some (.string vl) := cell_of_row _ _ 1 _ _ _ zz2; have z2 : w2.cell? ⟨wr.heap.size, 2, none⟩ = some (.int .i64 x.at_) := cell_of_row _ _ 2 _ _ _ zz2; have HZ2 := Lib.hid zz2; have HL2 := Lib.hid hl2; have HA2 := Lib.hid (HA1.out.below hb2); (have hqz : q.toList.isEmpty = true := by (rw [empt, hqL]; exact HQZ.out)); (have hqm : q.size ≤ maxLen := by (rw [← L_length, hqL]; exact HCPM.out)); (have hlm : lq.size ≤ maxLen := by (rw [← L_length, hlqL]; exact HCLM.out)); have HQL := Lib.hid hqL; have HLQ := Lib.hid hlqL; have HQM := Lib.hid hqm; have HLM := Lib.hid hlm; clear hb2 zz2 hl2 hqL hlqL hqm hlm)
                | (at_lookup; refine wpList_lookup_own_bool _ rfl _ _ 159 rfl 161 4 keyFull Tryz.underlying159 Tryz.underlying4 (zeroBool _) w.heap.size j D rfl (HA2.out.own.alloc _) _ _ rfl (keyF (a := ⟨#[]⟩) (b := lq) HSPM.out HLM.out) ?_; intro c hat; (have hcc : c = false := by (have h4 := (HA2.out.met ⟨#[]⟩ lq HSPM.out HLM.out).symm.trans hat; injection h4 with h4; injection h4 with h4; exact h4.symm.trans (HSQ.out lq HLQ.out))); subst hcc; have hl2v := HL2.out; clear hat)
                | (at_mapUpdate; refine wpList_mapUpdate_own _ rfl _ _ _ 159 rfl 161 4 keyFull Tryz.underlying159 (plainElem (H := Unit) Tryz.prog 4) w.heap.size j D rfl (HA2.out.own.alloc _) (by rw [HMX.out]; omega) _ _ _ rfl rfl (keyF (a := ⟨#[]⟩) (b := lq) HSPM.out HLM.out) _ [] (plainElem_bool Tryz.underlying4 true) ?_; intro w4 hown4 hg4; have zz4 := (hg4.block wr.heap.size (by rw [sz_alloc]; have := HL2.out; omega) (fun e => by (injection e with e; have := HWLT.out; omega))).trans ((heap_alloc_old _ _ HL2.out).trans HZ2.out); clear z1 z2; have z1 : w4.cell? ⟨wr.heap.size, 1, none⟩ = some (.string vl) := cell_of_row _ _ 1 _ _ _ zz4; have z2 : w4.cell? ⟨wr.heap.size, 2, none⟩ = some (.int .i64 x.at_) := cell_of_row _ _ 2 _ _ _ zz4; have HA4 := Lib.hid ((HA2.out.below ((Below.refl _ _).alloc (Nat.le_refl _) _)).upd HSPM.out HLM.out hown4 hg4); clear hown4 hg4 zz4)
                | (at_builtin; refine wpList_appSA rfl (.tmp 62) (.tmp 70) rfl (base := w.heap.size) (wr := w4) (W := w4) ⟨L ⟨#[]⟩, L lq, L vl, x.at_⟩ (by rfl) HA4.out.sas (Below.refl _ _) HA4.out.bel.size (by have := HACC.out; omega) #[.string ⟨#[]⟩, .string lq, .string vl, .int .i64 x.at_] (by simp only [saCells, bs_L]) (by rfl) ?_; intro v5 w5 ho5 hg5 hb5; have HA5 := Lib.hid (HA4.out.app ho5 hg5 hb5); clear ho5 hg5 hb5))
              go_roundg (gk - 1)
              case measure => omega
              case rel =>
                have hR := HRX.out
                rw [attrsS_new1 HDX.out HSS.out HCX.out HMEM.out] at hR
                rw [← HLQ.out, ← HVLL.out] at hR
                exact ⟨j + 1, D.put (kfL ⟨#[]⟩ lq) (.lit (.bool true)), (L ⟨#[]⟩, L lq) :: seen, acc ++ [(⟨L ⟨#[]⟩, L lq, L vl, x.at_⟩ : Sp.SA)], by simp, by omega, by omega, (by show (acc ++ _).length ≤ _; rw [List.length_append]; exact Nat.succ_le_succ HACC.out), HA5, hR⟩
          · have HQZ : Hid (decide (cp = []) = false) := by show _ = _; simp [h1]
            cases hlk : sc.lookup cp with
            | none =>
              have HSS : Hid (Sp.spaceA sc x = none) := by show _ = _; rw [HSPA.out, if_neg h1, hlk]
              have HLK := Lib.hid hlk
              clear hlk h1
              go_wp2_with (first
                | (go_at_call 107; go_must (refine (sdecl_calls nm _ dp false HD.out).mono ?_); rintro e w1 ⟨⟨p, rfl, hpL⟩, hb1⟩; have zz1 := (hb1.block _ HLA.out).trans HZZ.out; have hl1 := Nat.lt_of_lt_of_le HLA.out hb1.size; clear z0; have z0 : w1.cell? ⟨wr.heap.size, 0, none⟩ = some (.string nm) := cell_of_row _ _ 0 _ _ _ zz1; have HZ1 := Lib.hid zz1; have HL1 := Lib.hid hl1; have HA1 := Lib.hid (HAA.out.below hb1); clear hb1 zz1 hl1 hpL)
                | (go_at_call 64; go_must (refine (scut_calls nm _ HNM9.out cp cl cb HCU.out).mono ?_); rintro e w2 ⟨⟨q, lq, rfl, hqL, hlqL⟩, hb2⟩; have zz2 := (hb2.block _ HL1.out).trans HZ1.out; have hl2 := Nat.lt_of_lt_of_le HL1.out hb2.size; clear z0; have z1 : w2.cell? ⟨wr.heap.size, 1, none⟩ = some (.string vl) := cell_of_row _ _ 1 _ _ _ zz2; have z2 : w2.cell? ⟨wr.heap.size, 2, none⟩ = some (.int .i64 x.at_) := cell_of_row _ _ 2 _ _ _ zz2; have HZ2 := Lib.hid zz2; have HL2 := Lib.hid hl2; have HA2 := Lib.hid (HA1.out.below hb2); (have hqz : q.toList.isEmpty = false := by (rw [empt, hqL]; exact HQZ.out)); (have hqm : q.size ≤ maxLen := by (rw [← L_length, hqL]; exact HCPM.out)); (have hlm : lq.size ≤ maxLen := by (rw [← L_length, hlqL]; exact HCLM.out)); have HQL := Lib.hid hqL; have HLQ := Lib.hid hlqL; have HQM := Lib.hid hqm; have HLM := Lib.hid hlm; clear hb2 zz2 hl2 hqL hlqL hqm hlm)
                | (go_at_call 66; go_must (refine (smeans_none _ b n0 sc (HS.out.below HA2.out.bel) q HQM.out (by rw [HQL.out]; exact HLK.out)).mono ?_); rintro e w3 ⟨⟨sp, rfl⟩, rfl⟩))
              go_quiet (fail)
              go_wp2_with fail
              go_ret3
              have hR := HRX.out
              rw [attrsS_none1 HDX.out HSS.out] at hR
              subst hR
              exact ⟨below_drewN HA2.out.bel _, rfl⟩
            | some sv =>
              have HSS : Hid (Sp.spaceA sc x = some sv) := by show _ = _; rw [HSPA.out, if_neg h1, hlk]
              have HLK := Lib.hid hlk
              clear hlk h1
              by_cases hm : seen.contains (sv, cl) = true
              · have HMEM := Lib.hid hm
                clear hm
                go_wp2_with (first
                  | (go_at_call 107; go_must (refine (sdecl_calls nm _ dp false HD.out).mono ?_); rintro e w1 ⟨⟨p, rfl, hpL⟩, hb1⟩; have zz1 := (hb1.block _ HLA.out).trans HZZ.out; have hl1 := Nat.lt_of_lt_of_le HLA.out hb1.size; clear z0; have z0 : w1.cell? ⟨wr.heap.size, 0, none⟩ = some (.string nm) := cell_of_row _ _ 0 _ _ _ zz1; have HZ1 := Lib.hid zz1; have HL1 := Lib.hid hl1; have HA1 := Lib.hid (HAA.out.below hb1); clear hb1 zz1 hl1 hpL)
                  | (go_at_call 64; go_must (refine (scut_calls nm _ HNM9.out cp cl cb HCU.out).mono ?_); rintro e w2 ⟨⟨q, lq, rfl, hqL, hlqL⟩, hb2⟩; have zz2 := (hb2.block _ HL1.out).trans HZ1.out; have hl2 := Nat.lt_of_lt_of_le HL1.out hb2.size; clear z0; have z1 : w2.cell? ⟨wr.heap.size, 1, none⟩ = some (.string vl) := cell_of_row _ _ 1 _ _ _ zz2; have z2 : w2.cell? ⟨wr.heap.size, 2, none⟩ = some (.int .i64 x.at_) := cell_of_row _ _ 2 _ _ _ zz2; have HZ2 := Lib.hid zz2; have HL2 := Lib.hid hl2; have HA2 := Lib.hid (HA1.out.below hb2); (have hqz : q.toList.isEmpty = false := by (rw [empt, hqL]; exact HQZ.out)); (have hqm : q.size ≤ maxLen := by (rw [← L_length, hqL]; exact HCPM.out)); (have hlm : lq.size ≤ maxLen := by (rw [← L_length, hlqL]; exact HCLM.out)); have HQL := Lib.hid hqL; have HLQ := Lib.hid hlqL; have HQM := Lib.hid hqm; have HLM := Lib.hid hlm; clear hb2 zz2 hl2 hqL hlqL hqm hlm)
                  | (go_at_call 66; go_must (refine (smeans_some _ b n0 sc (HS.out.below HA2.out.bel) q HQM.out sv (by rw [HQL.out]; exact HLK.out)).mono ?_); rintro e w3 ⟨⟨sp, rfl, hspL, hspm⟩, rfl⟩; have HSPL := Lib.hid hspL; have HSPM := Lib.hid hspm; clear hspL hspm)
                  | (at_lookup; refine wpList_lookup_own_bool _ rfl _ _ 159 rfl 161 4 keyFull Tryz.underlying159 Tryz.underlying4 (zeroBool _) w.heap.size j D rfl (HA2.out.own.alloc _) _ _ rfl (keyF (a := sp) (b := lq) HSPM.out HLM.out) ?_; intro c hat; (have hcc : c = true := by (have h4 := (HA2.out.met sp lq HSPM.out HLM.out).symm.trans hat; injection h4 with h4; injection h4 with h4; exact h4.symm.trans (by rw [HSPL.out, HLQ.out]; exact HMEM.out))); subst hcc; have hl2v := HL2.out; clear hat))
                go_quiet (fail)
                go_wp2_with fail
                go_ret3
                have hR := HRX.out
                rw [attrsS_twice1 HDX.out HSS.out HCX.out HMEM.out] at hR
                subst hR
                exact ⟨below_drewN (HA2.out.bel.alloc HA2.out.bel.size _) _, rfl⟩
              · have HMEM : Hid (seen.contains (sv, cl) = false) := Bool.eq_false_iff.2 hm
                clear hm
                go_wp2_with (first
                  | (go_at_call 107; go_must (refine (sdecl_calls nm _ dp false HD.out).mono ?_); rintro e w1 ⟨⟨p, rfl, hpL⟩, hb1⟩; have zz1 := (hb1.block _ HLA.out).trans HZZ.out; have hl1 := Nat.lt_of_lt_of_le HLA.out hb1.size; clear z0; have z0 : w1.cell? ⟨wr.heap.size, 0, none⟩ = some (.string nm) := cell_of_row _ _ 0 _ _ _ zz1; have HZ1 := Lib.hid zz1; have HL1 := Lib.hid hl1; have HA1 := Lib.hid (HAA.out.below hb1); clear hb1 zz1 hl1 hpL)
                  | (go_at_call 64; go_must (refine (scut_calls nm _ HNM9.out cp cl cb HCU.out).mono ?_); rintro e w2 ⟨⟨q, lq, rfl, hqL, hlqL⟩, hb2⟩; have zz2 := (hb2.block _ HL1.out).trans HZ1.out; have hl2 := Nat.lt_of_lt_of_le HL1.out hb2.size; clear z0; have z1 : w2.cell? ⟨wr.heap.size, 1, none⟩ = some (.string vl) := cell_of_row _ _ 1 _ _ _ zz2; have z2 : w2.cell? ⟨wr.heap.size, 2, none⟩ = some (.int .i64 x.at_) := cell_of_row _ _ 2 _ _ _ zz2; have HZ2 := Lib.hid zz2; have HL2 := Lib.hid hl2; have HA2 := Lib.hid (HA1.out.below hb2); (have hqz : q.toList.isEmpty = false := by (rw [empt, hqL]; exact HQZ.out)); (have hqm : q.size ≤ maxLen := by (rw [← L_length, hqL]; exact HCPM.out)); (have hlm : lq.size ≤ maxLen := by (rw [← L_length, hlqL]; exact HCLM.out)); have HQL := Lib.hid hqL; have HLQ := Lib.hid hlqL; have HQM := Lib.hid hqm; have HLM := Lib.hid hlm; clear hb2 zz2 hl2 hqL hlqL hqm hlm)
                  | (go_at_call 66; go_must (refine (smeans_some _ b n0 sc (HS.out.below HA2.out.bel) q HQM.out sv (by rw [HQL.out]; exact HLK.out)).mono ?_); rintro e w3 ⟨⟨sp, rfl, hspL, hspm⟩, rfl⟩; have HSPL := Lib.hid hspL; have HSPM := Lib.hid hspm; clear hspL hspm)
                  | (at_lookup; refine wpList_lookup_own_bool _ rfl _ _ 159 rfl 161 4 keyFull Tryz.underlying159 Tryz.underlying4 (zeroBool _) w.heap.size j D rfl (HA2.out.own.alloc _) _ _ rfl (keyF (a := sp) (b := lq) HSPM.out HLM.out) ?_; intro c hat; (have hcc : c = false := by (have h4 := (HA2.out.met sp lq HSPM.out HLM.out).symm.trans hat; injection h4 with h4; injection h4 with h4; exact h4.symm.trans (by rw [HSPL.out, HLQ.out]; exact HMEM.out))); subst hcc; have hl2v := HL2.out; clear hat)
                  | (at_mapUpdate; refine wpList_mapUpdate_own _ rfl _ _ _ 159 rfl 161 4 keyFull Tryz.underlying159 (plainElem (H := Unit) Tryz.prog 4) w.heap.size j D rfl (HA2.out.own.alloc _) (by rw [HMX.out]; omega) _ _ _ rfl rfl (keyF (a := sp) (b := lq) HSPM.out HLM.out) _ [] (plainElem_bool Tryz.underlying4 true) ?_; intro w4 hown4 hg4; have zz4 := (hg4.block wr.heap.size (by rw [sz_alloc]; have := HL2.out; omega) (fun e => by (injection e with e; have := HWLT.out; omega))).trans ((heap_alloc_old _ _ HL2.out).trans HZ2.out); clear z1 z2; have z1 : w4.cell? ⟨wr.heap.size, 1, none⟩ = some (.string vl) := cell_of_row _ _ 1 _ _ _ zz4; have z2 : w4.cell? ⟨wr.heap.size, 2, none⟩ = some (.int .i64 x.at_) := cell_of_row _ _ 2 _ _ _ zz4; have HA4 := Lib.hid ((HA2.out.below ((Below.refl _ _).alloc (Nat.le_refl _) _)).upd HSPM.out HLM.out hown4 hg4); clear hown4 hg4 zz4)
                  | (at_builtin; refine wpList_appSA rfl (.tmp 62) (.tmp 70) rfl (base := w.heap.size) (wr := w4) (W := w4) ⟨L sp, L lq, L vl, x.at_⟩ (by rfl) HA4.out.sas (Below.refl _ _) HA4.out.bel.size (by have := HACC.out; omega) #[.string sp, .string lq, .string vl, .int .i64 x.at_] (by simp only [saCells, bs_L]) (by rfl) ?_; intro v5 w5 ho5 hg5 hb5; have HA5 := Lib.hid (HA4.out.app ho5 hg5 hb5); clear ho5 hg5 hb5))
                go_roundg (gk - 1)
                case measure => omega
                case rel =>
                  have hR := HRX.out
                  rw [attrsS_new1 HDX.out HSS.out HCX.out HMEM.out] at hR
                  rw [← HSPL.out, ← HLQ.out, ← HVLL.out] at hR
                  exact ⟨j + 1, D.put (kfL sp lq) (.lit (.bool true)), (L sp, L lq) :: seen, acc ++ [(⟨L sp, L lq, L vl, x.at_⟩ : Sp.SA)], by simp, by omega, by omega, (by show (acc ++ _).length ≤ _; rw [List.length_append]; exact Nat.succ_le_succ HACC.out), HA5, hR⟩
      · have hj' : j = n := by omega
        subst hj'
        have hd : decide ((j : Int) < j) = false := by simp
        go_wp2_with fail
        go_ret3
        have hR := HR.out
        rw [List.drop_eq_nil_of_le (by rw [HN.out]; exact Nat.le_refl _)] at hR
        subst hR
        exact ⟨HA.out.bel, _, rfl, HA.out.sas⟩
end Go.Proofs.YtokdclmikllepaaGreatDoor
namespace Go.Proofs.YtokdclmikllepaaGreatDoor
open Go.RowKit Go.Maps
set_option linter.unusedVariables false
set_option linter.unusedSimpArgs false

/-! ### spaces.Resolve -/
def NE (x : Sp.EE) : Prop := x.name.length ≤ 1152921504606846976 ∧ x.attrs.length ≤ 60000 ∧ ∀ a ∈ x.attrs, NB a
def ResEnd (R : Except Sp.FltI (List Sp.SE)) (w : World) (e : Ending) (w' : World) : Prop := Below w.heap.size w w' ∧
  match R with
  | .ok r => ∃ v', e = .returned (.tuple #[v', .int .i64 0, .int .i64 0]) ∧ SesAt w.heap.size w' v' r
  | .error f => e = .returned (.tuple #[.slice none 0 0, .int .i64 f.1, .int .i64 (f.2 : Int)])
theorem upOk_cons {i : Nat} {x : Sp.EE} {t : List Sp.EE} : Sp.upOk i (x :: t) = ((if i = 0 then decide (x.up = -1) else decide (0 ≤ x.up) && decide (x.up < i)) && Sp.upOk (i + 1) t) := rfl

theorem infoSc : (Tryz.prog.info? 97).map (fun i => (i.zero, i.size, i.bytes)) = some (some (.map none), 1, 8) := by kernel_rfl
theorem make_scopes (n : Nat) (hn : n ≤ 1000) : ∃ C : Array Value, C.size = n ∧ ∀ w : World, (Instr.makeSlice 95 (.int .i64 (n : Int)) (.int .i64 (n : Int))).run Tryz.prog w = .ok (.slice (some ⟨w.heap.size, 0, none⟩) n n) (w.alloc (.cells C 97)) := by
  obtain ⟨i0, hi, hz0, hz1, hz2⟩ := info_parts infoSc
  refine ⟨madeCells (Value.map none).cells ((n : Int).toNat * i0.size), ?_, fun w => ?_⟩
  · rw [size_madeCells, hz1]
    simp
  · have h := run_make (P := Tryz.prog) w 95 97 i0 (.map none) Tryz.underlying95 hi hz0 .i64 .i64 n n (by omega) (Int.le_refl _) (by rw [hz2]; omega) (by omega)
    simpa using h
-- what holds between two rounds
def ScsR (B : Nat) (w : World) (g n : Nat) (scs : List Sp.Sc) : Prop := ∃ cur : Array Value, w.heap[g]? = some (.cells cur 97 (0, 0)) ∧ cur.size = n ∧ ∀ k sc, scs[k]? = some sc → ∃ b, cur[k]? = some (.map (some b)) ∧ B ≤ b ∧ ScAt w b (10 + 100000 * (k + 1)) sc
structure RI (w wr : World) (g n : Nat) (scs : List Sp.Sc) (out : Value) (acc : List Sp.SE) : Prop where
  scs : ScsR w.heap.size wr g n scs
  ses : SesAt w.heap.size wr out acc
  bel : Below w.heap.size w wr
  gB : w.heap.size ≤ g
theorem RI.lt {w wr : World} {g n : Nat} {scs : List Sp.Sc} {out : Value} {acc : List Sp.SE} (h : RI w wr g n scs out acc) : g < wr.heap.size := by
  obtain ⟨cur, h1, _⟩ := h.scs
  exact (Array.getElem?_eq_some_iff.1 h1).1
theorem RI.below {w wr w' : World} {g n : Nat} {scs : List Sp.Sc} {out : Value} {acc : List Sp.SE} (h : RI w wr g n scs out acc) (hb : Below wr.heap.size wr w') : RI w w' g n scs out acc := by
  have hlt := h.lt
  obtain ⟨cur, h1, h2, h3⟩ := h.scs
  refine ⟨⟨cur, (hb.block g hlt).trans h1, h2, fun k sc hk => ?_⟩, h.ses.below hb, below_then h.bel hb, h.gB⟩
  obtain ⟨b, g1, g2, g3⟩ := h3 k sc hk
  exact ⟨b, g1, g2, g3.below hb⟩
theorem RI.start (w wr : World) (C : Array Value) (n : Nat) (hC : C.size = n) (hb : Below w.heap.size w wr) : RI w (wr.alloc (.cells C 97)) wr.heap.size n [] (.slice none 0 0) [] :=
  ⟨⟨C, heap_alloc_new wr _, hC, fun k sc hk => by cases k <;> cases hk⟩, SesAt.nil _ _, hb.alloc hb.size _, hb.size⟩
theorem RI.cell {w wr : World} {g n : Nat} {scs : List Sp.Sc} {out : Value} {acc : List Sp.SE} (h : RI w wr g n scs out acc) {j : Nat} (hj : j < n) : ∃ u, wr.cell? ⟨g, j, none⟩ = some u ∧ wr.frozen? ⟨g, j, none⟩ = false := by
  obtain ⟨cur, h1, h2, h3⟩ := h.scs
  refine ⟨cur[j]'(by omega), ?_, ?_⟩
  · rw [cell_of_row _ _ j _ _ _ h1]
    exact Array.getElem?_eq_getElem _
  · simp only [World.frozen?, h1]
    simp
theorem RI.look {w wr : World} {g n : Nat} {scs : List Sp.Sc} {out : Value} {acc : List Sp.SE} (h : RI w wr g n scs out acc) {k : Nat} {sc : Sp.Sc} (hk : scs[k]? = some sc) : ∃ b, wr.cell? ⟨g, k, none⟩ = some (.map (some b)) ∧ ScAt wr b (10 + 100000 * (k + 1)) sc := by
  obtain ⟨cur, h1, h2, h3⟩ := h.scs
  obtain ⟨b, g1, g2, g3⟩ := h3 k sc hk
  exact ⟨b, by rw [cell_of_row _ _ k _ _ _ h1, g1], g3⟩
theorem SesAt.setScope {B g : Nat} {w w' : World} {v : Value} {l : List Sp.SE} {c : Array Value} (h : SesAt B w v l) (hg : w.heap[g]? = some (.cells c 97 (0, 0))) (hgr : w.grownBy w' (some g)) : SesAt B w' v l := by
  obtain ⟨ps, h1, h2, h3⟩ := h
  exact ⟨ps, h1, fun x hx => World.ownsRow.kept (h2 x hx) hgr (.inr (own_ne (h2 x hx) hg (by decide))), h3.kept hgr (.inr (own_ne h3 hg (by decide)))⟩
theorem ScAt.neCells {w : World} {b n g : Nat} {sc : Sp.Sc} {c : Array Value} {t : TypeId} {fz : Nat × Nat} (h : ScAt w b n sc) (hg : w.heap[g]? = some (.cells c t fz)) : b ≠ g := by
  obtain ⟨D, ⟨es, k, hb, _⟩, _⟩ := h
  intro e
  subst e
  rw [hb] at hg
  cases hg
theorem RI.store {w wr : World} {g n : Nat} {scs : List Sp.Sc} {out : Value} {acc : List Sp.SE} (h : RI w wr g n scs out acc) {b' : Nat} {sc' : Sp.Sc} (hs : ScAt wr b' (10 + 100000 * (scs.length + 1)) sc') (hB : w.heap.size ≤ b') (hj : scs.length < n) :
    RI w (wr.setCell ⟨g, scs.length, none⟩ (.map (some b'))) g n (scs ++ [sc']) out acc ∧ wr.grownBy (wr.setCell ⟨g, scs.length, none⟩ (.map (some b'))) (some g) := by
  obtain ⟨cur, h1, h2, h3⟩ := h.scs
  rw [setCell_eq_setRow wr g scs.length cur 97 (0, 0) _ h1]
  have hgr : wr.grownBy (wr.setRow g (cur.setIfInBounds scs.length (.map (some b')))) (some g) := ⟨rfl, rfl, rfl, by simp, fun k _ hk => setRow_other wr g k _ (fun e => hk (by rw [e]))⟩
  refine ⟨⟨⟨_, setRow_heap wr g cur _ _ _ h1, by simpa using h2, fun k sc hk => ?_⟩, h.ses.setScope h1 hgr, h.bel.grown hgr h.bel.size (fun j hj => by cases hj; exact h.gB), h.gB⟩, hgr⟩
  rcases Nat.lt_trichotomy k scs.length with hlt | heq | hgt
  · rw [List.getElem?_append_left hlt] at hk
    obtain ⟨b, g1, g2, g3⟩ := h3 k sc hk
    refine ⟨b, ?_, g2, g3.grown hgr (fun e => g3.neCells h1 (by injection e))⟩
    rw [Array.getElem?_setIfInBounds_ne (by omega)]
    exact g1
  · subst heq
    rw [List.getElem?_append_right (Nat.le_refl _)] at hk
    simp at hk
    subst hk
    refine ⟨b', ?_, hB, hs.grown hgr (fun e => hs.neCells h1 (by injection e))⟩
    rw [Array.getElem?_setIfInBounds_self_of_lt (by omega)]
  · rw [List.getElem?_eq_none (by rw [List.length_append]; simp; omega)] at hk
    cases hk
theorem RI.app {w W w' : World} {o : Obj} {g n : Nat} {scs : List Sp.Sc} {out v' : Value} {acc acc' : List Sp.SE} (h : RI w W g n scs out acc) (ho : SesAt w.heap.size w' v' acc') (hg : (W.alloc o).grownBy w' out.ownBlock) (hb : Below w.heap.size W w') : RI w w' g n scs v' acc' := by
  have h' := h.below ((Below.refl _ W).alloc (Nat.le_refl _) o)
  obtain ⟨cur, h1, h2, h3⟩ := h'.scs
  obtain ⟨ps, _, _, ho0⟩ := h'.ses
  have hne : out.ownBlock ≠ some g := own_ne ho0 h1 (by decide)
  refine ⟨⟨cur, (hg.block g h'.lt (fun e => hne e.symm)).trans h1, h2, fun k sc hk => ?_⟩, ho, h.bel.trans hb, h.gB⟩
  obtain ⟨b, g1, g2, g3⟩ := h3 k sc hk
  refine ⟨b, g1, g2, g3.grown hg (fun e => ?_)⟩
  obtain ⟨D, ⟨es, c, hbb, _⟩, _⟩ := g3
  exact row_ne_map ho0 hbb e.symm
theorem ScAt.congr {w : World} {b n : Nat} {sc sc' : Sp.Sc} (h : ScAt w b n sc) (he : ∀ t, sc.lookup t = sc'.lookup t) : ScAt w b n sc' := by
  obtain ⟨D, h1, h2⟩ := h
  exact ⟨D, h1, fun t zd => by rw [h2 t zd, he]⟩
theorem sc_made (w : World) : ScAt (w.alloc (.map #[] 0)) w.heap.size 0 [] := ⟨.map [], World.ownsMap_made _ _ _ _, scd_nil⟩
theorem base_look (t : List UInt8) : ([(Sp.xmlB, Sp.xmlSpace), ([], [])] : Sp.Sc).lookup t = Sp.baseS.lookup t := by
  unfold Sp.baseS
  by_cases h : t = []
  · subst h; rfl
  · have h1 : (t == ([] : List UInt8)) = false := by simpa using h
    simp only [List.lookup, h1]
theorem runS_err {j : Nat} {scs : List Sp.Sc} {x : Sp.EE} {t : List Sp.EE} {acc : List Sp.SE} {f : Sp.FltI} (h : Sp.elemS scs j x = .error f) : Sp.runS j scs (x :: t) acc = .error f := by rw [Sp.runS, h]
theorem runS_ok {j : Nat} {scs : List Sp.Sc} {x : Sp.EE} {t : List Sp.EE} {acc : List Sp.SE} {sc : Sp.Sc} {y : Sp.SE} (h : Sp.elemS scs j x = .ok (sc, y)) : Sp.runS j scs (x :: t) acc = Sp.runS (j + 1) (scs ++ [sc]) t (acc ++ [y]) := by rw [Sp.runS, h]
theorem withS_code : ∀ (l : List Sp.EA) (s : Sp.Sc) (f : Sp.FltI), Sp.withS s l = .error f → f.2 = 101
  | [], s, f, h => by rw [Sp.withS] at h; cases h
  | a :: t, s, f, h => by
    rw [Sp.withS] at h
    split at h
    · cases h; rfl
    · split at h
      · exact withS_code t _ f h
      · exact withS_code t _ f h
theorem attrsS_code (sc : Sp.Sc) : ∀ (l : List Sp.EA) (m : List (List UInt8 × List UInt8)) (acc : List Sp.SA) (f : Sp.FltI), Sp.attrsS sc m l acc = .error f → f.2 ≠ 0
  | [], m, acc, f, h => by rw [Sp.attrsS] at h; cases h
  | a :: t, m, acc, f, h => by
    rw [Sp.attrsS] at h
    split at h
    · exact attrsS_code sc t _ _ f h
    · split at h
      · cases h; exact (by decide : (101 : Nat) ≠ 0)
      · split at h
        · cases h; exact (by decide : (92 : Nat) ≠ 0)
        · exact attrsS_code sc t _ _ f h
theorem attrsS_len (sc : Sp.Sc) : ∀ (l : List Sp.EA) (m : List (List UInt8 × List UInt8)) (acc r : List Sp.SA), Sp.attrsS sc m l acc = .ok r → r.length ≤ acc.length + l.length
  | [], m, acc, r, h => by rw [Sp.attrsS] at h; cases h; simp
  | a :: t, m, acc, r, h => by
    rw [Sp.attrsS] at h
    split at h
    · have := attrsS_len sc t _ _ r h; rw [List.length_cons]; omega
    · split at h
      · cases h
      · split at h
        · cases h
        · have := attrsS_len sc t _ _ r h; rw [List.length_append] at this; simp at this; rw [List.length_cons]; omega

set_option maxHeartbeats 16000000 in
set_option maxRecDepth 100000 in
theorem resolve_calls (w : World) (v : Value) (l : List Sp.EE) (h : ElsR w v l) (hl : l.length ≤ 1000) (hbd : ∀ x ∈ l, NE x) (R : Except Sp.FltI (List Sp.SE)) (hR : Sp.resolve l = R) :
    Calls Tryz.prog 31 #[v] w (ResEnd R w) := by
  obtain ⟨n, hn⟩ : ∃ n, l.length = n := ⟨_, rfl⟩
  have HE := Lib.hid h
  obtain ⟨a1, c1, rfl, hc1⟩ := h.cells
  rw [hn] at hl hc1 HE ⊢
  have HN := Lib.hid hn
  have HBD := Lib.hid hbd
  have HR0 := Lib.hid hR
  by_cases h0 : n = 0
  · have hl0 : l = [] := List.eq_nil_of_length_eq_zero (by omega)
    subst hl0 h0
    have hR2 : R = .ok [] := hR.symm
    subst hR2
    clear hc1 hn hbd hR hl h HR0 HE
    obtain ⟨C0, hC0, hmks0⟩ := make_scopes 0 (by omega)
    have hmks : ∀ w : World, (Instr.makeSlice 95 (.int .i64 0) (.int .i64 0)).run Tryz.prog w = .ok (.slice (some ⟨w.heap.size, 0, none⟩) 0 0) (w.alloc (.cells C0 97)) := hmks0
    go_enter Tryz.func31, Tryz.ntmps31
    go_wp2_with fail
    refine wp_loop_rounds 1 ?_
    rw [rounds_succ]
    go_wp2_with fail
    refine wp_loop_rounds 1 ?_
    rw [rounds_succ]
    go_wp2_with fail
    go_ret3
    exact ⟨(Below.refl _ _).alloc (Nat.le_refl _) _, _, rfl, SesAt.nil _ _⟩
  · obtain ⟨g1, o1, rfl, hg1, hc1⟩ := hc1 (by omega)
    have HC := Lib.hid hc1
    obtain ⟨C0, hC0, hmks⟩ := make_scopes n hl
    have hmm := @run_makeMap Tryz.prog
    have HUP0 : Hid (Sp.upOk 0 (l.drop 0) = Sp.upOk 0 l) := rfl
    clear hc1 h0 hn hbd hR h
    go_enter Tryz.func31, Tryz.ntmps31
    go_wp2_with fail
    go_loopg [22] (n + 1) (fun k i wr => ∃ (j : Nat), i = .int .i64 j ∧ j ≤ n ∧ n - j < k ∧ Hid (Sp.upOk j (l.drop j) = Sp.upOk 0 l) ∧ Hid (Below w.heap.size w wr))
    case atStart => exact ⟨0, rfl, Nat.zero_le _, by omega, HUP0, Below.refl _ _⟩
    case round =>
      clear HUP0
      obtain ⟨j, rfl, hj, hk, HUP, HB⟩ := hrel
      by_cases hlt : j < n
      · have hd : decide ((j : Int) < n) = true := by simp; omega
        have hj0 : (0 : Int) ≤ j := by omega
        have hj1 : (j : Int) < n := by omega
        have hdr : l.drop j = l[j]'(by rw [HN.out]; exact hlt) :: l.drop (j + 1) := List.drop_eq_getElem_cons _
        obtain ⟨x, hx⟩ : ∃ x, l[j]'(by rw [HN.out]; exact hlt) = x := ⟨_, rfl⟩
        rw [hx] at hdr
        have hxg : l[j]? = some x := by rw [List.getElem?_eq_getElem (by rw [HN.out]; exact hlt), hx]
        obtain ⟨av, hav, hcl⟩ := HC.out j x hxg
        obtain ⟨aa, ac, rfl, -⟩ := hav
        obtain ⟨y0, y1, y2, y3, y4⟩ := hcl wr HB.out
        have hup := HUP.out
        rw [hdr, upOk_cons] at hup
        have HUPX := Lib.hid hup
        clear hdr hx hxg hcl hup
        by_cases hj2 : j = 0
        · have hje : ((j : Int) == 0) = true := by rw [hj2]; rfl
          have hjd : decide (0 < j) = false := by simp; omega
          by_cases hu : x.up = -1
          · rw [hu] at y3
            have hnx : Sp.upOk (j + 1) (l.drop (j + 1)) = Sp.upOk 0 l := by
              have := HUPX.out
              rw [if_pos hj2, hu] at this
              simpa using this
            have HNX := Lib.hid hnx
            clear hu hnx hj2
            go_wp2_with fail
            go_roundg (gk - 1)
            case measure => omega
            case rel => exact ⟨j + 1, by simp, by omega, by omega, HNX, HB.out.alloc HB.out.size _⟩
          · have hq : (x.up != -1) = true := by rw [bne_iff_ne]; exact hu
            have hnx : Sp.upOk 0 l = false := by
              have := HUPX.out
              rw [if_pos hj2] at this
              simp [hu] at this
              exact this
            have hR2 := HR0.out
            unfold Sp.resolve at hR2
            rw [hnx, if_neg Bool.false_ne_true] at hR2
            subst hR2
            clear hu hnx hj2
            go_wp2_with fail
            go_ret3
            exact ⟨HB.out.alloc HB.out.size _, rfl⟩
        · have hje : ((j : Int) == 0) = false := by rw [beq_eq_false_iff_ne]; omega
          have hjd : decide (0 < j) = true := by simp; omega
          by_cases hu0 : x.up < 0
          · have hd0 : decide (x.up < 0) = true := by simp; omega
            have hnx : Sp.upOk 0 l = false := by
              have := HUPX.out
              rw [if_neg hj2] at this
              have h0 : ¬ (0 ≤ x.up) := by omega
              simp [h0] at this
              exact this
            have hR2 := HR0.out
            unfold Sp.resolve at hR2
            rw [hnx, if_neg Bool.false_ne_true] at hR2
            subst hR2
            clear hu0 hnx hj2
            go_wp2_with fail
            go_ret3
            exact ⟨HB.out.alloc HB.out.size _, rfl⟩
          · have hd0 : decide (x.up < 0) = false := by simp; omega
            by_cases huj : (j : Int) ≤ x.up
            · have hd2 : decide ((j : Int) ≤ x.up) = true := by simp; omega
              have hnx : Sp.upOk 0 l = false := by
                have := HUPX.out
                rw [if_neg hj2] at this
                have h0 : ¬ (x.up < (j : Int)) := by omega
                simp [h0] at this
                exact this
              have hR2 := HR0.out
              unfold Sp.resolve at hR2
              rw [hnx, if_neg Bool.false_ne_true] at hR2
              subst hR2
              clear hu0 hnx hj2 huj
              go_wp2_with fail
              go_ret3
              exact ⟨HB.out.alloc HB.out.size _, rfl⟩
            · have hd2 : decide ((j : Int) ≤ x.up) = false := by simp; omega
              have hnx : Sp.upOk (j + 1) (l.drop (j + 1)) = Sp.upOk 0 l := by
                have := HUPX.out
                rw [if_neg hj2] at this
                have h0 : 0 ≤ x.up := by omega
                have h1 : x.up < (j : Int) := by omega
                simpa [h0, h1] using this
              have HNX := Lib.hid hnx
              clear hu0 hnx hj2 huj
              go_wp2_with fail
              go_roundg (gk - 1)
              case measure => omega
              case rel => exact ⟨j + 1, by simp, by omega, by omega, HNX, HB.out.alloc HB.out.size _⟩
      · have hj' : n = j := by omega
        subst hj'
        have hd : decide ((n : Int) < n) = false := by simp
        have hup : Sp.upOk 0 l = true := by
          have := HUP.out
          rw [List.drop_eq_nil_of_le (by rw [HN.out]; exact Nat.le_refl _)] at this
          rw [← this]
          rfl
        have hres : Sp.runS 0 [] l [] = R := by
          have := HR0.out
          unfold Sp.resolve at this
          rw [hup, if_pos rfl] at this
          exact this
        have HRS := Lib.hid hres
        have HUPK := Lib.hid (fun k x hx => upOk_lt l 0 hup k x hx)
        clear hup hres HUP
        go_wp2_with fail
        -- the second loop
        obtain ⟨wr0, rfl⟩ : ∃ z, z = wr := ⟨_, rfl⟩
        go_loopg [8, 55] (n + 1) (fun k out i wr => ∃ (j : Nat) (scs : List Sp.Sc) (acc : List Sp.SE), i = .int .i64 j ∧ j ≤ n ∧ n - j < k ∧ Hid (scs.length = j) ∧ Hid (acc.length = j) ∧ Hid (RI w wr wr0.heap.size n scs out acc) ∧ Hid (Sp.runS j scs (l.drop j) acc = R))
        case atStart => exact ⟨0, [], [], rfl, Nat.zero_le _, by omega, rfl, rfl, RI.start w wr0 C0 n hC0 HB.out, HRS⟩
        case round =>
          obtain ⟨gk0, rfl⟩ : ∃ z, z = gk := ⟨_, rfl⟩
          clear HRS hd
          obtain ⟨j, scs, acc, rfl, hj, hk, HSL, HAL, HA, HR⟩ := hrel
          by_cases hlt : j < n
          · have hd : decide ((j : Int) < n) = true := by simp; omega
            have hj0 : (0 : Int) ≤ j := by omega
            have hj1 : (j : Int) < n := by omega
            have hdr : l.drop j = l[j]'(by rw [HN.out]; exact hlt) :: l.drop (j + 1) := List.drop_eq_getElem_cons _
            obtain ⟨x, hx⟩ : ∃ x, l[j]'(by rw [HN.out]; exact hlt) = x := ⟨_, rfl⟩
            rw [hx] at hdr
            have hxg : l[j]? = some x := by rw [List.getElem?_eq_getElem (by rw [HN.out]; exact hlt), hx]
            obtain ⟨hx1, hx2, hx3⟩ := HBD.out x (List.mem_of_getElem? hxg)
            obtain ⟨av, hav, hcl⟩ := HC.out j x hxg
            have hav0 := hav
            obtain ⟨aa, ac, rfl, -⟩ := hav
            obtain ⟨y0, y1, y2, y3, y4⟩ := hcl _ HA.out.bel
            obtain ⟨nm, hnm⟩ : ∃ nm : ByteArray, (⟨x.name.toArray⟩ : ByteArray) = nm := ⟨_, rfl⟩
            obtain ⟨tx, htx⟩ : ∃ tx : ByteArray, (⟨x.text.toArray⟩ : ByteArray) = tx := ⟨_, rfl⟩
            obtain ⟨na, hna⟩ : ∃ na, x.attrs.length = na := ⟨_, rfl⟩
            rw [hnm] at y0
            rw [htx] at y2
            rw [hna] at y1 hav0 hx2
            obtain ⟨hnms, hnmL⟩ := sz_of hnm
            obtain ⟨htxs, htxL⟩ := sz_of htx
            obtain ⟨cp, cl, cb, hCx⟩ : ∃ cp cl cb, Sp.cut x.name = (cp, cl, cb) := ⟨_, _, _, rfl⟩
            have hcl2 := cut_len x.name
            rw [hCx] at hcl2
            have hmx : maxLen = 9223372036854775807 := rfl
            have hcpm : cp.length ≤ maxLen := by rw [hmx]; simp only at hcl2; omega
            have hnm9 : nm.size ≤ 9223372036854775807 := by omega
            have hC1 := hCx
            rw [← hnmL] at hC1
            have hRx := HR.out
            rw [hdr] at hRx
            obtain ⟨huL, huG⟩ := HUPK.out j x hxg
            rw [Nat.zero_add] at huL huG
            have HUL := Lib.hid huL
            have HUG := Lib.hid huG
            have HMX := Lib.hid hmx
            have HAV := Lib.hid hav0
            have HCU := Lib.hid hC1
            have HCX := Lib.hid hCx
            have HCPM := Lib.hid hcpm
            have HNM9 := Lib.hid hnm9
            have HRX := Lib.hid hRx
            have HNA := Lib.hid hna
            have HX2 := Lib.hid hx2
            have HX3 := Lib.hid hx3
            have HTXL := Lib.hid htxL
            have hglt := HA.out.lt
            clear hdr hx hxg hcl hnm htx hna hnms hnmL htxs htxL hCx hcl2 hcpm hnm9 hC1 hRx hav0 hx1 hx2 hx3 huL huG hmx
            go_upto_region 12 with fail
            have zz := heap_alloc_new wr (.cells #[.string nm, .slice aa na ac, .string tx, .int .i64 x.up, .int .i64 x.at_] 53)
            have hAA := HA.out.below ((Below.refl _ _).alloc (Nat.le_refl _) (.cells #[.string nm, .slice aa na ac, .string tx, .int .i64 x.up, .int .i64 x.at_] 53))
            have hltA : wr.heap.size < (wr.alloc (.cells #[.string nm, .slice aa na ac, .string tx, .int .i64 x.up, .int .i64 x.at_] 53)).heap.size := by rw [sz_alloc]; omega
            generalize wr.alloc (.cells #[.string nm, .slice aa na ac, .string tx, .int .i64 x.up, .int .i64 x.at_] 53) = wa at zz hAA hltA ⊢
            have HCO : Hid (∀ W : World, Below wa.heap.size wa W → W.cell? ⟨wr.heap.size, 0, none⟩ = some (.string nm) ∧ W.cell? ⟨wr.heap.size, 1, none⟩ = some (.slice aa na ac) ∧ W.cell? ⟨wr.heap.size, 2, none⟩ = some (.string tx) ∧ W.cell? ⟨wr.heap.size, 3, none⟩ = some (.int .i64 x.up) ∧ W.cell? ⟨wr.heap.size, 4, none⟩ = some (.int .i64 x.at_)) := fun W hW => by
              have zw := (hW.block _ hltA).trans zz
              exact ⟨cell_of_row _ _ 0 _ _ _ zw, cell_of_row _ _ 1 _ _ _ zw, cell_of_row _ _ 2 _ _ _ zw, cell_of_row _ _ 3 _ _ _ zw, cell_of_row _ _ 4 _ _ _ zw⟩
            have HZZ := Lib.hid zz
            have HAA := Lib.hid hAA
            have HLA := Lib.hid hltA
            have HGLT := Lib.hid hglt
            clear zz hAA hltA y0 y1 y2 y3 y4 hglt
            go_upto_if 63 with (first
                  | (refine wpList_insSc _ rfl _ (.const (.string ⟨#[]⟩)) _ 97 rfl Tryz.underlying97 wa.heap.size 0 [] rfl (sc_made wa) (by rw [HMX.out]; omega) ⟨#[]⟩ ⟨#[]⟩ rfl rfl (Nat.zero_le _) (Nat.zero_le _) ?_; intro w1 hs1 hg1; have HS1 := Lib.hid hs1; have HW1 := Lib.hid (((Below.refl _ wa).alloc (Nat.le_refl _) _).grown hg1 (by rw [sz_alloc]; omega) (fun j hj => by cases hj; exact Nat.le_refl _)); clear hs1 hg1)
                  | (refine wpList_insSc _ rfl _ (.const (.string ⟨#[120, 109, 108]⟩)) _ 97 rfl Tryz.underlying97 wa.heap.size 1 [([], [])] rfl HS1.out (by rw [HMX.out]; omega) ⟨#[120, 109, 108]⟩ ⟨Sp.xmlSpace.toArray⟩ rfl rfl (by rw [HMX.out]; decide) (by rw [HMX.out]; decide) ?_; intro w2 hs2 hg2; have HS2 : Hid (ScAt w2 wa.heap.size 2 [(Sp.xmlB, Sp.xmlSpace), ([], [])]) := hs2; have HW2 := Lib.hid (HW1.out.grown hg2 HW1.out.size (fun j hj => by cases hj; exact Nat.le_refl _)); clear hs2 hg2))
            go_cut [11] (fun s11 wx => ∃ b, s11 = .map (some b) ∧ Hid (ScAt wx b (10 + 100000 * j) (Sp.aroundS scs j x)) ∧ Hid (Below wa.heap.size wa wx))
            case first =>
              by_cases hj2 : j = 0
              · have hjd : decide (0 < j) = false := by simp; omega
                have hjn : ¬ (0 < j) := by omega
                have hAR : Sp.aroundS scs j x = Sp.baseS := by unfold Sp.aroundS; rw [if_pos hj2]
                have HAR := Lib.hid hAR
                clear hj2 hAR
                go_wp2_with fail
                go_meet
                exact ⟨wa.heap.size, rfl, (by show ScAt _ _ _ _; rw [HAR.out]; exact (HS2.out.congr base_look).mono (by omega)), HW2⟩
              · have hjd : decide (0 < j) = true := by simp; omega
                have hjp : 0 < j := by omega
                obtain ⟨u, hu⟩ : ∃ u : Nat, x.up = (u : Int) := ⟨x.up.toNat, by have := HUG.out hjp; omega⟩
                have huj : u < j := by have := HUL.out; omega
                obtain ⟨su, hsu⟩ : ∃ su, scs[u]? = some su := ⟨_, List.getElem?_eq_getElem (by rw [HSL.out]; exact huj)⟩
                have hAR : Sp.aroundS scs j x = su := by
                  unfold Sp.aroundS
                  rw [if_neg hj2, hu, Int.toNat_natCast, List.getD_eq_getElem?_getD, hsu]
                  rfl
                have hu0 : (0 : Int) ≤ u := by omega
                have hu1 : (u : Int) < n := by omega
                have HAR := Lib.hid hAR
                have HSU := Lib.hid hsu
                have HU := Lib.hid hu
                clear hj2 hAR hsu hu
                obtain ⟨-, -, -, z3, -⟩ := HCO.out _ HW2.out
                rw [HU.out] at z3
                obtain ⟨bu, kc, hsu2⟩ := (HAA.out.below HW2.out).look HSU.out
                have HSU2 := Lib.hid hsu2
                clear hsu2
                go_wp2_with fail
                go_meet
                exact ⟨bu, rfl, (by show ScAt _ _ _ _; rw [HAR.out]; exact HSU2.out.mono (by omega)), HW2⟩
            case rest =>
              obtain ⟨b, rfl, HSB, HWC⟩ := hcut
              apply_assumption
              obtain ⟨z0, z1, z2, z3, z4⟩ := HCO.out _ HWC.out
              have hn1 : 10 + 100000 * j ≤ 1000000000000 := by omega
              have HN1 := Lib.hid hn1
              have HL1 : Hid (x.attrs.length ≤ 1000000) := by show _ ≤ _; have := HX2.out; have := HNA.out; omega
              have HL2 : Hid (x.attrs.length ≤ 60000) := by show _ ≤ _; have := HX2.out; have := HNA.out; omega
              clear hn1 HA
              cases cb with
              | false =>
                have HEL : Hid (Sp.elemS scs j x = .error (x.at_, 101)) := by show _ = _; unfold Sp.elemS; rw [HCX.out, if_pos (.inl rfl)]
                go_wp2_with (first
                  | (go_at_call 64; go_must (refine (scut_calls nm _ HNM9.out cp cl false HCU.out).mono ?_); rintro e w2 ⟨⟨q, lq, rfl, hqL, hlqL⟩, hb2⟩; have HW2 := Lib.hid (below_then HWC.out hb2); have HS2 := Lib.hid (HSB.out.below hb2); clear z0 z1 z2 z3 z4; obtain ⟨z0, z1, z2, z3, z4⟩ := HCO.out _ HW2.out; (have hqm : q.size ≤ maxLen := by (rw [← L_length, hqL]; exact HCPM.out)); have HQL := Lib.hid hqL; have HLQ := Lib.hid hlqL; have HQM := Lib.hid hqm; clear hb2 hqL hlqL hqm))
                go_quiet (fail)
                go_wp2_with fail
                go_ret3
                have hR := HRX.out
                rw [runS_err HEL.out] at hR
                subst hR
                exact ⟨below_drewN (below_then HAA.out.bel HW2.out) _, rfl⟩
              | true =>
                by_cases hx1 : cp = Sp.xmlnsB
                · have HEL : Hid (Sp.elemS scs j x = .error (x.at_, 101)) := by show _ = _; unfold Sp.elemS; rw [HCX.out, if_pos (.inr hx1)]
                  have HQX : Hid ((cp == [120, 109, 108, 110, 115]) = true) := by show _ = _; rw [hx1]; rfl
                  clear hx1
                  go_wp2_with (first
                    | (go_at_call 64; go_must (refine (scut_calls nm _ HNM9.out cp cl true HCU.out).mono ?_); rintro e w2 ⟨⟨q, lq, rfl, hqL, hlqL⟩, hb2⟩; have HW2 := Lib.hid (below_then HWC.out hb2); have HS2 := Lib.hid (HSB.out.below hb2); clear z0 z1 z2 z3 z4; obtain ⟨z0, z1, z2, z3, z4⟩ := HCO.out _ HW2.out; (have hqx : (q.toList == [120, 109, 108, 110, 115]) = true := by (rw [toList_L, hqL]; exact HQX.out)); (have hqm : q.size ≤ maxLen := by (rw [← L_length, hqL]; exact HCPM.out)); have HQL := Lib.hid hqL; have HLQ := Lib.hid hlqL; have HQM := Lib.hid hqm; clear hb2 hqL hlqL hqm))
                  go_quiet (fail)
                  go_wp2_with fail
                  go_ret3
                  have hR := HRX.out
                  rw [runS_err HEL.out] at hR
                  subst hR
                  exact ⟨below_drewN (below_then HAA.out.bel HW2.out) _, rfl⟩
                · have HQX : Hid ((cp == [120, 109, 108, 110, 115]) = false) := by show _ = _; rw [beq_eq_false_iff_ne]; exact hx1
                  have hel0 : Sp.elemS scs j x = match Sp.withS (Sp.aroundS scs j x) x.attrs with | .error f => .error f | .ok sc => match sc.lookup cp with | none => .error (x.at_, 101) | some s => match Sp.attrsS sc [] x.attrs [] with | .error f => .error f | .ok la => .ok (sc, ⟨s, cl, la, x.text, x.up, x.at_⟩) := by
                    unfold Sp.elemS
                    rw [HCX.out, if_neg (by rintro (h | h); exact absurd h (by simp); exact hx1 h)]
                    rfl
                  clear hx1
                  cases hws : Sp.withS (Sp.aroundS scs j x) x.attrs with
                  | error f =>
                    rw [hws] at hel0
                    have HEL : Hid (Sp.elemS scs j x = .error f) := hel0
                    have hf := withS_code _ _ _ hws
                    have hfz : ((f.2 : Int) != 0) = true := by rw [hf]; rfl
                    have HWS := Lib.hid hws
                    clear hel0 hws hf
                    go_wp2_with (first
                      | (go_at_call 64; go_must (refine (scut_calls nm _ HNM9.out cp cl true HCU.out).mono ?_); rintro e w2 ⟨⟨q, lq, rfl, hqL, hlqL⟩, hb2⟩; have HW2 := Lib.hid (below_then HWC.out hb2); have HS2 := Lib.hid (HSB.out.below hb2); clear z0 z1 z2 z3 z4; obtain ⟨z0, z1, z2, z3, z4⟩ := HCO.out _ HW2.out; (have hqx : (q.toList == [120, 109, 108, 110, 115]) = false := by (rw [toList_L, hqL]; exact HQX.out)); (have hqm : q.size ≤ maxLen := by (rw [← L_length, hqL]; exact HCPM.out)); have HQL := Lib.hid hqL; have HLQ := Lib.hid hlqL; have HQM := Lib.hid hqm; clear hb2 hqL hlqL hqm)
                      | (go_at_call 65; go_must (refine (with_calls _ b (10 + 100000 * j) (Sp.aroundS scs j x) HS2.out _ x.attrs (HAV.out.below (below_then HAA.out.bel HW2.out)) HL1.out HN1.out HX3.out _ HWS.out).mono ?_); rintro e w3 ⟨hb3, rfl⟩; have HW3 := Lib.hid (below_then HW2.out hb3); clear hb3))
                    go_ret3
                    have hR := HRX.out
                    rw [runS_err HEL.out] at hR
                    subst hR
                    exact ⟨below_then HAA.out.bel HW3.out, rfl⟩
                  | ok sc =>
                    rw [hws] at hel0
                    simp only at hel0
                    have HWS := Lib.hid hws
                    clear hws
                    cases hlk : sc.lookup cp with
                    | none =>
                      rw [hlk] at hel0
                      have HEL : Hid (Sp.elemS scs j x = .error (x.at_, 101)) := hel0
                      have HLK := Lib.hid hlk
                      clear hel0 hlk
                      go_wp2_with (first
                        | (go_at_call 64; go_must (refine (scut_calls nm _ HNM9.out cp cl true HCU.out).mono ?_); rintro e w2 ⟨⟨q, lq, rfl, hqL, hlqL⟩, hb2⟩; have HW2 := Lib.hid (below_then HWC.out hb2); have HS2 := Lib.hid (HSB.out.below hb2); clear z0 z1 z2 z3 z4; obtain ⟨z0, z1, z2, z3, z4⟩ := HCO.out _ HW2.out; (have hqx : (q.toList == [120, 109, 108, 110, 115]) = false := by (rw [toList_L, hqL]; exact HQX.out)); (have hqm : q.size ≤ maxLen := by (rw [← L_length, hqL]; exact HCPM.out)); have HQL := Lib.hid hqL; have HLQ := Lib.hid hlqL; have HQM := Lib.hid hqm; clear hb2 hqL hlqL hqm)
                        | (go_at_call 65; go_must (refine (with_calls _ b (10 + 100000 * j) (Sp.aroundS scs j x) HS2.out _ x.attrs (HAV.out.below (below_then HAA.out.bel HW2.out)) HL1.out HN1.out HX3.out _ HWS.out).mono ?_); rintro e w3 ⟨hb3, rfl, hs3⟩; have HW3 := Lib.hid (below_then HW2.out hb3); have HS3 := Lib.hid hs3; clear z0 z1 z2 z3 z4; obtain ⟨z0, z1, z2, z3, z4⟩ := HCO.out _ HW3.out; clear hb3 hs3)
                        | (go_at_call 66; go_must (refine (smeans_none _ _ _ sc HS3.out q HQM.out (by rw [HQL.out]; exact HLK.out)).mono ?_); rintro e w4 ⟨⟨sp, rfl⟩, rfl⟩))
                      go_quiet (fail)
                      go_wp2_with fail
                      go_ret3
                      have hR := HRX.out
                      rw [runS_err HEL.out] at hR
                      subst hR
                      exact ⟨below_drewN (below_then HAA.out.bel HW3.out) _, rfl⟩
                    | some sv =>
                      rw [hlk] at hel0
                      simp only at hel0
                      have HLK := Lib.hid hlk
                      clear hlk
                      cases has : Sp.attrsS sc [] x.attrs [] with
                      | error f =>
                        rw [has] at hel0
                        have HEL : Hid (Sp.elemS scs j x = .error f) := hel0
                        have hf := attrsS_code _ _ _ _ _ has
                        have hfz : ((f.2 : Int) != 0) = true := by rw [bne_iff_ne]; omega
                        have HAS := Lib.hid has
                        clear hel0 has hf
                        go_wp2_with (first
                          | (go_at_call 64; go_must (refine (scut_calls nm _ HNM9.out cp cl true HCU.out).mono ?_); rintro e w2 ⟨⟨q, lq, rfl, hqL, hlqL⟩, hb2⟩; have HW2 := Lib.hid (below_then HWC.out hb2); have HS2 := Lib.hid (HSB.out.below hb2); clear z0 z1 z2 z3 z4; obtain ⟨z0, z1, z2, z3, z4⟩ := HCO.out _ HW2.out; (have hqx : (q.toList == [120, 109, 108, 110, 115]) = false := by (rw [toList_L, hqL]; exact HQX.out)); (have hqm : q.size ≤ maxLen := by (rw [← L_length, hqL]; exact HCPM.out)); have HQL := Lib.hid hqL; have HLQ := Lib.hid hlqL; have HQM := Lib.hid hqm; clear hb2 hqL hlqL hqm)
                          | (go_at_call 65; go_must (refine (with_calls _ b (10 + 100000 * j) (Sp.aroundS scs j x) HS2.out _ x.attrs (HAV.out.below (below_then HAA.out.bel HW2.out)) HL1.out HN1.out HX3.out _ HWS.out).mono ?_); rintro e w3 ⟨hb3, rfl, hs3⟩; have HW3 := Lib.hid (below_then HW2.out hb3); have HS3 := Lib.hid hs3; clear z0 z1 z2 z3 z4; obtain ⟨z0, z1, z2, z3, z4⟩ := HCO.out _ HW3.out; clear hb3 hs3)
                          | (go_at_call 66; go_must (refine (smeans_some _ _ _ sc HS3.out q HQM.out sv (by rw [HQL.out]; exact HLK.out)).mono ?_); rintro e w4 ⟨⟨sp, rfl, hspL, -⟩, rfl⟩; have HSPL := Lib.hid hspL; clear hspL)
                          | (go_at_call 67; go_must (refine (sattrs_calls _ _ _ sc HS3.out _ x.attrs (HAV.out.below (below_then HAA.out.bel HW3.out)) HL2.out HX3.out _ HAS.out).mono ?_); rintro e w5 ⟨hb5, rfl⟩; have HW5 := Lib.hid (below_then HW3.out hb5); clear hb5))
                        go_ret3
                        have hR := HRX.out
                        rw [runS_err HEL.out] at hR
                        subst hR
                        exact ⟨below_then HAA.out.bel HW5.out, rfl⟩
                      | ok la =>
                        rw [has] at hel0
                        have HEL : Hid (Sp.elemS scs j x = .ok (sc, ⟨sv, cl, la, x.text, x.up, x.at_⟩)) := hel0
                        have HAS := Lib.hid has
                        clear hel0 has
                        go_upto_region 28 with (first
                          | (go_at_call 64; go_must (refine (scut_calls nm _ HNM9.out cp cl true HCU.out).mono ?_); rintro e w2 ⟨⟨q, lq, rfl, hqL, hlqL⟩, hb2⟩; have HW2 := Lib.hid (below_then HWC.out hb2); have HS2 := Lib.hid (HSB.out.below hb2); clear z0 z1 z2 z3 z4; obtain ⟨z0, z1, z2, z3, z4⟩ := HCO.out _ HW2.out; (have hqx : (q.toList == [120, 109, 108, 110, 115]) = false := by (rw [toList_L, hqL]; exact HQX.out)); (have hqm : q.size ≤ maxLen := by (rw [← L_length, hqL]; exact HCPM.out)); have HQL := Lib.hid hqL; have HLQ := Lib.hid hlqL; have HQM := Lib.hid hqm; clear hb2 hqL hlqL hqm)
                          | (go_at_call 65; go_must (refine (with_calls _ b (10 + 100000 * j) (Sp.aroundS scs j x) HS2.out _ x.attrs (HAV.out.below (below_then HAA.out.bel HW2.out)) HL1.out HN1.out HX3.out _ HWS.out).mono ?_); rintro e w3 ⟨hb3, rfl, hs3⟩; have HW3 := Lib.hid (below_then HW2.out hb3); have HS3 := Lib.hid hs3; clear z0 z1 z2 z3 z4; obtain ⟨z0, z1, z2, z3, z4⟩ := HCO.out _ HW3.out; clear hb3 hs3)
                          | (go_at_call 66; go_must (refine (smeans_some _ _ _ sc HS3.out q HQM.out sv (by rw [HQL.out]; exact HLK.out)).mono ?_); rintro e w4 ⟨⟨sp, rfl, hspL, -⟩, rfl⟩; have HSPL := Lib.hid hspL; clear hspL)
                          | (go_at_call 67; go_must (refine (sattrs_calls _ _ _ sc HS3.out _ x.attrs (HAV.out.below (below_then HAA.out.bel HW3.out)) HL2.out HX3.out _ HAS.out).mono ?_); rintro e w5 ⟨hb5, v5, rfl, hsa5⟩; obtain ⟨va5, vc5, rfl⟩ := own_len hsa5; have HW5 := Lib.hid (below_then HW3.out hb5); have HS5 := Lib.hid (HS3.out.below hb5); have HSA5 := Lib.hid (row_lower hsa5 (Nat.le_trans HAA.out.bel.size HW3.out.size)); have HA5 := Lib.hid (HAA.out.below HW5.out); obtain ⟨kv, kc, kf⟩ := HA5.out.cell hlt; clear hb5 hsa5))
                        have hst := HA5.out.store (b' := w2.heap.size) (sc' := sc) (HS5.out.mono (by rw [HSL.out]; have := HX2.out; have := HNA.out; omega)) (Nat.le_trans HAA.out.bel.size HW2.out.size) (by rw [HSL.out]; exact hlt)
                        rw [HSL.out] at hst
                        have zz6 := (hst.2.block wr.heap.size (Nat.lt_of_lt_of_le HLA.out HW5.out.size) (fun e => by injection e with e; have := HGLT.out; omega)).trans ((HW5.out.block _ HLA.out).trans HZZ.out)
                        have hsa6 : SasAt w.heap.size (w5.setCell ⟨wr0.heap.size, j, none⟩ (.map (some w2.heap.size))) (.slice va5 la.length vc5) la := by
                          obtain ⟨cur, hcur, _⟩ := HA5.out.scs
                          exact World.ownsRow.kept HSA5.out hst.2 (.inr (own_ne HSA5.out hcur (by decide)))
                        generalize w5.setCell ⟨wr0.heap.size, j, none⟩ (.map (some w2.heap.size)) = w6 at hst zz6 hsa6 ⊢
                        have z2 : w6.cell? ⟨wr.heap.size, 2, none⟩ = some (.string tx) := cell_of_row _ _ 2 _ _ _ zz6
                        have z3 : w6.cell? ⟨wr.heap.size, 3, none⟩ = some (.int .i64 x.up) := cell_of_row _ _ 3 _ _ _ zz6
                        have z4 : w6.cell? ⟨wr.heap.size, 4, none⟩ = some (.int .i64 x.at_) := cell_of_row _ _ 4 _ _ _ zz6
                        have HA6 := Lib.hid hst.1
                        have HSA6 := Lib.hid hsa6
                        clear hst zz6 hsa6 kc kf
                        go_wp2_with (at_builtin; refine wpList_appSE rfl (.tmp 122) (.tmp 133) rfl (base := w.heap.size) (wr := w6) (W := w6) (av := .slice va5 la.length vc5) ⟨L sp, L lq, la, L tx, x.up, x.at_⟩ (by rfl) HA6.out.ses (Below.refl _ _) HSA6.out HA6.out.bel.size (by rw [HAL.out]; omega) #[.string sp, .string lq, .slice va5 la.length vc5, .string tx, .int .i64 x.up, .int .i64 x.at_] (by simp only [seCells, bs_L]) (by rfl) ?_; intro v7 w7 ho7 hg7 hb7; have HA7 := Lib.hid (HA6.out.app ho7 hg7 hb7); clear ho7 hg7 hb7)
                        go_roundg (gk0 - 1)
                        case measure => omega
                        case rel =>
                          have hR := HRX.out
                          rw [runS_ok HEL.out, ← HSPL.out, ← HLQ.out, ← HTXL.out] at hR
                          exact ⟨j + 1, scs ++ [sc], acc ++ [(⟨L sp, L lq, la, L tx, x.up, x.at_⟩ : Sp.SE)], by simp, by omega, by omega, (by show (scs ++ _).length = _; rw [List.length_append, HSL.out]; rfl), (by show (acc ++ _).length = _; rw [List.length_append, HAL.out]; rfl), HA7, hR⟩
          · have hj' : n = j := by omega
            subst hj'
            have hd : decide ((n : Int) < n) = false := by simp
            go_wp2_with fail
            go_ret3
            have hR := HR.out
            rw [List.drop_eq_nil_of_le (by rw [HN.out]; exact Nat.le_refl _)] at hR
            subst hR
            exact ⟨HA.out.bel, _, rfl, HA.out.ses⟩
end Go.Proofs.YtokdclmikllepaaGreatDoor
