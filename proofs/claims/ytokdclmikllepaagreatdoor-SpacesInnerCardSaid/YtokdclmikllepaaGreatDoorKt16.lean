import Derived.Test.YtokdclmikllepaaGreatDoorKt15
namespace Go.Proofs.YtokdclmikllepaaGreatDoor
open Go.RowKit
set_option linter.unusedVariables false
set_option linter.unusedSimpArgs false

/-- How attr ends behind a quote at v. -/
def AttrMid (g : Nat) (s : ByteArray) (p fr : Nat) (out : Value) (q v : Nat) (R : Except Sp.Flt (Sp.Bs × Nat)) (w : World) (e : Ending) (w' : World) : Prop :=
  Only g w w' ∧ match R with
  | .error f => e = pan f
  | .ok (t, n) => if v + 1 + n < s.size then e = .returned (.agg #[.string (s.extract p q), .string ⟨t.toArray⟩, .int .i64 p]) ∧ Rd w' g s (v + 1 + n + 1) fr out else e = pan (fr, 84)

set_option maxHeartbeats 8000000 in
set_option maxRecDepth 100000 in
theorem attr_noquote (s : ByteArray) (g p fr : Nat) (out : Value) (w : World) (hG : Gl w) (hr : Rd w g s p fr out) (hs : s.size ≤ 65536) (hp : p ≤ s.size) (q : Nat) (hq : nm (s.size - p + 1) true s p = q) (hne : p < q)
    (u : Nat) (hu : bl s q = u) (hul : u < s.size) (hc : s[u] = 61) (v : Nat) (hv : bl s (u + 1) = v) (h34 : ([34] : List UInt8).isPrefixOf ((L s).drop v) = false) (h39 : ([39] : List UInt8).isPrefixOf ((L s).drop v) = false) :
    Calls Tryz.prog 126 #[.pointer (some ⟨g, 0, none⟩)] w (fun e w' => e = pan (Sp.stop fr v ((L s).drop v)) ∧ Only g w w') := by
  have h1 := hr.c1
  have hglt := hr.lt
  have hqs := nm_le (s.size - p + 1) true s p hp
  rw [hq] at hqs
  have hqs2 := hqs.2
  have hvs := bl_le s (u + 1) (by omega)
  rw [hv] at hvs
  have hvs2 := hvs.2
  have HL := Lib.hid (Loc.start hr)
  have HQ := Lib.hid hq
  have HU := Lib.hid hu
  have HC := Lib.hid hc
  have HV := Lib.hid hv
  have H34 := Lib.hid h34
  have H39 := Lib.hid h39
  clear h34 h39
  clear hq hu hc hqs hv hvs
  go_enter Tryz.func126, Tryz.ntmps126
  go_wp2_with fail
  refine (name_calls s g p fr out _ HL.out.rd (by omega) hp q HQ.out hne).mono ?_
  rintro e w1 ⟨rfl, ho, hr1⟩
  have HL1 := Lib.hid (HL.out.goes ho hr1)
  clear ho hr1
  have hx := cell_of_row w1 (w.heap.size + 1) 0 _ _ _ HL1.out.box
  have hf := HL1.out.fz 0
  go_wp2_with fail
  have HL2 := Lib.hid (HL1.out.setName (s.extract p q))
  clear hx hf
  refine (blanks_calls s g q fr out _ HL2.out.rd (by omega) hqs2).mono ?_
  rintro e w2 ⟨rfl, ho, hr2⟩
  rw [HU.out] at hr2
  have HL3 := Lib.hid (HL2.out.goes ho hr2)
  clear ho hr2
  go_wp2_with fail
  refine (want_is s 61 61 rfl g u fr out _ HL3.out.rd (by omega) hul HC.out).mono ?_
  rintro e w3 ⟨rfl, ho, hr3⟩
  have HL4 := Lib.hid (HL3.out.goes ho hr3)
  clear ho hr3
  go_wp2_with fail
  refine (blanks_calls s g (u + 1) fr out _ HL4.out.rd (by omega) (by omega)).mono ?_
  rintro e w4 ⟨rfl, ho, hr4⟩
  rw [HV.out] at hr4
  have HL5 := Lib.hid (HL4.out.goes ho hr4)
  clear ho hr4
  go_wp2_with fail
  refine (has_calls s ⟨#[34]⟩ g v fr out _ HL5.out.rd (by omega) hvs2).mono ?_
  rintro e w5 ⟨he, n5, rfl⟩
  rw [show (L ⟨#[34]⟩).isPrefixOf ((L s).drop v) = false from H34.out] at he
  subst he
  go_wp2_with fail
  refine (has_calls s ⟨#[39]⟩ g v fr out _ (HL5.out.drewN _).rd (by omega) hvs2).mono ?_
  rintro e w6 ⟨he, n6, rfl⟩
  rw [show (L ⟨#[39]⟩).isPrefixOf ((L s).drop v) = false from H39.out] at he
  subst he
  go_wp2_with fail
  refine (stop_calls s g v fr out _ (HL5.out.drewN _).rd (by omega)).mono ?_
  rintro e w7 ⟨he, n7, rfl⟩
  have ho := (HL5.out.drewN (n5 + n6 + n7)).only
  unfold pan at he
  subst he
  go_wp2_with fail
  exact ⟨rfl, rfl, ho⟩

set_option maxHeartbeats 8000000 in
set_option maxRecDepth 100000 in
theorem attr_text34 (s : ByteArray) (g p fr : Nat) (out : Value) (w : World) (hG : Gl w) (hr : Rd w g s p fr out) (hs : s.size ≤ 65536) (hp : p ≤ s.size) (q : Nat) (hq : nm (s.size - p + 1) true s p = q) (hne : p < q)
    (u : Nat) (hu : bl s q = u) (hul : u < s.size) (hc : s[u] = 61) (v : Nat) (hv : bl s (u + 1) = v) (h34 : ([34] : List UInt8).isPrefixOf ((L s).drop v) = true) (hvl : v < s.size) (c : UInt8) (hve : s[v] = c) (hcc : c = 34) (hU : U8 ((L s).drop (v + 1))) (R : Except Sp.Flt (Sp.Bs × Nat)) (hR : Sp.text c true fr (s.size - (v + 1) + 1) (v + 1) ((L s).drop (v + 1)) [] 0 = R) :
    Calls Tryz.prog 126 #[.pointer (some ⟨g, 0, none⟩)] w (AttrMid g s p fr out q v R w) := by
  have h1 := hr.c1
  have hglt := hr.lt
  have hqs := nm_le (s.size - p + 1) true s p hp
  rw [hq] at hqs
  have hqs2 := hqs.2
  have hvs := bl_le s (u + 1) (by omega)
  rw [hv] at hvs
  have hvs2 := hvs.2
  have HL := Lib.hid (Loc.start hr)
  have HQ := Lib.hid hq
  have HU := Lib.hid hu
  have HC := Lib.hid hc
  have HV := Lib.hid hv
  have H34 := Lib.hid h34
  subst hve
  have hk1 : s[v] ≠ 38 := by rw [hcc]; decide
  have hk2 : s[v] ≠ 60 := by rw [hcc]; decide
  have hk3 : s[v].toNat < 128 := by rw [hcc]; decide
  have HT : Hid (∀ W, Gl W → Rd W g s (v + 1) fr out → Calls Tryz.prog 127 #[.pointer (some ⟨g, 0, none⟩), .int .u8 (s[v].toNat : Int), .bool true, .func (.func 148) #[] #[]] W (TextEnd true g s (v + 1) fr out R W)) := fun W a b => hR ▸ text_flat s s[v] _ rfl hk1 hk2 g (v + 1) fr out W a b hs (by omega) hk3 hU
  have HG := Lib.hid hG
  have hv0 : (0 : Int) ≤ v := by omega
  have hv1 : (v : Int) < s.size := by omega
  clear h34 hcc hR hU hG hk1 hk2 hk3
  clear hq hu hc hqs hv hvs
  go_enter Tryz.func126, Tryz.ntmps126
  go_wp2_with fail
  refine (name_calls s g p fr out _ HL.out.rd (by omega) hp q HQ.out hne).mono ?_
  rintro e w1 ⟨rfl, ho, hr1⟩
  have HL1 := Lib.hid (HL.out.goes ho hr1)
  clear ho hr1
  have hx := cell_of_row w1 (w.heap.size + 1) 0 _ _ _ HL1.out.box
  have hf := HL1.out.fz 0
  go_wp2_with fail
  have HL2 := Lib.hid (HL1.out.setName (s.extract p q))
  clear hx hf
  refine (blanks_calls s g q fr out _ HL2.out.rd (by omega) hqs2).mono ?_
  rintro e w2 ⟨rfl, ho, hr2⟩
  rw [HU.out] at hr2
  have HL3 := Lib.hid (HL2.out.goes ho hr2)
  clear ho hr2
  go_wp2_with fail
  refine (want_is s 61 61 rfl g u fr out _ HL3.out.rd (by omega) hul HC.out).mono ?_
  rintro e w3 ⟨rfl, ho, hr3⟩
  have HL4 := Lib.hid (HL3.out.goes ho hr3)
  clear ho hr3
  go_wp2_with fail
  refine (blanks_calls s g (u + 1) fr out _ HL4.out.rd (by omega) (by omega)).mono ?_
  rintro e w4 ⟨rfl, ho, hr4⟩
  rw [HV.out] at hr4
  have HL5 := Lib.hid (HL4.out.goes ho hr4)
  clear ho hr4
  go_wp2_with fail
  refine (has_calls s ⟨#[34]⟩ g v fr out _ HL5.out.rd (by omega) hvs2).mono ?_
  rintro e w5 ⟨he, n5, rfl⟩
  rw [show (L ⟨#[34]⟩).isPrefixOf ((L s).drop v) = true from H34.out] at he
  subst he
  go_wp2_with fail
  have HL6 := Lib.hid (HL5.out.drewN n5)
  have h0 := HL5.out.rd.c0
  have h1 := HL5.out.rd.c1
  have hf1 := HL5.out.rd.fz 1
  go_quiet (fail)
  go_wp2_with fail
  have HL7 : ∀ z, Hid (Loc g s p fr out w (v + 1) (s.extract p q) ⟨#[]⟩ ((w4.drewN z).setCell ⟨g, 1, none⟩ (.int .i64 ((v : Int) + 1)))) := fun z => Lib.hid ((HL5.out.drewN z).goes ((Only.refl g _).set 1 _) (Rd.set1 (HL5.out.drewN z).rd (v + 1)))
  clear h0 h1 hf1 HL6
  refine (HT.out _ (HG.out.only hr.1 (HL7 _).out.only) (HL7 _).out.rd).mono ?_
  rintro e w6 ⟨ho, he⟩
  clear HT
  cases R with
  | error f =>
    have he : e = pan f := he
    have ho2 := (HL7 _).out.only.trans ho
    unfold pan at he
    subst he
    go_wp2_with fail
    exact ⟨rfl, ho2, rfl⟩
  | ok r =>
    obtain ⟨t, n⟩ := r
    have he : (if true = false then _ else if v + 1 + n < s.size then e = .returned (.string ⟨t.toArray⟩) ∧ Rd w6 g s (v + 1 + n + 1) fr out else e = pan (fr, 84)) := he
    rw [if_neg (by simp)] at he
    by_cases hlt : v + 1 + n < s.size
    · rw [if_pos hlt] at he
      obtain ⟨rfl, hr6⟩ := he
      have HL8 := Lib.hid ((HL7 _).out.goes ho hr6)
      clear ho hr6 HL7
      have hx := cell_of_row w6 (w.heap.size + 1) 1 _ _ _ HL8.out.box
      have hf := HL8.out.fz 1
      have hx0 := cell_of_row w6 (w.heap.size + 1) 0 _ _ _ HL8.out.box
      have hx2 := cell_of_row w6 (w.heap.size + 1) 2 _ _ _ HL8.out.box
      have y0 := cell_of_row w6 w.heap.size 0 _ _ _ HL8.out.res
      have y1 := cell_of_row w6 w.heap.size 1 _ _ _ HL8.out.res
      have y2 := cell_of_row w6 w.heap.size 2 _ _ _ HL8.out.res
      have z0 : ∀ i, w6.frozen? ⟨w.heap.size, i, none⟩ = false := fun i => by have h2 := HL8.out.res; simp [World.frozen?, h2]
      have z1 := z0 0
      have z2 := z0 1
      have z3 := z0 2
      clear z0
      go_wp2_with fail
      generalize hW : ((((w6.setCell _ _).setCell _ _).setCell _ _).setCell _ _) = W'
      obtain ⟨f1, f2, f3, f4, f5⟩ := (HL8.out.setVal ⟨t.toArray⟩).fin _ _ _ hW
      clear hW hx hf hx0 hx2 y0 y1 y2 z1 z2 z3
      refine bodyPost_ret (v := .agg #[.string (s.extract p q), .string ⟨t.toArray⟩, .int .i64 p]) ?_ rfl ?_
      · simp [results, Tryz.f126, go_sem, f3, f4, f5]
      · refine ⟨f1, ?_⟩
        show (if _ then _ else _)
        rw [if_pos hlt]
        exact ⟨rfl, f2⟩
    · rw [if_neg hlt] at he
      have ho2 := (HL7 _).out.only.trans ho
      unfold pan at he
      subst he
      go_wp2_with fail
      refine ⟨rfl, ho2, ?_⟩
      show (if _ then _ else _)
      rw [if_neg hlt]; rfl

set_option maxHeartbeats 8000000 in
set_option maxRecDepth 100000 in
theorem attr_text39 (s : ByteArray) (g p fr : Nat) (out : Value) (w : World) (hG : Gl w) (hr : Rd w g s p fr out) (hs : s.size ≤ 65536) (hp : p ≤ s.size) (q : Nat) (hq : nm (s.size - p + 1) true s p = q) (hne : p < q)
    (u : Nat) (hu : bl s q = u) (hul : u < s.size) (hc : s[u] = 61) (v : Nat) (hv : bl s (u + 1) = v) (h34 : ([34] : List UInt8).isPrefixOf ((L s).drop v) = false) (h39 : ([39] : List UInt8).isPrefixOf ((L s).drop v) = true) (hvl : v < s.size) (c : UInt8) (hve : s[v] = c) (hcc : c = 39) (hU : U8 ((L s).drop (v + 1))) (R : Except Sp.Flt (Sp.Bs × Nat)) (hR : Sp.text c true fr (s.size - (v + 1) + 1) (v + 1) ((L s).drop (v + 1)) [] 0 = R) :
    Calls Tryz.prog 126 #[.pointer (some ⟨g, 0, none⟩)] w (AttrMid g s p fr out q v R w) := by
  have h1 := hr.c1
  have hglt := hr.lt
  have hqs := nm_le (s.size - p + 1) true s p hp
  rw [hq] at hqs
  have hqs2 := hqs.2
  have hvs := bl_le s (u + 1) (by omega)
  rw [hv] at hvs
  have hvs2 := hvs.2
  have HL := Lib.hid (Loc.start hr)
  have HQ := Lib.hid hq
  have HU := Lib.hid hu
  have HC := Lib.hid hc
  have HV := Lib.hid hv
  have H34 := Lib.hid h34
  have H39 := Lib.hid h39
  subst hve
  have hk1 : s[v] ≠ 38 := by rw [hcc]; decide
  have hk2 : s[v] ≠ 60 := by rw [hcc]; decide
  have hk3 : s[v].toNat < 128 := by rw [hcc]; decide
  have HT : Hid (∀ W, Gl W → Rd W g s (v + 1) fr out → Calls Tryz.prog 127 #[.pointer (some ⟨g, 0, none⟩), .int .u8 (s[v].toNat : Int), .bool true, .func (.func 148) #[] #[]] W (TextEnd true g s (v + 1) fr out R W)) := fun W a b => hR ▸ text_flat s s[v] _ rfl hk1 hk2 g (v + 1) fr out W a b hs (by omega) hk3 hU
  have HG := Lib.hid hG
  have hv0 : (0 : Int) ≤ v := by omega
  have hv1 : (v : Int) < s.size := by omega
  clear h34 hcc hR hU hG hk1 hk2 hk3 h39
  clear hq hu hc hqs hv hvs
  go_enter Tryz.func126, Tryz.ntmps126
  go_wp2_with fail
  refine (name_calls s g p fr out _ HL.out.rd (by omega) hp q HQ.out hne).mono ?_
  rintro e w1 ⟨rfl, ho, hr1⟩
  have HL1 := Lib.hid (HL.out.goes ho hr1)
  clear ho hr1
  have hx := cell_of_row w1 (w.heap.size + 1) 0 _ _ _ HL1.out.box
  have hf := HL1.out.fz 0
  go_wp2_with fail
  have HL2 := Lib.hid (HL1.out.setName (s.extract p q))
  clear hx hf
  refine (blanks_calls s g q fr out _ HL2.out.rd (by omega) hqs2).mono ?_
  rintro e w2 ⟨rfl, ho, hr2⟩
  rw [HU.out] at hr2
  have HL3 := Lib.hid (HL2.out.goes ho hr2)
  clear ho hr2
  go_wp2_with fail
  refine (want_is s 61 61 rfl g u fr out _ HL3.out.rd (by omega) hul HC.out).mono ?_
  rintro e w3 ⟨rfl, ho, hr3⟩
  have HL4 := Lib.hid (HL3.out.goes ho hr3)
  clear ho hr3
  go_wp2_with fail
  refine (blanks_calls s g (u + 1) fr out _ HL4.out.rd (by omega) (by omega)).mono ?_
  rintro e w4 ⟨rfl, ho, hr4⟩
  rw [HV.out] at hr4
  have HL5 := Lib.hid (HL4.out.goes ho hr4)
  clear ho hr4
  go_wp2_with fail
  refine (has_calls s ⟨#[34]⟩ g v fr out _ HL5.out.rd (by omega) hvs2).mono ?_
  rintro e w5 ⟨he, n5, rfl⟩
  rw [show (L ⟨#[34]⟩).isPrefixOf ((L s).drop v) = false from H34.out] at he
  subst he
  go_wp2_with fail
  refine (has_calls s ⟨#[39]⟩ g v fr out _ (HL5.out.drewN _).rd (by omega) hvs2).mono ?_
  rintro e w6 ⟨he, n6, rfl⟩
  rw [show (L ⟨#[39]⟩).isPrefixOf ((L s).drop v) = true from H39.out] at he
  subst he
  go_wp2_with fail
  have HL6 := Lib.hid (HL5.out.drewN (n5 + n6))
  have h0 := HL5.out.rd.c0
  have h1 := HL5.out.rd.c1
  have hf1 := HL5.out.rd.fz 1
  go_quiet (fail)
  go_wp2_with fail
  have HL7 : ∀ z, Hid (Loc g s p fr out w (v + 1) (s.extract p q) ⟨#[]⟩ ((w4.drewN z).setCell ⟨g, 1, none⟩ (.int .i64 ((v : Int) + 1)))) := fun z => Lib.hid ((HL5.out.drewN z).goes ((Only.refl g _).set 1 _) (Rd.set1 (HL5.out.drewN z).rd (v + 1)))
  clear h0 h1 hf1 HL6
  refine (HT.out _ (HG.out.only hr.1 (HL7 _).out.only) (HL7 _).out.rd).mono ?_
  rintro e w6 ⟨ho, he⟩
  clear HT
  cases R with
  | error f =>
    have he : e = pan f := he
    have ho2 := (HL7 _).out.only.trans ho
    unfold pan at he
    subst he
    go_wp2_with fail
    exact ⟨rfl, ho2, rfl⟩
  | ok r =>
    obtain ⟨t, n⟩ := r
    have he : (if true = false then _ else if v + 1 + n < s.size then e = .returned (.string ⟨t.toArray⟩) ∧ Rd w6 g s (v + 1 + n + 1) fr out else e = pan (fr, 84)) := he
    rw [if_neg (by simp)] at he
    by_cases hlt : v + 1 + n < s.size
    · rw [if_pos hlt] at he
      obtain ⟨rfl, hr6⟩ := he
      have HL8 := Lib.hid ((HL7 _).out.goes ho hr6)
      clear ho hr6 HL7
      have hx := cell_of_row w6 (w.heap.size + 1) 1 _ _ _ HL8.out.box
      have hf := HL8.out.fz 1
      have hx0 := cell_of_row w6 (w.heap.size + 1) 0 _ _ _ HL8.out.box
      have hx2 := cell_of_row w6 (w.heap.size + 1) 2 _ _ _ HL8.out.box
      have y0 := cell_of_row w6 w.heap.size 0 _ _ _ HL8.out.res
      have y1 := cell_of_row w6 w.heap.size 1 _ _ _ HL8.out.res
      have y2 := cell_of_row w6 w.heap.size 2 _ _ _ HL8.out.res
      have z0 : ∀ i, w6.frozen? ⟨w.heap.size, i, none⟩ = false := fun i => by have h2 := HL8.out.res; simp [World.frozen?, h2]
      have z1 := z0 0
      have z2 := z0 1
      have z3 := z0 2
      clear z0
      go_wp2_with fail
      generalize hW : ((((w6.setCell _ _).setCell _ _).setCell _ _).setCell _ _) = W'
      obtain ⟨f1, f2, f3, f4, f5⟩ := (HL8.out.setVal ⟨t.toArray⟩).fin _ _ _ hW
      clear hW hx hf hx0 hx2 y0 y1 y2 z1 z2 z3
      refine bodyPost_ret (v := .agg #[.string (s.extract p q), .string ⟨t.toArray⟩, .int .i64 p]) ?_ rfl ?_
      · simp [results, Tryz.f126, go_sem, f3, f4, f5]
      · refine ⟨f1, ?_⟩
        show (if _ then _ else _)
        rw [if_pos hlt]
        exact ⟨rfl, f2⟩
    · rw [if_neg hlt] at he
      have ho2 := (HL7 _).out.only.trans ho
      unfold pan at he
      subst he
      go_wp2_with fail
      refine ⟨rfl, ho2, ?_⟩
      show (if _ then _ else _)
      rw [if_neg hlt]; rfl
end Go.Proofs.YtokdclmikllepaaGreatDoor
