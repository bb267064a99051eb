import Derived.Test.YtokdclmikllepaaGreatDoorMe14
namespace Go.Proofs.YtokdclmikllepaaGreatDoor
open Go.RowKit
set_option linter.unusedVariables false
set_option linter.unusedSimpArgs false

theorem char_is (r : Int) (b : Bool) (w : World) (h0 : -2147483648 ≤ r) (h1 : r ≤ 2147483647) (h : Sp.isChar r = b) :
    Calls Tryz.prog 48 #[.int .i32 r] w fun e w' => e = .returned (.bool b) ∧ Below w.heap.size w w' := h ▸ char_calls r w h0 h1

theorem char_le (n : Nat) (h : Sp.isChar (n : Int) = true) : n ≤ 1114111 := by
  simp [Sp.isChar, Sp.isRune] at h; omega

theorem PuEnd.two {R : PR} {w w' : World} {e : Ending} (h : PuEnd R w e w') : (∃ n, e = .returned (.tuple #[.int .u64 n, .nilIface])) ∨ ∃ u t v, e = .returned (.tuple #[.int .u64 u, .iface t v]) := by
  cases R with
  | ok n => exact .inl ⟨n, h.2⟩
  | syn => exact .inr h.2
  | rng => exact .inr h.2

theorem PuEnd.err {R : PR} {w w' : World} {e : Ending} (h : PuEnd R w e w') (hR : ∀ n, R ≠ .ok n) : Below w.heap.size w w' ∧ ∃ u t v, e = .returned (.tuple #[.int .u64 u, .iface t v]) := by
  cases R with
  | ok n => exact absurd rfl (hR n)
  | syn => exact h
  | rng => exact h

set_option maxHeartbeats 8000000 in
set_option maxRecDepth 100000 in
theorem ref_num (s : ByteArray) (g p fr : Nat) (out : Value) (w : World) (hG : Gl w) (hr : Rd w g s p fr out) (hs : s.size ≤ 65536) (hp : p < s.size) (e : Nat) (hh : ((L s).drop p).head? = some 38) (hf : Sp.find [59] (((L s).drop p).take 12) = some e) (b : Nat) (d : List UInt8) (HYP : Sp.namedO ((((L s).drop p).drop 1).take (e - 1)) = none ∧ ((b = 16 ∧ (((L s).drop p).drop 1).take (e - 1) = 35 :: 120 :: d) ∨ (b = 10 ∧ (((L s).drop p).drop 1).take (e - 1) = 35 :: d ∧ d.head? ≠ some 120))) (n : Nat) (hd8 : d.length ≤ 8) (hd0 : d ≠ []) (hnum : Sp.number b 0 d = some n) (hch : Sp.isChar (n : Int) = true) :
    Calls Tryz.prog 151 #[.pointer (some ⟨g, 0, none⟩)] w fun e' w' => e' = .returned (.string ⟨(Sp.put (n : Int)).toArray⟩) ∧ Only g w w' ∧ Rd w' g s (p + e + 1) fr out := by
  have h0 := hr.c0
  have h1 := hr.c1
  have hf1 := hr.fz 1
  have hep := find_pos hh hf
  rw [List.length_drop, L_length] at hep
  have hep1 := hep.1
  have hep2 := hep.2.1
  have hep3 := hep.2.2
  have e1 : IntKind.i64.wrap ((p : Int) + 12) = (p : Int) + 12 := IntWalk.i64_in _ (by omega)
  have e2 : min ((p : Int) + 12) s.size = ((min (p + 12) s.size : Nat) : Int) := by omega
  have b1 : (0 : Int) ≤ p := by omega
  have b2 : (p : Int) ≤ ((min (p + 12) s.size : Nat) : Int) := by omega
  have b3 : ((min (p + 12) s.size : Nat) : Int) ≤ s.size := by omega
  have hlx : L (s.extract (p + 1) (p + e)) = (((L s).drop p).drop 1).take (e - 1) := by rw [L_extract, List.drop_drop]; congr 1; omega
  have hsx : (s.extract (p + 1) (p + e)).size ≤ 11 := by rw [← L_length, hlx]; simp; omega
  obtain ⟨x, hx⟩ : ∃ x, s.extract (p + 1) (p + e) = x := ⟨_, rfl⟩
  rw [hx] at hlx hsx
  rw [← hlx] at HYP
  have HX := Lib.hid hx
  have HF := Lib.hid hf
  have HY := Lib.hid HYP
  have HNUM := Lib.hid hnum
  have HD0 := Lib.hid hd0
  have HCH := Lib.hid hch
  clear hf hep hlx hx HYP hh hnum hd0 hch
  go_enter Tryz.func151, Tryz.ntmps151
  go_wp2_with fail
  go_quiet ((go_at_call 174; exact quiet_same (ib_is _ _ _ (take_min s p) _ HF.out)))
  have e4 : optI (some e) = (e : Int) := rfl
  rw [e4]
  clear e4 e1 e2 b2 b3
  have hset : Gl ((w.drewN 0).setCell ⟨g, 1, none⟩ (.int .i64 ((p : Int) + e + 1))) := hG.only hr.1 ((Only.refl g w).drewN _ |>.set 1 _)
  have HG : Hid (∀ n v, Gl ((w.drewN n).setCell ⟨g, 1, none⟩ v)) := fun n v => hG.only hr.1 (((Only.refl g w).drewN n).set 1 v)
  have HR : Hid (∀ n, Only g w ((w.drewN n).setCell ⟨g, 1, none⟩ (.int .i64 ((p : Int) + e + 1))) ∧ Rd ((w.drewN n).setCell ⟨g, 1, none⟩ (.int .i64 ((p : Int) + e + 1))) g s (p + e + 1) fr out) := fun n => ⟨((Only.refl g w).drewN n).set 1 _, Rd.set1 (hr.drewN n) (p + e + 1)⟩
  clear hset
  have HB : Hid (b = 10 ∨ b = 16) := by rcases HY.out.2 with ⟨h, _⟩ | ⟨h, _⟩ <;> simp [Hid, h]
  have hdl : d.length ≤ 11 := by
    have h1 := L_length x
    rcases HY.out.2 with ⟨h, h2⟩ | ⟨h, h2, _⟩
    · rw [h2] at h1; simp at h1; omega
    · rw [h2] at h1; simp at h1; omega
  have hdz : (⟨d.toArray⟩ : ByteArray).size = d.length := rfl
  have HDZ := Lib.hid hdz
  clear hdz
  rcases HY.out.2 with ⟨hb, hxd⟩ | ⟨hb, hxd, hno⟩
  case inl =>
    subst hb
    have HXD := Lib.hid hxd
    clear hxd
    go_wp2_with fail
    rw [HX.out]
    refine (named_none x _ HY.out.1).mono ?_
    rintro e' w' ⟨rfl, rfl⟩
    go_wp2_with fail
    refine (cut_yes x ⟨#[35, 120]⟩ d _ HXD.out).mono ?_
    rintro e' w' ⟨rfl, rfl⟩
    go_wp2_with fail
    refine (pu_calls 16 (.inr rfl) ⟨d.toArray⟩ _ (HG.out _ _) (by rw [HDZ.out]; omega)).mono ?_
    rw [pu_zero _ (.inr rfl) ⟨d.toArray⟩ d rfl hd8, if_neg HD0.out, HNUM.out]
    rintro e' w1 ⟨hb1, he⟩
    subst he
    have HR2 : Hid (Only g w w1 ∧ Rd w1 g s (p + e + 1) fr out) := ⟨(HR.out _).1.below hb1, (HR.out _).2.below hb1⟩
    clear hb1
    have hn := char_le n HCH.out
    have hd9 : decide ((8 : Int) < d.length) = false := by rw [decide_eq_false_iff_not]; omega
    go_wp2_with (first | (go_at_call 48; refine (char_is n true _ ?_ ?_ HCH.out).mono ?_; (· omega); (· omega); rintro e' w2 ⟨rfl, hb2⟩; have HR3 : Hid (Only g w w2 ∧ Rd w2 g s (p + e + 1) fr out) := ⟨HR2.out.1.below hb2, HR2.out.2.below hb2⟩; clear hb2) | (go_at_call 86; refine (put_calls _ _).mono ?_; rintro e' w3 ⟨rfl, hb3⟩; have HR4 : Hid (Only g w w3 ∧ Rd w3 g s (p + e + 1) fr out) := ⟨HR3.out.1.below hb3, HR3.out.2.below hb3⟩; clear hb3))
    go_ret
    exact ⟨rfl, HR4.out.1, HR4.out.2⟩
  case inr =>
    subst hb
    have hn1 : (L ⟨#[35, 120]⟩).isPrefixOf (L x) = false := by
      rw [hxd]
      cases hd : d with
      | nil => rfl
      | cons c t => rw [hd] at hno; simp [L, List.isPrefixOf] at hno ⊢; exact fun h => hno h.symm
    have HN1 := Lib.hid hn1
    have HXD := Lib.hid hxd
    clear hxd hn1 hno
    go_wp2_with fail
    rw [HX.out]
    refine (named_none x _ HY.out.1).mono ?_
    rintro e' w' ⟨rfl, rfl⟩
    go_wp2_with fail
    refine (cut_no x ⟨#[35, 120]⟩ _ HN1.out).mono ?_
    rintro e' w' ⟨rfl, rfl⟩
    go_wp2_with fail
    refine (cut_yes x ⟨#[35]⟩ d _ HXD.out).mono ?_
    rintro e' w' ⟨rfl, rfl⟩
    go_wp2_with fail
    refine (pu_calls 10 (.inl rfl) ⟨d.toArray⟩ _ (HG.out _ _) (by rw [HDZ.out]; omega)).mono ?_
    rw [pu_zero _ (.inl rfl) ⟨d.toArray⟩ d rfl hd8, if_neg HD0.out, HNUM.out]
    rintro e' w1 ⟨hb1, he⟩
    subst he
    have HR2 : Hid (Only g w w1 ∧ Rd w1 g s (p + e + 1) fr out) := ⟨(HR.out _).1.below hb1, (HR.out _).2.below hb1⟩
    clear hb1
    have hn := char_le n HCH.out
    have hd9 : decide ((8 : Int) < d.length) = false := by rw [decide_eq_false_iff_not]; omega
    go_wp2_with (first | (go_at_call 48; refine (char_is n true _ ?_ ?_ HCH.out).mono ?_; (· omega); (· omega); rintro e' w2 ⟨rfl, hb2⟩; have HR3 : Hid (Only g w w2 ∧ Rd w2 g s (p + e + 1) fr out) := ⟨HR2.out.1.below hb2, HR2.out.2.below hb2⟩; clear hb2) | (go_at_call 86; refine (put_calls _ _).mono ?_; rintro e' w3 ⟨rfl, hb3⟩; have HR4 : Hid (Only g w w3 ∧ Rd w3 g s (p + e + 1) fr out) := ⟨HR3.out.1.below hb3, HR3.out.2.below hb3⟩; clear hb3))
    go_ret
    exact ⟨rfl, HR4.out.1, HR4.out.2⟩

set_option maxHeartbeats 8000000 in
set_option maxRecDepth 100000 in
theorem ref_num_err (s : ByteArray) (g p fr : Nat) (out : Value) (w : World) (hG : Gl w) (hr : Rd w g s p fr out) (hs : s.size ≤ 65536) (hp : p < s.size) (e : Nat) (hh : ((L s).drop p).head? = some 38) (hf : Sp.find [59] (((L s).drop p).take 12) = some e) (b : Nat) (d : List UInt8) (HYP : Sp.namedO ((((L s).drop p).drop 1).take (e - 1)) = none ∧ ((b = 16 ∧ (((L s).drop p).drop 1).take (e - 1) = 35 :: 120 :: d) ∨ (b = 10 ∧ (((L s).drop p).drop 1).take (e - 1) = 35 :: d ∧ d.head? ≠ some 120))) (hd8 : d.length ≤ 8) (hnum : d = [] ∨ Sp.number b 0 d = none) :
    Calls Tryz.prog 151 #[.pointer (some ⟨g, 0, none⟩)] w fun e' w' => e' = pan (p, 83) ∧ Only g w w' := by
  have h0 := hr.c0
  have h1 := hr.c1
  have hf1 := hr.fz 1
  have hep := find_pos hh hf
  rw [List.length_drop, L_length] at hep
  have hep1 := hep.1
  have hep2 := hep.2.1
  have hep3 := hep.2.2
  have e1 : IntKind.i64.wrap ((p : Int) + 12) = (p : Int) + 12 := IntWalk.i64_in _ (by omega)
  have e2 : min ((p : Int) + 12) s.size = ((min (p + 12) s.size : Nat) : Int) := by omega
  have b1 : (0 : Int) ≤ p := by omega
  have b2 : (p : Int) ≤ ((min (p + 12) s.size : Nat) : Int) := by omega
  have b3 : ((min (p + 12) s.size : Nat) : Int) ≤ s.size := by omega
  have hlx : L (s.extract (p + 1) (p + e)) = (((L s).drop p).drop 1).take (e - 1) := by rw [L_extract, List.drop_drop]; congr 1; omega
  have hsx : (s.extract (p + 1) (p + e)).size ≤ 11 := by rw [← L_length, hlx]; simp; omega
  obtain ⟨x, hx⟩ : ∃ x, s.extract (p + 1) (p + e) = x := ⟨_, rfl⟩
  rw [hx] at hlx hsx
  rw [← hlx] at HYP
  have HX := Lib.hid hx
  have HF := Lib.hid hf
  have HY := Lib.hid HYP
  have HNUM := Lib.hid hnum
  clear hf hep hlx hx HYP hh hnum
  go_enter Tryz.func151, Tryz.ntmps151
  go_wp2_with fail
  go_quiet ((go_at_call 174; exact quiet_same (ib_is _ _ _ (take_min s p) _ HF.out)))
  have e4 : optI (some e) = (e : Int) := rfl
  rw [e4]
  clear e4 e1 e2 b2 b3
  have hset : Gl ((w.drewN 0).setCell ⟨g, 1, none⟩ (.int .i64 ((p : Int) + e + 1))) := hG.only hr.1 ((Only.refl g w).drewN _ |>.set 1 _)
  have HG : Hid (∀ n v, Gl ((w.drewN n).setCell ⟨g, 1, none⟩ v)) := fun n v => hG.only hr.1 (((Only.refl g w).drewN n).set 1 v)
  have HR : Hid (∀ n, Only g w ((w.drewN n).setCell ⟨g, 1, none⟩ (.int .i64 ((p : Int) + e + 1))) ∧ Rd ((w.drewN n).setCell ⟨g, 1, none⟩ (.int .i64 ((p : Int) + e + 1))) g s (p + e + 1) fr out) := fun n => ⟨((Only.refl g w).drewN n).set 1 _, Rd.set1 (hr.drewN n) (p + e + 1)⟩
  clear hset
  have HB : Hid (b = 10 ∨ b = 16) := by rcases HY.out.2 with ⟨h, _⟩ | ⟨h, _⟩ <;> simp [Hid, h]
  have hdl : d.length ≤ 11 := by
    have h1 := L_length x
    rcases HY.out.2 with ⟨h, h2⟩ | ⟨h, h2, _⟩
    · rw [h2] at h1; simp at h1; omega
    · rw [h2] at h1; simp at h1; omega
  have hdz : (⟨d.toArray⟩ : ByteArray).size = d.length := rfl
  have HDZ := Lib.hid hdz
  clear hdz
  rcases HY.out.2 with ⟨hb, hxd⟩ | ⟨hb, hxd, hno⟩
  case inl =>
    subst hb
    have HXD := Lib.hid hxd
    clear hxd
    go_wp2_with fail
    rw [HX.out]
    refine (named_none x _ HY.out.1).mono ?_
    rintro e' w' ⟨rfl, rfl⟩
    go_wp2_with fail
    refine (cut_yes x ⟨#[35, 120]⟩ d _ HXD.out).mono ?_
    rintro e' w' ⟨rfl, rfl⟩
    go_wp2_with fail
    refine (pu_calls 16 (.inr rfl) ⟨d.toArray⟩ _ (HG.out _ _) (by rw [HDZ.out]; omega)).mono ?_
    intro e' w1 hend
    rw [pu_zero _ (.inr rfl) ⟨d.toArray⟩ d rfl hd8] at hend
    obtain ⟨hb1, u, t, v, he⟩ := hend.err (fun n => by
      by_cases hd : d = []
      · rw [if_pos hd]; exact PR.noConfusion
      · rw [if_neg hd, HNUM.out.resolve_left hd]; exact PR.noConfusion)
    subst he
    have HR2 : Hid (Only g w w1 ∧ Rd w1 g s (p + e + 1) fr out) := ⟨(HR.out _).1.below hb1, (HR.out _).2.below hb1⟩
    clear hb1
    go_wp2_with fail
    exact ⟨rfl, rfl, HR2.out.1⟩
  case inr =>
    subst hb
    have hn1 : (L ⟨#[35, 120]⟩).isPrefixOf (L x) = false := by
      rw [hxd]
      cases hd : d with
      | nil => rfl
      | cons c t => rw [hd] at hno; simp [L, List.isPrefixOf] at hno ⊢; exact fun h => hno h.symm
    have HN1 := Lib.hid hn1
    have HXD := Lib.hid hxd
    clear hxd hn1 hno
    go_wp2_with fail
    rw [HX.out]
    refine (named_none x _ HY.out.1).mono ?_
    rintro e' w' ⟨rfl, rfl⟩
    go_wp2_with fail
    refine (cut_no x ⟨#[35, 120]⟩ _ HN1.out).mono ?_
    rintro e' w' ⟨rfl, rfl⟩
    go_wp2_with fail
    refine (cut_yes x ⟨#[35]⟩ d _ HXD.out).mono ?_
    rintro e' w' ⟨rfl, rfl⟩
    go_wp2_with fail
    refine (pu_calls 10 (.inl rfl) ⟨d.toArray⟩ _ (HG.out _ _) (by rw [HDZ.out]; omega)).mono ?_
    intro e' w1 hend
    rw [pu_zero _ (.inl rfl) ⟨d.toArray⟩ d rfl hd8] at hend
    obtain ⟨hb1, u, t, v, he⟩ := hend.err (fun n => by
      by_cases hd : d = []
      · rw [if_pos hd]; exact PR.noConfusion
      · rw [if_neg hd, HNUM.out.resolve_left hd]; exact PR.noConfusion)
    subst he
    have HR2 : Hid (Only g w w1 ∧ Rd w1 g s (p + e + 1) fr out) := ⟨(HR.out _).1.below hb1, (HR.out _).2.below hb1⟩
    clear hb1
    go_wp2_with fail
    exact ⟨rfl, rfl, HR2.out.1⟩

set_option maxHeartbeats 8000000 in
set_option maxRecDepth 100000 in
theorem ref_num_long (s : ByteArray) (g p fr : Nat) (out : Value) (w : World) (hG : Gl w) (hr : Rd w g s p fr out) (hs : s.size ≤ 65536) (hp : p < s.size) (e : Nat) (hh : ((L s).drop p).head? = some 38) (hf : Sp.find [59] (((L s).drop p).take 12) = some e) (b : Nat) (d : List UInt8) (HYP : Sp.namedO ((((L s).drop p).drop 1).take (e - 1)) = none ∧ ((b = 16 ∧ (((L s).drop p).drop 1).take (e - 1) = 35 :: 120 :: d) ∨ (b = 10 ∧ (((L s).drop p).drop 1).take (e - 1) = 35 :: d ∧ d.head? ≠ some 120))) (hd8 : 8 < d.length) :
    Calls Tryz.prog 151 #[.pointer (some ⟨g, 0, none⟩)] w fun e' w' => e' = pan (p, 83) ∧ Only g w w' := by
  have h0 := hr.c0
  have h1 := hr.c1
  have hf1 := hr.fz 1
  have hep := find_pos hh hf
  rw [List.length_drop, L_length] at hep
  have hep1 := hep.1
  have hep2 := hep.2.1
  have hep3 := hep.2.2
  have e1 : IntKind.i64.wrap ((p : Int) + 12) = (p : Int) + 12 := IntWalk.i64_in _ (by omega)
  have e2 : min ((p : Int) + 12) s.size = ((min (p + 12) s.size : Nat) : Int) := by omega
  have b1 : (0 : Int) ≤ p := by omega
  have b2 : (p : Int) ≤ ((min (p + 12) s.size : Nat) : Int) := by omega
  have b3 : ((min (p + 12) s.size : Nat) : Int) ≤ s.size := by omega
  have hlx : L (s.extract (p + 1) (p + e)) = (((L s).drop p).drop 1).take (e - 1) := by rw [L_extract, List.drop_drop]; congr 1; omega
  have hsx : (s.extract (p + 1) (p + e)).size ≤ 11 := by rw [← L_length, hlx]; simp; omega
  obtain ⟨x, hx⟩ : ∃ x, s.extract (p + 1) (p + e) = x := ⟨_, rfl⟩
  rw [hx] at hlx hsx
  rw [← hlx] at HYP
  have HX := Lib.hid hx
  have HF := Lib.hid hf
  have HY := Lib.hid HYP
  clear hf hep hlx hx HYP hh 
  go_enter Tryz.func151, Tryz.ntmps151
  go_wp2_with fail
  go_quiet ((go_at_call 174; exact quiet_same (ib_is _ _ _ (take_min s p) _ HF.out)))
  have e4 : optI (some e) = (e : Int) := rfl
  rw [e4]
  clear e4 e1 e2 b2 b3
  have hset : Gl ((w.drewN 0).setCell ⟨g, 1, none⟩ (.int .i64 ((p : Int) + e + 1))) := hG.only hr.1 ((Only.refl g w).drewN _ |>.set 1 _)
  have HG : Hid (∀ n v, Gl ((w.drewN n).setCell ⟨g, 1, none⟩ v)) := fun n v => hG.only hr.1 (((Only.refl g w).drewN n).set 1 v)
  have HR : Hid (∀ n, Only g w ((w.drewN n).setCell ⟨g, 1, none⟩ (.int .i64 ((p : Int) + e + 1))) ∧ Rd ((w.drewN n).setCell ⟨g, 1, none⟩ (.int .i64 ((p : Int) + e + 1))) g s (p + e + 1) fr out) := fun n => ⟨((Only.refl g w).drewN n).set 1 _, Rd.set1 (hr.drewN n) (p + e + 1)⟩
  clear hset
  have HB : Hid (b = 10 ∨ b = 16) := by rcases HY.out.2 with ⟨h, _⟩ | ⟨h, _⟩ <;> simp [Hid, h]
  have hdl : d.length ≤ 11 := by
    have h1 := L_length x
    rcases HY.out.2 with ⟨h, h2⟩ | ⟨h, h2, _⟩
    · rw [h2] at h1; simp at h1; omega
    · rw [h2] at h1; simp at h1; omega
  have hdz : (⟨d.toArray⟩ : ByteArray).size = d.length := rfl
  have HDZ := Lib.hid hdz
  clear hdz
  rcases HY.out.2 with ⟨hb, hxd⟩ | ⟨hb, hxd, hno⟩
  case inl =>
    subst hb
    have HXD := Lib.hid hxd
    clear hxd
    go_wp2_with fail
    rw [HX.out]
    refine (named_none x _ HY.out.1).mono ?_
    rintro e' w' ⟨rfl, rfl⟩
    go_wp2_with fail
    refine (cut_yes x ⟨#[35, 120]⟩ d _ HXD.out).mono ?_
    rintro e' w' ⟨rfl, rfl⟩
    go_wp2_with fail
    refine (pu_calls 16 (.inr rfl) ⟨d.toArray⟩ _ (HG.out _ _) (by rw [HDZ.out]; omega)).mono ?_
    intro e' w1 hend
    have he := hend
    obtain ⟨hb1, -⟩ := hend
    have HR2 : Hid (Only g w w1 ∧ Rd w1 g s (p + e + 1) fr out) := ⟨(HR.out _).1.below hb1, (HR.out _).2.below hb1⟩
    have hd9 : decide ((8 : Int) < d.length) = true := by rw [decide_eq_true_eq]; omega
    rcases PuEnd.two he with ⟨n, rfl⟩ | ⟨u, t, v, rfl⟩
    all_goals
      clear hb1 he
      go_wp2_with fail
      exact ⟨rfl, rfl, HR2.out.1⟩
  case inr =>
    subst hb
    have hn1 : (L ⟨#[35, 120]⟩).isPrefixOf (L x) = false := by
      rw [hxd]
      cases hd : d with
      | nil => rfl
      | cons c t => rw [hd] at hno; simp [L, List.isPrefixOf] at hno ⊢; exact fun h => hno h.symm
    have HN1 := Lib.hid hn1
    have HXD := Lib.hid hxd
    clear hxd hn1 hno
    go_wp2_with fail
    rw [HX.out]
    refine (named_none x _ HY.out.1).mono ?_
    rintro e' w' ⟨rfl, rfl⟩
    go_wp2_with fail
    refine (cut_no x ⟨#[35, 120]⟩ _ HN1.out).mono ?_
    rintro e' w' ⟨rfl, rfl⟩
    go_wp2_with fail
    refine (cut_yes x ⟨#[35]⟩ d _ HXD.out).mono ?_
    rintro e' w' ⟨rfl, rfl⟩
    go_wp2_with fail
    refine (pu_calls 10 (.inl rfl) ⟨d.toArray⟩ _ (HG.out _ _) (by rw [HDZ.out]; omega)).mono ?_
    intro e' w1 hend
    have he := hend
    obtain ⟨hb1, -⟩ := hend
    have HR2 : Hid (Only g w w1 ∧ Rd w1 g s (p + e + 1) fr out) := ⟨(HR.out _).1.below hb1, (HR.out _).2.below hb1⟩
    have hd9 : decide ((8 : Int) < d.length) = true := by rw [decide_eq_true_eq]; omega
    rcases PuEnd.two he with ⟨n, rfl⟩ | ⟨u, t, v, rfl⟩
    all_goals
      clear hb1 he
      go_wp2_with fail
      exact ⟨rfl, rfl, HR2.out.1⟩

set_option maxHeartbeats 8000000 in
set_option maxRecDepth 100000 in
theorem ref_num_nochar (s : ByteArray) (g p fr : Nat) (out : Value) (w : World) (hG : Gl w) (hr : Rd w g s p fr out) (hs : s.size ≤ 65536) (hp : p < s.size) (e : Nat) (hh : ((L s).drop p).head? = some 38) (hf : Sp.find [59] (((L s).drop p).take 12) = some e) (b : Nat) (d : List UInt8) (HYP : Sp.namedO ((((L s).drop p).drop 1).take (e - 1)) = none ∧ ((b = 16 ∧ (((L s).drop p).drop 1).take (e - 1) = 35 :: 120 :: d) ∨ (b = 10 ∧ (((L s).drop p).drop 1).take (e - 1) = 35 :: d ∧ d.head? ≠ some 120))) (n : Nat) (hd8 : d.length ≤ 8) (hd0 : d ≠ []) (hnum : Sp.number b 0 d = some n) (hch : Sp.isChar (n : Int) = false) :
    Calls Tryz.prog 151 #[.pointer (some ⟨g, 0, none⟩)] w fun e' w' => e' = pan (p, 83) ∧ Only g w w' := by
  have h0 := hr.c0
  have h1 := hr.c1
  have hf1 := hr.fz 1
  have hep := find_pos hh hf
  rw [List.length_drop, L_length] at hep
  have hep1 := hep.1
  have hep2 := hep.2.1
  have hep3 := hep.2.2
  have e1 : IntKind.i64.wrap ((p : Int) + 12) = (p : Int) + 12 := IntWalk.i64_in _ (by omega)
  have e2 : min ((p : Int) + 12) s.size = ((min (p + 12) s.size : Nat) : Int) := by omega
  have b1 : (0 : Int) ≤ p := by omega
  have b2 : (p : Int) ≤ ((min (p + 12) s.size : Nat) : Int) := by omega
  have b3 : ((min (p + 12) s.size : Nat) : Int) ≤ s.size := by omega
  have hlx : L (s.extract (p + 1) (p + e)) = (((L s).drop p).drop 1).take (e - 1) := by rw [L_extract, List.drop_drop]; congr 1; omega
  have hsx : (s.extract (p + 1) (p + e)).size ≤ 11 := by rw [← L_length, hlx]; simp; omega
  obtain ⟨x, hx⟩ : ∃ x, s.extract (p + 1) (p + e) = x := ⟨_, rfl⟩
  rw [hx] at hlx hsx
  rw [← hlx] at HYP
  have HX := Lib.hid hx
  have HF := Lib.hid hf
  have HY := Lib.hid HYP
  have HNUM := Lib.hid hnum
  have HD0 := Lib.hid hd0
  have HCH := Lib.hid hch
  clear hf hep hlx hx HYP hh hnum hd0 hch
  go_enter Tryz.func151, Tryz.ntmps151
  go_wp2_with fail
  go_quiet ((go_at_call 174; exact quiet_same (ib_is _ _ _ (take_min s p) _ HF.out)))
  have e4 : optI (some e) = (e : Int) := rfl
  rw [e4]
  clear e4 e1 e2 b2 b3
  have hset : Gl ((w.drewN 0).setCell ⟨g, 1, none⟩ (.int .i64 ((p : Int) + e + 1))) := hG.only hr.1 ((Only.refl g w).drewN _ |>.set 1 _)
  have HG : Hid (∀ n v, Gl ((w.drewN n).setCell ⟨g, 1, none⟩ v)) := fun n v => hG.only hr.1 (((Only.refl g w).drewN n).set 1 v)
  have HR : Hid (∀ n, Only g w ((w.drewN n).setCell ⟨g, 1, none⟩ (.int .i64 ((p : Int) + e + 1))) ∧ Rd ((w.drewN n).setCell ⟨g, 1, none⟩ (.int .i64 ((p : Int) + e + 1))) g s (p + e + 1) fr out) := fun n => ⟨((Only.refl g w).drewN n).set 1 _, Rd.set1 (hr.drewN n) (p + e + 1)⟩
  clear hset
  have HB : Hid (b = 10 ∨ b = 16) := by rcases HY.out.2 with ⟨h, _⟩ | ⟨h, _⟩ <;> simp [Hid, h]
  have hdl : d.length ≤ 11 := by
    have h1 := L_length x
    rcases HY.out.2 with ⟨h, h2⟩ | ⟨h, h2, _⟩
    · rw [h2] at h1; simp at h1; omega
    · rw [h2] at h1; simp at h1; omega
  have hdz : (⟨d.toArray⟩ : ByteArray).size = d.length := rfl
  have HDZ := Lib.hid hdz
  clear hdz
  rcases HY.out.2 with ⟨hb, hxd⟩ | ⟨hb, hxd, hno⟩
  case inl =>
    subst hb
    have HXD := Lib.hid hxd
    clear hxd
    go_wp2_with fail
    rw [HX.out]
    refine (named_none x _ HY.out.1).mono ?_
    rintro e' w' ⟨rfl, rfl⟩
    go_wp2_with fail
    refine (cut_yes x ⟨#[35, 120]⟩ d _ HXD.out).mono ?_
    rintro e' w' ⟨rfl, rfl⟩
    go_wp2_with fail
    refine (pu_calls 16 (.inr rfl) ⟨d.toArray⟩ _ (HG.out _ _) (by rw [HDZ.out]; omega)).mono ?_
    rw [pu_zero _ (.inr rfl) ⟨d.toArray⟩ d rfl hd8, if_neg HD0.out, HNUM.out]
    rintro e' w1 ⟨hb1, he⟩
    subst he
    have HR2 : Hid (Only g w w1 ∧ Rd w1 g s (p + e + 1) fr out) := ⟨(HR.out _).1.below hb1, (HR.out _).2.below hb1⟩
    clear hb1
    have hd9 : decide ((8 : Int) < d.length) = false := by rw [decide_eq_false_iff_not]; omega
    by_cases hn : n ≤ 1114111
    · go_wp2_with (go_at_call 48; refine (char_is n false _ ?_ ?_ HCH.out).mono ?_; (· omega); (· omega); rintro e' w2 ⟨rfl, hb2⟩; have HR3 : Hid (Only g w w2 ∧ Rd w2 g s (p + e + 1) fr out) := ⟨HR2.out.1.below hb2, HR2.out.2.below hb2⟩; clear hb2)
      exact ⟨rfl, rfl, HR3.out.1⟩
    · have hn2 : decide ((1114111 : Int) < n) = true := by rw [decide_eq_true_eq]; omega
      clear hn
      go_wp2_with fail
      exact ⟨rfl, rfl, HR2.out.1⟩
  case inr =>
    subst hb
    have hn1 : (L ⟨#[35, 120]⟩).isPrefixOf (L x) = false := by
      rw [hxd]
      cases hd : d with
      | nil => rfl
      | cons c t => rw [hd] at hno; simp [L, List.isPrefixOf] at hno ⊢; exact fun h => hno h.symm
    have HN1 := Lib.hid hn1
    have HXD := Lib.hid hxd
    clear hxd hn1 hno
    go_wp2_with fail
    rw [HX.out]
    refine (named_none x _ HY.out.1).mono ?_
    rintro e' w' ⟨rfl, rfl⟩
    go_wp2_with fail
    refine (cut_no x ⟨#[35, 120]⟩ _ HN1.out).mono ?_
    rintro e' w' ⟨rfl, rfl⟩
    go_wp2_with fail
    refine (cut_yes x ⟨#[35]⟩ d _ HXD.out).mono ?_
    rintro e' w' ⟨rfl, rfl⟩
    go_wp2_with fail
    refine (pu_calls 10 (.inl rfl) ⟨d.toArray⟩ _ (HG.out _ _) (by rw [HDZ.out]; omega)).mono ?_
    rw [pu_zero _ (.inl rfl) ⟨d.toArray⟩ d rfl hd8, if_neg HD0.out, HNUM.out]
    rintro e' w1 ⟨hb1, he⟩
    subst he
    have HR2 : Hid (Only g w w1 ∧ Rd w1 g s (p + e + 1) fr out) := ⟨(HR.out _).1.below hb1, (HR.out _).2.below hb1⟩
    clear hb1
    have hd9 : decide ((8 : Int) < d.length) = false := by rw [decide_eq_false_iff_not]; omega
    by_cases hn : n ≤ 1114111
    · go_wp2_with (go_at_call 48; refine (char_is n false _ ?_ ?_ HCH.out).mono ?_; (· omega); (· omega); rintro e' w2 ⟨rfl, hb2⟩; have HR3 : Hid (Only g w w2 ∧ Rd w2 g s (p + e + 1) fr out) := ⟨HR2.out.1.below hb2, HR2.out.2.below hb2⟩; clear hb2)
      exact ⟨rfl, rfl, HR3.out.1⟩
    · have hn2 : decide ((1114111 : Int) < n) = true := by rw [decide_eq_true_eq]; omega
      clear hn
      go_wp2_with fail
      exact ⟨rfl, rfl, HR2.out.1⟩

end Go.Proofs.YtokdclmikllepaaGreatDoor
