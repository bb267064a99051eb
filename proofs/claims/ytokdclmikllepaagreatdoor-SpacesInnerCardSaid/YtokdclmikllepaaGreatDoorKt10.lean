import Derived.Test.YtokdclmikllepaaGreatDoorKt8
import Derived.Test.YtokdclmikllepaaGreatDoorKt9
namespace Go.Proofs.YtokdclmikllepaaGreatDoor
open Go.RowKit
set_option linter.unusedVariables false
set_option linter.unusedSimpArgs false

theorem indexByte_find (c : UInt8) (l : List UInt8) : Lib.indexByte l c = optI (Sp.find [c] l) := by
  induction l with
  | nil => rfl
  | cons b l ih =>
    unfold Lib.indexByte Sp.find
    rw [ih]
    by_cases h : b = c
    · subst h
      rw [if_pos (by simp), if_pos (by simp [List.isPrefixOf])]; rfl
    · have hb : (b == c) = false := by simpa using h
      have hp : [c].isPrefixOf (b :: l) = false := by simp [List.isPrefixOf]; exact fun e => h e.symm
      rw [hb, hp]
      simp only [Bool.false_eq_true, if_false]
      cases hf : Sp.find [c] l with
      | none => rfl
      | some i =>
        rw [if_neg (by simp [optI])]
        simp [optI]

theorem ib_is (s : ByteArray) (w : World) (l : List UInt8) (hl : L s = l) (o : Option Nat) (ho : Sp.find [59] l = o) :
    Calls Tryz.prog 174 #[.string s, .int .u8 59] w fun e w' => e = .returned (.int .i64 (optI o)) ∧ w' = w := by
  subst hl ho
  rw [← indexByte_find]
  exact Tryz.strings_IndexByte s 59 w

theorem named_some (x : ByteArray) (t : List UInt8) (w : World) (h : Sp.namedO (L x) = some t) :
    Calls Tryz.prog 175 #[.string x] w fun e w' => e = .returned (.tuple #[.string ⟨t.toArray⟩, .bool true]) ∧ w = w' := by
  have := named_calls x w
  rw [h] at this
  exact this
theorem named_none (x : ByteArray) (w : World) (h : Sp.namedO (L x) = none) :
    Calls Tryz.prog 175 #[.string x] w fun e w' => e = .returned (.tuple #[.string ⟨#[]⟩, .bool false]) ∧ w = w' := by
  have := named_calls x w
  rw [h] at this
  exact this

theorem cut_yes (s pre : ByteArray) (d : List UInt8) (w : World) (h : L s = L pre ++ d) :
    Calls Tryz.prog 134 #[.string s, .string pre] w fun e w' => e = .returned (.tuple #[.string ⟨d.toArray⟩, .bool true]) ∧ w = w' := by
  refine (Tryz.strings_CutPrefix s pre w).mono fun e w' ⟨he, hw⟩ => ⟨?_, hw.symm⟩
  have hp : Lib.hasPrefix (L s) (L pre) = true := by rw [h]; exact List.isPrefixOf_iff_prefix.2 ⟨d, rfl⟩
  rw [he]
  show Ending.returned (.tuple #[.string ⟨(Lib.trimPrefix (L s) (L pre)).toArray⟩, .bool (Lib.hasPrefix (L s) (L pre))]) = _
  rw [Lib.trimPrefix, hp, if_pos rfl, h, List.drop_left]
theorem cut_no (s pre : ByteArray) (w : World) (h : (L pre).isPrefixOf (L s) = false) :
    Calls Tryz.prog 134 #[.string s, .string pre] w fun e w' => e = .returned (.tuple #[.string s, .bool false]) ∧ w = w' := by
  refine (Tryz.strings_CutPrefix s pre w).mono fun e w' ⟨he, hw⟩ => ⟨?_, hw.symm⟩
  have hp : Lib.hasPrefix (L s) (L pre) = false := h
  rw [he]
  show Ending.returned (.tuple #[.string ⟨(Lib.trimPrefix (L s) (L pre)).toArray⟩, .bool (Lib.hasPrefix (L s) (L pre))]) = _
  rw [Lib.trimPrefix, hp, if_neg (by simp), bs_L]

theorem take_min (s : ByteArray) (p : Nat) : L (s.extract p (min (p + 12) s.size)) = ((L s).drop p).take 12 := by
  rw [L_extract]
  by_cases h : p + 12 ≤ s.size
  · rw [Nat.min_eq_left h]; congr 1; omega
  · rw [Nat.min_eq_right (by omega), List.take_of_length_le (by simp), List.take_of_length_le (by simp; omega)]

theorem find_pos {l : List UInt8} {e : Nat} (h0 : l.head? = some 38) (h : Sp.find [59] (l.take 12) = some e) : 1 ≤ e ∧ e + 1 ≤ l.length ∧ e + 1 ≤ 12 := by
  have := find_le _ _ _ h
  simp at this
  refine ⟨?_, by omega, by omega⟩
  cases l with
  | nil => simp at h0
  | cons c t =>
    simp at h0
    subst h0
    rcases Nat.eq_zero_or_pos e with rfl | h1
    · rw [List.take_succ_cons, Sp.find, if_neg (by simp [List.isPrefixOf])] at h
      cases hf : Sp.find [59] (t.take 11) with
      | none => rw [hf] at h; cases h
      | some j => rw [hf] at h; simp at h
    · exact h1

theorem digit_lt (b : Nat) (hb : b = 10 ∨ b = 16) (c : UInt8) (d : Nat) (h : Sp.digit b c = some d) : d < b := by
  unfold Sp.digit at h
  rcases hb with rfl | rfl
  · split at h
    · injection h; omega
    · rw [if_neg (by omega), if_neg (by omega)] at h; cases h
  · split at h
    · injection h; omega
    · split at h
      · injection h; omega
      · split at h
        · injection h; omega
        · cases h

theorem pu_number (b : Nat) (hb : b = 10 ∨ b = 16) : ∀ (l : List UInt8) (n k : Nat), k + l.length ≤ 8 → n < 16 ^ k → pu b n l = match Sp.number b n l with | some m => .ok m | none => .syn := by
  intro l
  induction l with
  | nil => intro n k _ _; rfl
  | cons c t ih =>
    intro n k hk hn
    unfold pu Sp.number
    cases hd : Sp.digit b c with
    | none => rfl
    | some d =>
      have hlt := digit_lt b hb c d hd
      have hn2 : n * b + d < 16 ^ (k + 1) := by
        rw [Nat.pow_succ]
        have : n * b ≤ n * 16 := Nat.mul_le_mul_left _ (by omega)
        omega
      have h8 : 16 ^ (k + 1) ≤ 16 ^ 8 := Nat.pow_le_pow_right (by omega) (by simp at hk; omega)
      have e8 : 16 ^ 8 = 4294967296 := by decide
      simp only
      rw [if_neg (by omega)]
      exact ih _ (k + 1) (by simp at hk; omega) hn2

theorem pu_zero (b : Nat) (hb : b = 10 ∨ b = 16) (x : ByteArray) (d : List UInt8) (hd : L x = d) (hl : d.length ≤ 8) :
    (if x.size = 0 then PR.syn else pu b 0 (L x)) = if d = [] then .syn else match Sp.number b 0 d with | some m => .ok m | none => .syn := by
  have hs : x.size = d.length := by rw [← L_length, hd]
  rw [hd, hs]
  cases d with
  | nil => rfl
  | cons c t =>
    rw [if_neg (by simp), if_neg (by simp)]
    exact pu_number b hb _ 0 0 (by omega) (by omega)

theorem Gl.only {w w' : World} {g : Nat} (h : Gl w) (hg : 8 ≤ g) (ho : Only g w w') : Gl w' := by
  have hc : ∀ k, k < 8 → w'.heap[k]? = w.heap[k]? := fun k hk => ho.block k (Nat.lt_of_lt_of_le hk h.big) (fun e => by injection e with e; omega)
  have hcell : ∀ a : Addr, a.block < 8 → w'.cell? a = w.cell? a := fun a ha => World.cell?_of_block (hc a.block ha)
  obtain ⟨m, hm⟩ := h.mx
  obtain ⟨t3, p3, h3⟩ := h.esyn
  obtain ⟨t4, p4, h4⟩ := h.erng
  refine ⟨Nat.le_trans h.big ho.size, ⟨m, (hcell _ (by decide)).trans hm⟩, ?_, ⟨t3, p3, (hcell _ (by decide)).trans h3⟩, ⟨t4, p4, (hcell _ (by decide)).trans h4⟩⟩
  exact ⟨fun c hc => (hcell _ (by simp)).trans (h.tabs.1 c hc), fun i hi => ⟨(hcell _ (by simp)).trans (h.tabs.2 i hi).1, (hcell _ (by simp)).trans (h.tabs.2 i hi).2⟩⟩
theorem Gl.below {w w' : World} (h : Gl w) (hb : Below w.heap.size w w') : Gl w' := h.only (g := w.heap.size + 8) (by omega) (Only.of_below hb _)

set_option maxHeartbeats 4000000 in
set_option maxRecDepth 100000 in
theorem ref_nosemi (s : ByteArray) (g p fr : Nat) (out : Value) (w : World) (hr : Rd w g s p fr out) (hs : s.size ≤ 65536) (hp : p < s.size) (hf : Sp.find [59] (((L s).drop p).take 12) = none) :
    Calls Tryz.prog 151 #[.pointer (some ⟨g, 0, none⟩)] w fun e w' => e = pan (p, 83) ∧ Only g w w' := by
  have h0 := hr.c0
  have h1 := hr.c1
  have e1 : IntKind.i64.wrap ((p : Int) + 12) = (p : Int) + 12 := IntWalk.i64_in _ (by omega)
  have e2 : min ((p : Int) + 12) s.size = ((min (p + 12) s.size : Nat) : Int) := by omega
  have b1 : (0 : Int) ≤ p := by omega
  have b2 : (p : Int) ≤ ((min (p + 12) s.size : Nat) : Int) := by omega
  have b3 : ((min (p + 12) s.size : Nat) : Int) ≤ s.size := by omega
  have HF := Lib.hid hf
  clear hf
  go_enter Tryz.func151, Tryz.ntmps151
  go_wp2_with fail
  go_quiet ((go_at_call 174; exact quiet_same (ib_is _ _ _ (take_min s p) _ HF.out)))
  have e4 : optI none = (-1 : Int) := rfl
  rw [e4]
  clear e4
  go_wp2_with fail
  exact ⟨rfl, rfl, (Only.refl g w).drewN _⟩

set_option maxHeartbeats 4000000 in
set_option maxRecDepth 100000 in
theorem ref_named (s : ByteArray) (g p fr : Nat) (out : Value) (w : World) (hG : Gl w) (hr : Rd w g s p fr out) (hs : s.size ≤ 65536) (hp : p < s.size) (e : Nat) (hh : ((L s).drop p).head? = some 38) (hf : Sp.find [59] (((L s).drop p).take 12) = some e) (t : List UInt8) (HYP : Sp.namedO ((((L s).drop p).drop 1).take (e - 1)) = some t) :
    Calls Tryz.prog 151 #[.pointer (some ⟨g, 0, none⟩)] w fun e' w' => e' = .returned (.string ⟨t.toArray⟩) ∧ Only g w w' ∧ Rd w' g s (p + e + 1) fr out := by
  have h0 := hr.c0
  have h1 := hr.c1
  have hf1 := hr.fz 1
  have hep := find_pos hh hf
  rw [List.length_drop, L_length] at hep
  have hep1 := hep.1
  have hep2 := hep.2.1
  have hep3 := hep.2.2
  have e1 : IntKind.i64.wrap ((p : Int) + 12) = (p : Int) + 12 := IntWalk.i64_in _ (by omega)
  have e2 : min ((p : Int) + 12) s.size = ((min (p + 12) s.size : Nat) : Int) := by omega
  have b1 : (0 : Int) ≤ p := by omega
  have b2 : (p : Int) ≤ ((min (p + 12) s.size : Nat) : Int) := by omega
  have b3 : ((min (p + 12) s.size : Nat) : Int) ≤ s.size := by omega
  have hlx : L (s.extract (p + 1) (p + e)) = (((L s).drop p).drop 1).take (e - 1) := by rw [L_extract, List.drop_drop]; congr 1; omega
  have hsx : (s.extract (p + 1) (p + e)).size ≤ 11 := by rw [← L_length, hlx]; simp; omega
  obtain ⟨x, hx⟩ : ∃ x, s.extract (p + 1) (p + e) = x := ⟨_, rfl⟩
  rw [hx] at hlx hsx
  rw [← hlx] at HYP
  have HX := Lib.hid hx
  have HF := Lib.hid hf
  have HY := Lib.hid HYP
  clear hf hep hlx hx HYP hh
  go_enter Tryz.func151, Tryz.ntmps151
  go_wp2_with fail
  go_quiet ((go_at_call 174; exact quiet_same (ib_is _ _ _ (take_min s p) _ HF.out)))
  have e4 : optI (some e) = (e : Int) := rfl
  rw [e4]
  clear e4 e1 e2 b2 b3
  go_wp2_with fail
  rw [HX.out]
  refine (named_some x t _ HY.out).mono ?_
  rintro e' w' ⟨rfl, rfl⟩
  go_wp2_with fail
  go_ret
  exact ⟨rfl, ((Only.refl g w).drewN _).set 1 _, Rd.set1 (hr.drewN _) (p + e + 1)⟩

set_option maxHeartbeats 4000000 in
set_option maxRecDepth 100000 in
theorem ref_noform (s : ByteArray) (g p fr : Nat) (out : Value) (w : World) (hG : Gl w) (hr : Rd w g s p fr out) (hs : s.size ≤ 65536) (hp : p < s.size) (e : Nat) (hh : ((L s).drop p).head? = some 38) (hf : Sp.find [59] (((L s).drop p).take 12) = some e) (HYP : Sp.namedO ((((L s).drop p).drop 1).take (e - 1)) = none ∧ ((((L s).drop p).drop 1).take (e - 1)).head? ≠ some 35) :
    Calls Tryz.prog 151 #[.pointer (some ⟨g, 0, none⟩)] w fun e' w' => e' = pan (p, 83) ∧ Only g w w' := by
  have h0 := hr.c0
  have h1 := hr.c1
  have hf1 := hr.fz 1
  have hep := find_pos hh hf
  rw [List.length_drop, L_length] at hep
  have hep1 := hep.1
  have hep2 := hep.2.1
  have hep3 := hep.2.2
  have e1 : IntKind.i64.wrap ((p : Int) + 12) = (p : Int) + 12 := IntWalk.i64_in _ (by omega)
  have e2 : min ((p : Int) + 12) s.size = ((min (p + 12) s.size : Nat) : Int) := by omega
  have b1 : (0 : Int) ≤ p := by omega
  have b2 : (p : Int) ≤ ((min (p + 12) s.size : Nat) : Int) := by omega
  have b3 : ((min (p + 12) s.size : Nat) : Int) ≤ s.size := by omega
  have hlx : L (s.extract (p + 1) (p + e)) = (((L s).drop p).drop 1).take (e - 1) := by rw [L_extract, List.drop_drop]; congr 1; omega
  have hsx : (s.extract (p + 1) (p + e)).size ≤ 11 := by rw [← L_length, hlx]; simp; omega
  obtain ⟨x, hx⟩ : ∃ x, s.extract (p + 1) (p + e) = x := ⟨_, rfl⟩
  rw [hx] at hlx hsx
  rw [← hlx] at HYP
  have HX := Lib.hid hx
  have HF := Lib.hid hf
  have HY := Lib.hid HYP
  clear hf hep hlx hx HYP hh
  go_enter Tryz.func151, Tryz.ntmps151
  go_wp2_with fail
  go_quiet ((go_at_call 174; exact quiet_same (ib_is _ _ _ (take_min s p) _ HF.out)))
  have e4 : optI (some e) = (e : Int) := rfl
  rw [e4]
  clear e4 e1 e2 b2 b3
  have hn1 : (L ⟨#[35, 120]⟩).isPrefixOf (L x) = false := by
    have := HY.out.2
    cases hc : L x with
    | nil => rfl
    | cons c t => rw [hc] at this; simp [L, List.isPrefixOf] at this ⊢; exact fun e => absurd e.symm this
  have hn2 : (L ⟨#[35]⟩).isPrefixOf (L x) = false := by
    have := HY.out.2
    cases hc : L x with
    | nil => rfl
    | cons c t => rw [hc] at this; simp [L, List.isPrefixOf] at this ⊢; exact fun e => absurd e.symm this
  have HN1 := Lib.hid hn1
  have HN2 := Lib.hid hn2
  clear hn1 hn2
  go_wp2_with fail
  rw [HX.out]
  refine (named_none x _ HY.out.1).mono ?_
  rintro e' w' ⟨rfl, rfl⟩
  go_wp2_with fail
  refine (cut_no x ⟨#[35, 120]⟩ _ HN1.out).mono ?_
  rintro e' w' ⟨rfl, rfl⟩
  go_wp2_with fail
  refine (cut_no x ⟨#[35]⟩ _ HN2.out).mono ?_
  rintro e' w' ⟨rfl, rfl⟩
  go_wp2_with fail
  exact ⟨rfl, rfl, ((Only.refl g w).drewN _).set 1 _⟩


end Go.Proofs.YtokdclmikllepaaGreatDoor
namespace Go.Proofs.YtokdclmikllepaaGreatDoor
open Go.RowKit
set_option linter.unusedVariables false
set_option linter.unusedSimpArgs false

theorem char_is (r : Int) (b : Bool) (w : World) (h0 : -2147483648 ≤ r) (h1 : r ≤ 2147483647) (h : Sp.isChar r = b) :
    Calls Tryz.prog 48 #[.int .i32 r] w fun e w' => e = .returned (.bool b) ∧ Below w.heap.size w w' := h ▸ char_calls r w h0 h1

theorem char_le (n : Nat) (h : Sp.isChar (n : Int) = true) : n ≤ 1114111 := by
  simp [Sp.isChar, Sp.isRune] at h; omega

theorem PuEnd.two {R : PR} {w w' : World} {e : Ending} (h : PuEnd R w e w') : (∃ n, e = .returned (.tuple #[.int .u64 n, .nilIface])) ∨ ∃ u t v, e = .returned (.tuple #[.int .u64 u, .iface t v]) := by
  cases R with
  | ok n => exact .inl ⟨n, h.2⟩
  | syn => exact .inr h.2
  | rng => exact .inr h.2

theorem PuEnd.err {R : PR} {w w' : World} {e : Ending} (h : PuEnd R w e w') (hR : ∀ n, R ≠ .ok n) : Below w.heap.size w w' ∧ ∃ u t v, e = .returned (.tuple #[.int .u64 u, .iface t v]) := by
  cases R with
  | ok n => exact absurd rfl (hR n)
  | syn => exact h
  | rng => exact h

set_option maxHeartbeats 8000000 in
set_option maxRecDepth 100000 in
theorem ref_num (s : ByteArray) (g p fr : Nat) (out : Value) (w : World) (hG : Gl w) (hr : Rd w g s p fr out) (hs : s.size ≤ 65536) (hp : p < s.size) (e : Nat) (hh : ((L s).drop p).head? = some 38) (hf : Sp.find [59] (((L s).drop p).take 12) = some e) (b : Nat) (d : List UInt8) (HYP : Sp.namedO ((((L s).drop p).drop 1).take (e - 1)) = none ∧ ((b = 16 ∧ (((L s).drop p).drop 1).take (e - 1) = 35 :: 120 :: d) ∨ (b = 10 ∧ (((L s).drop p).drop 1).take (e - 1) = 35 :: d ∧ d.head? ≠ some 120))) (n : Nat) (hd8 : d.length ≤ 8) (hd0 : d ≠ []) (hnum : Sp.number b 0 d = some n) (hch : Sp.isChar (n : Int) = true) :
    Calls Tryz.prog 151 #[.pointer (some ⟨g, 0, none⟩)] w fun e' w' => e' = .returned (.string ⟨(Sp.put (n : Int)).toArray⟩) ∧ Only g w w' ∧ Rd w' g s (p + e + 1) fr out := by
  have h0 := hr.c0
  have h1 := hr.c1
  have hf1 := hr.fz 1
  have hep := find_pos hh hf
  rw [List.length_drop, L_length] at hep
  have hep1 := hep.1
  have hep2 := hep.2.1
  have hep3 := hep.2.2
  have e1 : IntKind.i64.wrap ((p : Int) + 12) = (p : Int) + 12 := IntWalk.i64_in _ (by omega)
  have e2 : min ((p : Int) + 12) s.size = ((min (p + 12) s.size : Nat) : Int) := by omega
  have b1 : (0 : Int) ≤ p := by omega
  have b2 : (p : Int) ≤ ((min (p + 12) s.size : Nat) : Int) := by omega
  have b3 : ((min (p + 12) s.size : Nat) : Int) ≤ s.size := by omega
  have hlx : L (s.extract (p + 1) (p + e)) = (((L s).drop p).drop 1).take (e - 1) := by rw [L_extract, List.drop_drop]; congr 1; omega
  have hsx : (s.extract (p + 1) (p + e)).size ≤ 11 := by rw [← L_length, hlx]; simp; omega
  obtain ⟨x, hx⟩ : ∃ x, s.extract (p + 1) (p + e) = x := ⟨_, rfl⟩
  rw [hx] at hlx hsx
  rw [← hlx] at HYP
  have HX := Lib.hid hx
  have HF := Lib.hid hf
  have HY := Lib.hid HYP
  have HNUM := Lib.hid hnum
  have HD0 := Lib.hid hd0
  have HCH := Lib.hid hch
  clear hf hep hlx hx HYP hh hnum hd0 hch
  go_enter Tryz.func151, Tryz.ntmps151
  go_wp2_with fail
  go_quiet ((go_at_call 174; exact quiet_same (ib_is _ _ _ (take_min s p) _ HF.out)))
  have e4 : optI (some e) = (e : Int) := rfl
  rw [e4]
  clear e4 e1 e2 b2 b3
  have hset : Gl ((w.drewN 0).setCell ⟨g, 1, none⟩ (.int .i64 ((p : Int) + e + 1))) := hG.only hr.1 ((Only.refl g w).drewN _ |>.set 1 _)
  have HG : Hid (∀ n v, Gl ((w.drewN n).setCell ⟨g, 1, none⟩ v)) := fun n v => hG.only hr.1 (((Only.refl g w).drewN n).set 1 v)
  have HR : Hid (∀ n, Only g w ((w.drewN n).setCell ⟨g, 1, none⟩ (.int .i64 ((p : Int) + e + 1))) ∧ Rd ((w.drewN n).setCell ⟨g, 1, none⟩ (.int .i64 ((p : Int) + e + 1))) g s (p + e + 1) fr out) := fun n => ⟨((Only.refl g w).drewN n).set 1 _, Rd.set1 (hr.drewN n) (p + e + 1)⟩
  clear hset
  have HB : Hid (b = 10 ∨ b = 16) := by rcases HY.out.2 with ⟨h, _⟩ | ⟨h, _⟩ <;> simp [Hid, h]
  have hdl : d.length ≤ 11 := by
    have h1 := L_length x
    rcases HY.out.2 with ⟨h, h2⟩ | ⟨h, h2, _⟩
    · rw [h2] at h1; simp at h1; omega
    · rw [h2] at h1; simp at h1; omega
  have hdz : (⟨d.toArray⟩ : ByteArray).size = d.length := rfl
  have HDZ := Lib.hid hdz
  clear hdz
  rcases HY.out.2 with ⟨hb, hxd⟩ | ⟨hb, hxd, hno⟩
  case inl =>
    subst hb
    have HXD := Lib.hid hxd
    clear hxd
    go_wp2_with fail
    rw [HX.out]
    refine (named_none x _ HY.out.1).mono ?_
    rintro e' w' ⟨rfl, rfl⟩
    go_wp2_with fail
    refine (cut_yes x ⟨#[35, 120]⟩ d _ HXD.out).mono ?_
    rintro e' w' ⟨rfl, rfl⟩
    go_wp2_with fail
    refine (pu_calls 16 (.inr rfl) ⟨d.toArray⟩ _ (HG.out _ _) (by rw [HDZ.out]; omega)).mono ?_
    rw [pu_zero _ (.inr rfl) ⟨d.toArray⟩ d rfl hd8, if_neg HD0.out, HNUM.out]
    rintro e' w1 ⟨hb1, he⟩
    subst he
    have HR2 : Hid (Only g w w1 ∧ Rd w1 g s (p + e + 1) fr out) := ⟨(HR.out _).1.below hb1, (HR.out _).2.below hb1⟩
    clear hb1
    have hn := char_le n HCH.out
    have hd9 : decide ((8 : Int) < d.length) = false := by rw [decide_eq_false_iff_not]; omega
    go_wp2_with (first | (go_at_call 48; refine (char_is n true _ ?_ ?_ HCH.out).mono ?_; (· omega); (· omega); rintro e' w2 ⟨rfl, hb2⟩; have HR3 : Hid (Only g w w2 ∧ Rd w2 g s (p + e + 1) fr out) := ⟨HR2.out.1.below hb2, HR2.out.2.below hb2⟩; clear hb2) | (go_at_call 86; refine (put_calls _ _).mono ?_; rintro e' w3 ⟨rfl, hb3⟩; have HR4 : Hid (Only g w w3 ∧ Rd w3 g s (p + e + 1) fr out) := ⟨HR3.out.1.below hb3, HR3.out.2.below hb3⟩; clear hb3))
    go_ret
    exact ⟨rfl, HR4.out.1, HR4.out.2⟩
  case inr =>
    subst hb
    have hn1 : (L ⟨#[35, 120]⟩).isPrefixOf (L x) = false := by
      rw [hxd]
      cases hd : d with
      | nil => rfl
      | cons c t => rw [hd] at hno; simp [L, List.isPrefixOf] at hno ⊢; exact fun h => hno h.symm
    have HN1 := Lib.hid hn1
    have HXD := Lib.hid hxd
    clear hxd hn1 hno
    go_wp2_with fail
    rw [HX.out]
    refine (named_none x _ HY.out.1).mono ?_
    rintro e' w' ⟨rfl, rfl⟩
    go_wp2_with fail
    refine (cut_no x ⟨#[35, 120]⟩ _ HN1.out).mono ?_
    rintro e' w' ⟨rfl, rfl⟩
    go_wp2_with fail
    refine (cut_yes x ⟨#[35]⟩ d _ HXD.out).mono ?_
    rintro e' w' ⟨rfl, rfl⟩
    go_wp2_with fail
    refine (pu_calls 10 (.inl rfl) ⟨d.toArray⟩ _ (HG.out _ _) (by rw [HDZ.out]; omega)).mono ?_
    rw [pu_zero _ (.inl rfl) ⟨d.toArray⟩ d rfl hd8, if_neg HD0.out, HNUM.out]
    rintro e' w1 ⟨hb1, he⟩
    subst he
    have HR2 : Hid (Only g w w1 ∧ Rd w1 g s (p + e + 1) fr out) := ⟨(HR.out _).1.below hb1, (HR.out _).2.below hb1⟩
    clear hb1
    have hn := char_le n HCH.out
    have hd9 : decide ((8 : Int) < d.length) = false := by rw [decide_eq_false_iff_not]; omega
    go_wp2_with (first | (go_at_call 48; refine (char_is n true _ ?_ ?_ HCH.out).mono ?_; (· omega); (· omega); rintro e' w2 ⟨rfl, hb2⟩; have HR3 : Hid (Only g w w2 ∧ Rd w2 g s (p + e + 1) fr out) := ⟨HR2.out.1.below hb2, HR2.out.2.below hb2⟩; clear hb2) | (go_at_call 86; refine (put_calls _ _).mono ?_; rintro e' w3 ⟨rfl, hb3⟩; have HR4 : Hid (Only g w w3 ∧ Rd w3 g s (p + e + 1) fr out) := ⟨HR3.out.1.below hb3, HR3.out.2.below hb3⟩; clear hb3))
    go_ret
    exact ⟨rfl, HR4.out.1, HR4.out.2⟩

set_option maxHeartbeats 8000000 in
set_option maxRecDepth 100000 in
theorem ref_num_err (s : ByteArray) (g p fr : Nat) (out : Value) (w : World) (hG : Gl w) (hr : Rd w g s p fr out) (hs : s.size ≤ 65536) (hp : p < s.size) (e : Nat) (hh : ((L s).drop p).head? = some 38) (hf : Sp.find [59] (((L s).drop p).take 12) = some e) (b : Nat) (d : List UInt8) (HYP : Sp.namedO ((((L s).drop p).drop 1).take (e - 1)) = none ∧ ((b = 16 ∧ (((L s).drop p).drop 1).take (e - 1) = 35 :: 120 :: d) ∨ (b = 10 ∧ (((L s).drop p).drop 1).take (e - 1) = 35 :: d ∧ d.head? ≠ some 120))) (hd8 : d.length ≤ 8) (hnum : d = [] ∨ Sp.number b 0 d = none) :
    Calls Tryz.prog 151 #[.pointer (some ⟨g, 0, none⟩)] w fun e' w' => e' = pan (p, 83) ∧ Only g w w' := by
  have h0 := hr.c0
  have h1 := hr.c1
  have hf1 := hr.fz 1
  have hep := find_pos hh hf
  rw [List.length_drop, L_length] at hep
  have hep1 := hep.1
  have hep2 := hep.2.1
  have hep3 := hep.2.2
  have e1 : IntKind.i64.wrap ((p : Int) + 12) = (p : Int) + 12 := IntWalk.i64_in _ (by omega)
  have e2 : min ((p : Int) + 12) s.size = ((min (p + 12) s.size : Nat) : Int) := by omega
  have b1 : (0 : Int) ≤ p := by omega
  have b2 : (p : Int) ≤ ((min (p + 12) s.size : Nat) : Int) := by omega
  have b3 : ((min (p + 12) s.size : Nat) : Int) ≤ s.size := by omega
  have hlx : L (s.extract (p + 1) (p + e)) = (((L s).drop p).drop 1).take (e - 1) := by rw [L_extract, List.drop_drop]; congr 1; omega
  have hsx : (s.extract (p + 1) (p + e)).size ≤ 11 := by rw [← L_length, hlx]; simp; omega
  obtain ⟨x, hx⟩ : ∃ x, s.extract (p + 1) (p + e) = x := ⟨_, rfl⟩
  rw [hx] at hlx hsx
  rw [← hlx] at HYP
  have HX := Lib.hid hx
  have HF := Lib.hid hf
  have HY := Lib.hid HYP
  have HNUM := Lib.hid hnum
  clear hf hep hlx hx HYP hh hnum
  go_enter Tryz.func151, Tryz.ntmps151
  go_wp2_with fail
  go_quiet ((go_at_call 174; exact quiet_same (ib_is _ _ _ (take_min s p) _ HF.out)))
  have e4 : optI (some e) = (e : Int) := rfl
  rw [e4]
  clear e4 e1 e2 b2 b3
  have hset : Gl ((w.drewN 0).setCell ⟨g, 1, none⟩ (.int .i64 ((p : Int) + e + 1))) := hG.only hr.1 ((Only.refl g w).drewN _ |>.set 1 _)
  have HG : Hid (∀ n v, Gl ((w.drewN n).setCell ⟨g, 1, none⟩ v)) := fun n v => hG.only hr.1 (((Only.refl g w).drewN n).set 1 v)
  have HR : Hid (∀ n, Only g w ((w.drewN n).setCell ⟨g, 1, none⟩ (.int .i64 ((p : Int) + e + 1))) ∧ Rd ((w.drewN n).setCell ⟨g, 1, none⟩ (.int .i64 ((p : Int) + e + 1))) g s (p + e + 1) fr out) := fun n => ⟨((Only.refl g w).drewN n).set 1 _, Rd.set1 (hr.drewN n) (p + e + 1)⟩
  clear hset
  have HB : Hid (b = 10 ∨ b = 16) := by rcases HY.out.2 with ⟨h, _⟩ | ⟨h, _⟩ <;> simp [Hid, h]
  have hdl : d.length ≤ 11 := by
    have h1 := L_length x
    rcases HY.out.2 with ⟨h, h2⟩ | ⟨h, h2, _⟩
    · rw [h2] at h1; simp at h1; omega
    · rw [h2] at h1; simp at h1; omega
  have hdz : (⟨d.toArray⟩ : ByteArray).size = d.length := rfl
  have HDZ := Lib.hid hdz
  clear hdz
  rcases HY.out.2 with ⟨hb, hxd⟩ | ⟨hb, hxd, hno⟩
  case inl =>
    subst hb
    have HXD := Lib.hid hxd
    clear hxd
    go_wp2_with fail
    rw [HX.out]
    refine (named_none x _ HY.out.1).mono ?_
    rintro e' w' ⟨rfl, rfl⟩
    go_wp2_with fail
    refine (cut_yes x ⟨#[35, 120]⟩ d _ HXD.out).mono ?_
    rintro e' w' ⟨rfl, rfl⟩
    go_wp2_with fail
    refine (pu_calls 16 (.inr rfl) ⟨d.toArray⟩ _ (HG.out _ _) (by rw [HDZ.out]; omega)).mono ?_
    intro e' w1 hend
    rw [pu_zero _ (.inr rfl) ⟨d.toArray⟩ d rfl hd8] at hend
    obtain ⟨hb1, u, t, v, he⟩ := hend.err (fun n => by
      by_cases hd : d = []
      · rw [if_pos hd]; exact PR.noConfusion
      · rw [if_neg hd, HNUM.out.resolve_left hd]; exact PR.noConfusion)
    subst he
    have HR2 : Hid (Only g w w1 ∧ Rd w1 g s (p + e + 1) fr out) := ⟨(HR.out _).1.below hb1, (HR.out _).2.below hb1⟩
    clear hb1
    go_wp2_with fail
    exact ⟨rfl, rfl, HR2.out.1⟩
  case inr =>
    subst hb
    have hn1 : (L ⟨#[35, 120]⟩).isPrefixOf (L x) = false := by
      rw [hxd]
      cases hd : d with
      | nil => rfl
      | cons c t => rw [hd] at hno; simp [L, List.isPrefixOf] at hno ⊢; exact fun h => hno h.symm
    have HN1 := Lib.hid hn1
    have HXD := Lib.hid hxd
    clear hxd hn1 hno
    go_wp2_with fail
    rw [HX.out]
    refine (named_none x _ HY.out.1).mono ?_
    rintro e' w' ⟨rfl, rfl⟩
    go_wp2_with fail
    refine (cut_no x ⟨#[35, 120]⟩ _ HN1.out).mono ?_
    rintro e' w' ⟨rfl, rfl⟩
    go_wp2_with fail
    refine (cut_yes x ⟨#[35]⟩ d _ HXD.out).mono ?_
    rintro e' w' ⟨rfl, rfl⟩
    go_wp2_with fail
    refine (pu_calls 10 (.inl rfl) ⟨d.toArray⟩ _ (HG.out _ _) (by rw [HDZ.out]; omega)).mono ?_
    intro e' w1 hend
    rw [pu_zero _ (.inl rfl) ⟨d.toArray⟩ d rfl hd8] at hend
    obtain ⟨hb1, u, t, v, he⟩ := hend.err (fun n => by
      by_cases hd : d = []
      · rw [if_pos hd]; exact PR.noConfusion
      · rw [if_neg hd, HNUM.out.resolve_left hd]; exact PR.noConfusion)
    subst he
    have HR2 : Hid (Only g w w1 ∧ Rd w1 g s (p + e + 1) fr out) := ⟨(HR.out _).1.below hb1, (HR.out _).2.below hb1⟩
    clear hb1
    go_wp2_with fail
    exact ⟨rfl, rfl, HR2.out.1⟩

set_option maxHeartbeats 8000000 in
set_option maxRecDepth 100000 in
theorem ref_num_long (s : ByteArray) (g p fr : Nat) (out : Value) (w : World) (hG : Gl w) (hr : Rd w g s p fr out) (hs : s.size ≤ 65536) (hp : p < s.size) (e : Nat) (hh : ((L s).drop p).head? = some 38) (hf : Sp.find [59] (((L s).drop p).take 12) = some e) (b : Nat) (d : List UInt8) (HYP : Sp.namedO ((((L s).drop p).drop 1).take (e - 1)) = none ∧ ((b = 16 ∧ (((L s).drop p).drop 1).take (e - 1) = 35 :: 120 :: d) ∨ (b = 10 ∧ (((L s).drop p).drop 1).take (e - 1) = 35 :: d ∧ d.head? ≠ some 120))) (hd8 : 8 < d.length) :
    Calls Tryz.prog 151 #[.pointer (some ⟨g, 0, none⟩)] w fun e' w' => e' = pan (p, 83) ∧ Only g w w' := by
  have h0 := hr.c0
  have h1 := hr.c1
  have hf1 := hr.fz 1
  have hep := find_pos hh hf
  rw [List.length_drop, L_length] at hep
  have hep1 := hep.1
  have hep2 := hep.2.1
  have hep3 := hep.2.2
  have e1 : IntKind.i64.wrap ((p : Int) + 12) = (p : Int) + 12 := IntWalk.i64_in _ (by omega)
  have e2 : min ((p : Int) + 12) s.size = ((min (p + 12) s.size : Nat) : Int) := by omega
  have b1 : (0 : Int) ≤ p := by omega
  have b2 : (p : Int) ≤ ((min (p + 12) s.size : Nat) : Int) := by omega
  have b3 : ((min (p + 12) s.size : Nat) : Int) ≤ s.size := by omega
  have hlx : L (s.extract (p + 1) (p + e)) = (((L s).drop p).drop 1).take (e - 1) := by rw [L_extract, List.drop_drop]; congr 1; omega
  have hsx : (s.extract (p + 1) (p + e)).size ≤ 11 := by rw [← L_length, hlx]; simp; omega
  obtain ⟨x, hx⟩ : ∃ x, s.extract (p + 1) (p + e) = x := ⟨_, rfl⟩
  rw [hx] at hlx hsx
  rw [← hlx] at HYP
  have HX := Lib.hid hx
  have HF := Lib.hid hf
  have HY := Lib.hid HYP
  clear hf hep hlx hx HYP hh 
  go_enter Tryz.func151, Tryz.ntmps151
  go_wp2_with fail
  go_quiet ((go_at_call 174; exact quiet_same (ib_is _ _ _ (take_min s p) _ HF.out)))
  have e4 : optI (some e) = (e : Int) := rfl
  rw [e4]
  clear e4 e1 e2 b2 b3
  have hset : Gl ((w.drewN 0).setCell ⟨g, 1, none⟩ (.int .i64 ((p : Int) + e + 1))) := hG.only hr.1 ((Only.refl g w).drewN _ |>.set 1 _)
  have HG : Hid (∀ n v, Gl ((w.drewN n).setCell ⟨g, 1, none⟩ v)) := fun n v => hG.only hr.1 (((Only.refl g w).drewN n).set 1 v)
  have HR : Hid (∀ n, Only g w ((w.drewN n).setCell ⟨g, 1, none⟩ (.int .i64 ((p : Int) + e + 1))) ∧ Rd ((w.drewN n).setCell ⟨g, 1, none⟩ (.int .i64 ((p : Int) + e + 1))) g s (p + e + 1) fr out) := fun n => ⟨((Only.refl g w).drewN n).set 1 _, Rd.set1 (hr.drewN n) (p + e + 1)⟩
  clear hset
  have HB : Hid (b = 10 ∨ b = 16) := by rcases HY.out.2 with ⟨h, _⟩ | ⟨h, _⟩ <;> simp [Hid, h]
  have hdl : d.length ≤ 11 := by
    have h1 := L_length x
    rcases HY.out.2 with ⟨h, h2⟩ | ⟨h, h2, _⟩
    · rw [h2] at h1; simp at h1; omega
    · rw [h2] at h1; simp at h1; omega
  have hdz : (⟨d.toArray⟩ : ByteArray).size = d.length := rfl
  have HDZ := Lib.hid hdz
  clear hdz
  rcases HY.out.2 with ⟨hb, hxd⟩ | ⟨hb, hxd, hno⟩
  case inl =>
    subst hb
    have HXD := Lib.hid hxd
    clear hxd
    go_wp2_with fail
    rw [HX.out]
    refine (named_none x _ HY.out.1).mono ?_
    rintro e' w' ⟨rfl, rfl⟩
    go_wp2_with fail
    refine (cut_yes x ⟨#[35, 120]⟩ d _ HXD.out).mono ?_
    rintro e' w' ⟨rfl, rfl⟩
    go_wp2_with fail
    refine (pu_calls 16 (.inr rfl) ⟨d.toArray⟩ _ (HG.out _ _) (by rw [HDZ.out]; omega)).mono ?_
    intro e' w1 hend
    have he := hend
    obtain ⟨hb1, -⟩ := hend
    have HR2 : Hid (Only g w w1 ∧ Rd w1 g s (p + e + 1) fr out) := ⟨(HR.out _).1.below hb1, (HR.out _).2.below hb1⟩
    have hd9 : decide ((8 : Int) < d.length) = true := by rw [decide_eq_true_eq]; omega
    rcases PuEnd.two he with ⟨n, rfl⟩ | ⟨u, t, v, rfl⟩
    all_goals
      clear hb1 he
      go_wp2_with fail
      exact ⟨rfl, rfl, HR2.out.1⟩
  case inr =>
    subst hb
    have hn1 : (L ⟨#[35, 120]⟩).isPrefixOf (L x) = false := by
      rw [hxd]
      cases hd : d with
      | nil => rfl
      | cons c t => rw [hd] at hno; simp [L, List.isPrefixOf] at hno ⊢; exact fun h => hno h.symm
    have HN1 := Lib.hid hn1
    have HXD := Lib.hid hxd
    clear hxd hn1 hno
    go_wp2_with fail
    rw [HX.out]
    refine (named_none x _ HY.out.1).mono ?_
    rintro e' w' ⟨rfl, rfl⟩
    go_wp2_with fail
    refine (cut_no x ⟨#[35, 120]⟩ _ HN1.out).mono ?_
    rintro e' w' ⟨rfl, rfl⟩
    go_wp2_with fail
    refine (cut_yes x ⟨#[35]⟩ d _ HXD.out).mono ?_
    rintro e' w' ⟨rfl, rfl⟩
    go_wp2_with fail
    refine (pu_calls 10 (.inl rfl) ⟨d.toArray⟩ _ (HG.out _ _) (by rw [HDZ.out]; omega)).mono ?_
    intro e' w1 hend
    have he := hend
    obtain ⟨hb1, -⟩ := hend
    have HR2 : Hid (Only g w w1 ∧ Rd w1 g s (p + e + 1) fr out) := ⟨(HR.out _).1.below hb1, (HR.out _).2.below hb1⟩
    have hd9 : decide ((8 : Int) < d.length) = true := by rw [decide_eq_true_eq]; omega
    rcases PuEnd.two he with ⟨n, rfl⟩ | ⟨u, t, v, rfl⟩
    all_goals
      clear hb1 he
      go_wp2_with fail
      exact ⟨rfl, rfl, HR2.out.1⟩

set_option maxHeartbeats 8000000 in
set_option maxRecDepth 100000 in
theorem ref_num_nochar (s : ByteArray) (g p fr : Nat) (out : Value) (w : World) (hG : Gl w) (hr : Rd w g s p fr out) (hs : s.size ≤ 65536) (hp : p < s.size) (e : Nat) (hh : ((L s).drop p).head? = some 38) (hf : Sp.find [59] (((L s).drop p).take 12) = some e) (b : Nat) (d : List UInt8) (HYP : Sp.namedO ((((L s).drop p).drop 1).take (e - 1)) = none ∧ ((b = 16 ∧ (((L s).drop p).drop 1).take (e - 1) = 35 :: 120 :: d) ∨ (b = 10 ∧ (((L s).drop p).drop 1).take (e - 1) = 35 :: d ∧ d.head? ≠ some 120))) (n : Nat) (hd8 : d.length ≤ 8) (hd0 : d ≠ []) (hnum : Sp.number b 0 d = some n) (hch : Sp.isChar (n : Int) = false) :
    Calls Tryz.prog 151 #[.pointer (some ⟨g, 0, none⟩)] w fun e' w' => e' = pan (p, 83) ∧ Only g w w' := by
  have h0 := hr.c0
  have h1 := hr.c1
  have hf1 := hr.fz 1
  have hep := find_pos hh hf
  rw [List.length_drop, L_length] at hep
  have hep1 := hep.1
  have hep2 := hep.2.1
  have hep3 := hep.2.2
  have e1 : IntKind.i64.wrap ((p : Int) + 12) = (p : Int) + 12 := IntWalk.i64_in _ (by omega)
  have e2 : min ((p : Int) + 12) s.size = ((min (p + 12) s.size : Nat) : Int) := by omega
  have b1 : (0 : Int) ≤ p := by omega
  have b2 : (p : Int) ≤ ((min (p + 12) s.size : Nat) : Int) := by omega
  have b3 : ((min (p + 12) s.size : Nat) : Int) ≤ s.size := by omega
  have hlx : L (s.extract (p + 1) (p + e)) = (((L s).drop p).drop 1).take (e - 1) := by rw [L_extract, List.drop_drop]; congr 1; omega
  have hsx : (s.extract (p + 1) (p + e)).size ≤ 11 := by rw [← L_length, hlx]; simp; omega
  obtain ⟨x, hx⟩ : ∃ x, s.extract (p + 1) (p + e) = x := ⟨_, rfl⟩
  rw [hx] at hlx hsx
  rw [← hlx] at HYP
  have HX := Lib.hid hx
  have HF := Lib.hid hf
  have HY := Lib.hid HYP
  have HNUM := Lib.hid hnum
  have HD0 := Lib.hid hd0
  have HCH := Lib.hid hch
  clear hf hep hlx hx HYP hh hnum hd0 hch
  go_enter Tryz.func151, Tryz.ntmps151
  go_wp2_with fail
  go_quiet ((go_at_call 174; exact quiet_same (ib_is _ _ _ (take_min s p) _ HF.out)))
  have e4 : optI (some e) = (e : Int) := rfl
  rw [e4]
  clear e4 e1 e2 b2 b3
  have hset : Gl ((w.drewN 0).setCell ⟨g, 1, none⟩ (.int .i64 ((p : Int) + e + 1))) := hG.only hr.1 ((Only.refl g w).drewN _ |>.set 1 _)
  have HG : Hid (∀ n v, Gl ((w.drewN n).setCell ⟨g, 1, none⟩ v)) := fun n v => hG.only hr.1 (((Only.refl g w).drewN n).set 1 v)
  have HR : Hid (∀ n, Only g w ((w.drewN n).setCell ⟨g, 1, none⟩ (.int .i64 ((p : Int) + e + 1))) ∧ Rd ((w.drewN n).setCell ⟨g, 1, none⟩ (.int .i64 ((p : Int) + e + 1))) g s (p + e + 1) fr out) := fun n => ⟨((Only.refl g w).drewN n).set 1 _, Rd.set1 (hr.drewN n) (p + e + 1)⟩
  clear hset
  have HB : Hid (b = 10 ∨ b = 16) := by rcases HY.out.2 with ⟨h, _⟩ | ⟨h, _⟩ <;> simp [Hid, h]
  have hdl : d.length ≤ 11 := by
    have h1 := L_length x
    rcases HY.out.2 with ⟨h, h2⟩ | ⟨h, h2, _⟩
    · rw [h2] at h1; simp at h1; omega
    · rw [h2] at h1; simp at h1; omega
  have hdz : (⟨d.toArray⟩ : ByteArray).size = d.length := rfl
  have HDZ := Lib.hid hdz
  clear hdz
  rcases HY.out.2 with ⟨hb, hxd⟩ | ⟨hb, hxd, hno⟩
  case inl =>
    subst hb
    have HXD := Lib.hid hxd
    clear hxd
    go_wp2_with fail
    rw [HX.out]
    refine (named_none x _ HY.out.1).mono ?_
    rintro e' w' ⟨rfl, rfl⟩
    go_wp2_with fail
    refine (cut_yes x ⟨#[35, 120]⟩ d _ HXD.out).mono ?_
    rintro e' w' ⟨rfl, rfl⟩
    go_wp2_with fail
    refine (pu_calls 16 (.inr rfl) ⟨d.toArray⟩ _ (HG.out _ _) (by rw [HDZ.out]; omega)).mono ?_
    rw [pu_zero _ (.inr rfl) ⟨d.toArray⟩ d rfl hd8, if_neg HD0.out, HNUM.out]
    rintro e' w1 ⟨hb1, he⟩
    subst he
    have HR2 : Hid (Only g w w1 ∧ Rd w1 g s (p + e + 1) fr out) := ⟨(HR.out _).1.below hb1, (HR.out _).2.below hb1⟩
    clear hb1
    have hd9 : decide ((8 : Int) < d.length) = false := by rw [decide_eq_false_iff_not]; omega
    by_cases hn : n ≤ 1114111
    · go_wp2_with (go_at_call 48; refine (char_is n false _ ?_ ?_ HCH.out).mono ?_; (· omega); (· omega); rintro e' w2 ⟨rfl, hb2⟩; have HR3 : Hid (Only g w w2 ∧ Rd w2 g s (p + e + 1) fr out) := ⟨HR2.out.1.below hb2, HR2.out.2.below hb2⟩; clear hb2)
      exact ⟨rfl, rfl, HR3.out.1⟩
    · have hn2 : decide ((1114111 : Int) < n) = true := by rw [decide_eq_true_eq]; omega
      clear hn
      go_wp2_with fail
      exact ⟨rfl, rfl, HR2.out.1⟩
  case inr =>
    subst hb
    have hn1 : (L ⟨#[35, 120]⟩).isPrefixOf (L x) = false := by
      rw [hxd]
      cases hd : d with
      | nil => rfl
      | cons c t => rw [hd] at hno; simp [L, List.isPrefixOf] at hno ⊢; exact fun h => hno h.symm
    have HN1 := Lib.hid hn1
    have HXD := Lib.hid hxd
    clear hxd hn1 hno
    go_wp2_with fail
    rw [HX.out]
    refine (named_none x _ HY.out.1).mono ?_
    rintro e' w' ⟨rfl, rfl⟩
    go_wp2_with fail
    refine (cut_no x ⟨#[35, 120]⟩ _ HN1.out).mono ?_
    rintro e' w' ⟨rfl, rfl⟩
    go_wp2_with fail
    refine (cut_yes x ⟨#[35]⟩ d _ HXD.out).mono ?_
    rintro e' w' ⟨rfl, rfl⟩
    go_wp2_with fail
    refine (pu_calls 10 (.inl rfl) ⟨d.toArray⟩ _ (HG.out _ _) (by rw [HDZ.out]; omega)).mono ?_
    rw [pu_zero _ (.inl rfl) ⟨d.toArray⟩ d rfl hd8, if_neg HD0.out, HNUM.out]
    rintro e' w1 ⟨hb1, he⟩
    subst he
    have HR2 : Hid (Only g w w1 ∧ Rd w1 g s (p + e + 1) fr out) := ⟨(HR.out _).1.below hb1, (HR.out _).2.below hb1⟩
    clear hb1
    have hd9 : decide ((8 : Int) < d.length) = false := by rw [decide_eq_false_iff_not]; omega
    by_cases hn : n ≤ 1114111
    · go_wp2_with (go_at_call 48; refine (char_is n false _ ?_ ?_ HCH.out).mono ?_; (· omega); (· omega); rintro e' w2 ⟨rfl, hb2⟩; have HR3 : Hid (Only g w w2 ∧ Rd w2 g s (p + e + 1) fr out) := ⟨HR2.out.1.below hb2, HR2.out.2.below hb2⟩; clear hb2)
      exact ⟨rfl, rfl, HR3.out.1⟩
    · have hn2 : decide ((1114111 : Int) < n) = true := by rw [decide_eq_true_eq]; omega
      clear hn
      go_wp2_with fail
      exact ⟨rfl, rfl, HR2.out.1⟩

end Go.Proofs.YtokdclmikllepaaGreatDoor
namespace Go.Proofs.YtokdclmikllepaaGreatDoor
open Go.RowKit
set_option linter.unusedVariables false
set_option linter.unusedSimpArgs false

theorem numO_cases (x : List UInt8) : (∃ d, x = 35 :: 120 :: d ∧ Sp.numO x = Sp.numRune 16 d) ∨ (∃ d, x = 35 :: d ∧ d.head? ≠ some 120 ∧ Sp.numO x = Sp.numRune 10 d) ∨ (x.head? ≠ some 35 ∧ Sp.numO x = none) := by
  cases x with
  | nil => exact .inr (.inr ⟨by simp, rfl⟩)
  | cons c t =>
    by_cases hc : c = 35
    · subst hc
      cases t with
      | nil => exact .inr (.inl ⟨[], rfl, by simp, rfl⟩)
      | cons c2 t2 =>
        by_cases h2 : c2 = 120
        · subst h2; exact .inl ⟨t2, rfl, rfl⟩
        · refine .inr (.inl ⟨c2 :: t2, rfl, by simpa using h2, ?_⟩)
          unfold Sp.numO
          split
          · rename_i h; injection h with _ h; injection h with h _; exact absurd h h2
          · rename_i h; injection h with _ h; subst h; rfl
          · rename_i _ h; exact absurd rfl (h _)
    · refine .inr (.inr ⟨by simpa using hc, ?_⟩)
      unfold Sp.numO
      split
      · rename_i h; injection h with h _; exact absurd h hc
      · rename_i h; injection h with h _; exact absurd h hc
      · rfl

/-- What a call of reference comes to, by the specification. -/
theorem reference_calls (s : ByteArray) (g p fr : Nat) (out : Value) (w : World) (hG : Gl w) (hr : Rd w g s p fr out) (hs : s.size ≤ 65536) (hp : p < s.size) (hh : ((L s).drop p).head? = some 38) :
    (∀ t m, Sp.reference p ((L s).drop p) = .ok (t, m) → Calls Tryz.prog 151 #[.pointer (some ⟨g, 0, none⟩)] w fun e' w' => e' = .returned (.string ⟨t.toArray⟩) ∧ Only g w w' ∧ Rd w' g s (p + m) fr out) ∧
    (∀ f, Sp.reference p ((L s).drop p) = .error f → Calls Tryz.prog 151 #[.pointer (some ⟨g, 0, none⟩)] w fun e' w' => e' = pan f ∧ Only g w w') := by
  unfold Sp.reference
  cases hf : Sp.find [59] (((L s).drop p).take 12) with
  | none => exact ⟨(fun _ _ h => by cases h), fun f h => by injection h with h; subst h; exact ref_nosemi s g p fr out w hr hs hp hf⟩
  | some e =>
    simp only
    unfold Sp.refText
    cases hn : Sp.namedO ((((L s).drop p).drop 1).take (e - 1)) with
    | some t =>
      refine ⟨fun t' m h => ?_, fun f h => by cases h⟩
      injection h with h
      injection h with h1 h2
      subst h1 h2
      exact ref_named s g p fr out w hG hr hs hp e hh hf t hn
    | none =>
      simp only
      have key : ∀ (b : Nat) (d : List UInt8) (hform : (b = 16 ∧ (((L s).drop p).drop 1).take (e - 1) = 35 :: 120 :: d) ∨ (b = 10 ∧ (((L s).drop p).drop 1).take (e - 1) = 35 :: d ∧ d.head? ≠ some 120)),
          (∀ t m, (match Sp.numRune b d with | none => Except.error (p, 83) | some t => Except.ok (t, e + 1) : Except Sp.Flt (Sp.Bs × Nat)) = .ok (t, m) → Calls Tryz.prog 151 #[.pointer (some ⟨g, 0, none⟩)] w fun e' w' => e' = .returned (.string ⟨t.toArray⟩) ∧ Only g w w' ∧ Rd w' g s (p + m) fr out) ∧
          (∀ f, (match Sp.numRune b d with | none => Except.error (p, 83) | some t => Except.ok (t, e + 1) : Except Sp.Flt (Sp.Bs × Nat)) = .error f → Calls Tryz.prog 151 #[.pointer (some ⟨g, 0, none⟩)] w fun e' w' => e' = pan f ∧ Only g w w') := by
        intro b d hform
        unfold Sp.numRune
        by_cases hd : d = [] ∨ 8 < d.length
        · rw [if_pos hd]
          refine ⟨(fun _ _ h => by cases h), fun f h => ?_⟩
          injection h with h
          subst h
          by_cases hl : 8 < d.length
          · exact ref_num_long s g p fr out w hG hr hs hp e hh hf b d ⟨hn, hform⟩ hl
          · exact ref_num_err s g p fr out w hG hr hs hp e hh hf b d ⟨hn, hform⟩ (by omega) (.inl (hd.resolve_right hl))
        · rw [if_neg hd]
          have hd0 : d ≠ [] := fun h => hd (.inl h)
          have hd8 : d.length ≤ 8 := Nat.le_of_not_lt fun h => hd (.inr h)
          cases hnum : Sp.number b 0 d with
          | none =>
            refine ⟨(fun _ _ h => by cases h), fun f h => ?_⟩
            injection h with h
            subst h
            exact ref_num_err s g p fr out w hG hr hs hp e hh hf b d ⟨hn, hform⟩ hd8 (.inr hnum)
          | some n =>
            simp only
            cases hch : Sp.isChar (n : Int) with
            | true =>
              simp only [if_true]
              refine ⟨fun t m h => ?_, fun f h => by cases h⟩
              injection h with h
              injection h with h1 h2
              subst h1 h2
              exact ref_num s g p fr out w hG hr hs hp e hh hf b d ⟨hn, hform⟩ n hd8 hd0 hnum hch
            | false =>
              simp only [Bool.false_eq_true, if_false]
              refine ⟨(fun _ _ h => by cases h), fun f h => ?_⟩
              injection h with h
              subst h
              exact ref_num_nochar s g p fr out w hG hr hs hp e hh hf b d ⟨hn, hform⟩ n hd8 hd0 hnum hch
      rcases numO_cases ((((L s).drop p).drop 1).take (e - 1)) with ⟨d, hx, hno⟩ | ⟨d, hx, hx2, hno⟩ | ⟨hx, hno⟩
      · rw [hno]; exact key 16 d (.inl ⟨rfl, hx⟩)
      · rw [hno]; exact key 10 d (.inr ⟨rfl, hx, hx2⟩)
      · rw [hno]
        refine ⟨(fun _ _ h => by cases h), fun f h => ?_⟩
        injection h with h
        subst h
        exact ref_noform s g p fr out w hG hr hs hp e hh hf ⟨hn, hx⟩
end Go.Proofs.YtokdclmikllepaaGreatDoor
