import Derived.Test.YtokdclmikllepaaGreatDoorMe38
import Derived.Lib.AppendStr
import Derived.Laws.AppendOwnNone
import Derived.Test.YtokdclmikllepaaGreatDoorMe17
namespace Go.Proofs.YtokdclmikllepaaGreatDoor
open Go.RowKit
set_option linter.unusedVariables false
set_option linter.unusedSimpArgs false

theorem find59_take (l : List UInt8) (k : Nat) : Sp.find [59] (l.take k) = match Sp.find [59] l with | some e => if e < k then some e else none | none => none := by
  induction l generalizing k with
  | nil => cases k <;> rfl
  | cons c t ih =>
    cases k with
    | zero =>
      simp only [List.take_zero, Nat.not_lt_zero, if_false]
      cases Sp.find [59] (c :: t) <;> rfl
    | succ k =>
      rw [List.take_succ_cons, find_step, find_step]
      by_cases h : c = 59
      · subst h; rfl
      · have hp : ∀ u : List UInt8, ([59] : List UInt8).isPrefixOf (c :: u) = false := fun u => by
          simp only [List.isPrefixOf, Bool.and_true, beq_eq_false_iff_ne]
          exact fun e => h e.symm
        rw [hp, hp, if_neg (by simp), if_neg (by simp), ih]
        cases Sp.find [59] t with
        | none => rfl
        | some e =>
          simp only [Option.map]
          by_cases hk : e < k
          · rw [if_pos hk, if_pos (by omega)]
          · rw [if_neg hk, if_neg (by omega)]

theorem numRune_is (base : Nat) (l : List UInt8) : Sp.numRune base l = if numI base l < 0 then none else some (Sp.put (numI base l)) := by
  unfold Sp.numRune numI
  by_cases h : l = [] ∨ 8 < l.length
  · rw [if_pos h, if_pos h]; rfl
  · rw [if_neg h, if_neg h]
    cases Sp.number base 0 l with
    | none => rfl
    | some n =>
      simp only
      by_cases hc : Sp.isChar (n : Int) = true
      · rw [if_pos hc, if_pos hc, if_neg (by omega)]
      · rw [if_neg hc, if_neg hc]; rfl

theorem numI_ge (base : Nat) (l : List UInt8) : -1 ≤ numI base l ∧ numI base l ≤ 1114111 ∧ (8 < l.length → numI base l = -1) := by
  unfold numI
  split
  · exact ⟨by omega, by omega, fun _ => rfl⟩
  · rename_i h
    refine ⟨?_, ?_, fun h8 => absurd (.inr h8) h⟩
    · repeat' split
      all_goals omega
    · split
      · split
        · rename_i hc
          simp [Sp.isChar, Sp.isRune] at hc
          omega
        · omega
      · omega

theorem refText_long (x : List UInt8) (h : 10 < x.length) : Sp.refText x = none := by
  have hn : ∀ l : List UInt8, l.length ≤ 10 → x ≠ l := fun l hl e => by subst e; omega
  unfold Sp.refText Sp.namedO
  rw [if_neg (hn _ (by decide)), if_neg (hn _ (by decide)), if_neg (hn _ (by decide)), if_neg (hn _ (by decide)), if_neg (hn _ (by decide))]
  simp only
  unfold Sp.numO
  split
  · rename_i t
    rw [numRune_is, (numI_ge 16 t).2.2 (by simp at h; omega)]; rfl
  · rename_i t _
    rw [numRune_is, (numI_ge 10 t).2.2 (by simp at h; omega)]; rfl
  · rfl

/-- A reference, its end sought wherever it may be. -/
theorem reference_is (p : Nat) (l : List UInt8) : Sp.reference p l = match Sp.find [59] l with | none => .error (p, 83) | some e => match Sp.refText ((l.drop 1).take (e - 1)) with | none => .error (p, 83) | some t => .ok (t, e + 1) := by
  unfold Sp.reference
  rw [find59_take]
  cases hf : Sp.find [59] l with
  | none => rfl
  | some e =>
    simp only
    by_cases h : e < 12
    · simp only [if_pos h]
      cases Sp.refText ((l.drop 1).take (e - 1)) <;> rfl
    · simp only [if_neg h]
      have hle := find_le _ _ _ hf
      simp only [List.length_cons, List.length_nil] at hle
      rw [refText_long _ (by rw [List.length_take, List.length_drop]; omega)]

/-- What the document's answer says of what stands between & and ; : its rune, by number. -/
def refNumI (x : List UInt8) : Int :=
  match x with
  | 35 :: 120 :: t => numI 16 t
  | 35 :: t => numI 10 t
  | _ => -1

theorem numO_is (x : List UInt8) : Sp.numO x = if refNumI x < 0 then none else some (Sp.put (refNumI x)) := by
  rcases x with _ | ⟨c, _ | ⟨d, t⟩⟩
  · rfl
  · by_cases hc : c = 35
    · subst hc; rfl
    · simp [Sp.numO, refNumI, hc]
  · by_cases hc : c = 35
    · subst hc
      by_cases hd : d = 120
      · subst hd
        exact numRune_is 16 t
      · simp [Sp.numO, refNumI, hd, numRune_is]
    · simp [Sp.numO, refNumI, hc]

theorem refNumI_bd (x : List UInt8) : -1 ≤ refNumI x ∧ refNumI x ≤ 1114111 := by
  unfold refNumI
  split
  · exact ⟨(numI_ge 16 _).1, (numI_ge 16 _).2.1⟩
  · exact ⟨(numI_ge 10 _).1, (numI_ge 10 _).2.1⟩
  · omega

theorem refNumI_hash (t : List UInt8) (h : ∀ u, t = 120 :: u → u = []) : refNumI (35 :: t) = numI 10 t := by
  cases t with
  | nil => rfl
  | cons d u =>
    by_cases hd : d = 120
    · subst hd
      rw [h u rfl]
      rfl
    · simp [refNumI, hd]

theorem refNumI_other (c : UInt8) (t : List UInt8) (h : c ≠ 35) : refNumI (c :: t) = -1 := by
  simp [refNumI, h]

theorem refNumI_short (l : List UInt8) (h : l.length ≤ 1) : refNumI l = -1 := by
  match l, h with
  | [], _ => rfl
  | [c], _ =>
    by_cases hc : c = 35
    · subst hc; rfl
    · exact refNumI_other c [] hc
  | _ :: _ :: _, h => exact absurd h (by simp)

theorem u8_ne {c : UInt8} {k : Nat} (d : UInt8) (hd : d.toNat = k) (h : c ≠ d) : ((c.toNat : Int) == (k : Int)) = false := by
  rw [beq_eq_false_iff_ne]
  intro e
  exact h (UInt8.toNat_inj.1 (by omega))

/-- How the document's reference ends. -/
def RefEnd (p : Nat) (R : Except Sp.Flt (List UInt8 × Nat)) (w : World) (e : Ending) (w' : World) : Prop :=
  (e = match R with
    | .ok (t, m) => .returned (.tuple #[.string ⟨t.toArray⟩, .int .i64 ((p + m : Nat) : Int)])
    | .error _ => .returned (.tuple #[.string ⟨#[]⟩, .int .i64 0])) ∧ Below w.heap.size w w'

theorem L_between (s : ByteArray) (p e : Nat) (he : 1 ≤ e) : L (s.extract (p + 1) (p + e)) = (((L s).drop p).drop 1).take (e - 1) := by
  rw [L_extract, List.drop_drop]
  congr 1
  omega

theorem eqf {x k : List UInt8} (h : x ≠ k) : (x == k) = false := by simpa using h
theorem eqt {x k : List UInt8} (h : x = k) : (x == k) = true := by simp [h]

set_option maxHeartbeats 8000000 in
set_option maxRecDepth 100000 in
theorem refReference_calls (s : ByteArray) (p : Nat) (w : World) (hs : s.size ≤ 140737488351232) (hp : p < s.size) (h38 : s[p] = 38) :
    Calls Tryz.prog 101 #[.string s, .int .i64 p] w (RefEnd p (Sp.reference p ((L s).drop p)) w) := by
  have hfa : findAt s ⟨#[59]⟩ p = match Sp.find [59] ((L s).drop p) with | some i => ((p + i : Nat) : Int) | none => -1 := rfl
  rw [reference_is]
  cases hf : Sp.find [59] ((L s).drop p) with
  | none =>
    rw [hf] at hfa
    simp only at hfa ⊢
    have HF := Lib.hid hfa
    clear hfa hf
    go_enter Tryz.func101, Tryz.ntmps101
    go_wp2_with (go_at_call 54; refine (refFind_calls s ⟨#[59]⟩ p _ hs (by omega) (by decide) (by decide)).mono ?_; rw [HF.out]; rintro e w' ⟨rfl, rfl⟩)
    go_ret2
    exact ⟨rfl, Below.refl _ _⟩
  | some e =>
    rw [hf] at hfa
    simp only at hfa ⊢
    have hle := find_le _ _ _ hf
    rw [List.length_drop, L_length] at hle
    simp only [List.length_cons, List.length_nil] at hle
    have he1 : 1 ≤ e := by
      rcases Nat.eq_zero_or_pos e with h | h
      · subst h
        rw [L_drop s p hp, find_step, h38] at hf
        cases h2 : Sp.find [59] ((L s).drop (p + 1)) <;> rw [h2] at hf <;> cases hf
      · exact h
    have HF := Lib.hid hfa
    clear hfa hf
    have hx0 : (0 : Int) ≤ ((p + e : Nat) : Int) := by omega
    have hx1 : (p : Int) + 1 ≤ ((p + e : Nat) : Int) := by omega
    have hx2 : ((p + e : Nat) : Int) ≤ s.size := by omega
    have hx3 : IntKind.i64.wrap ((p : Int) + 1) = (p : Int) + 1 := IntWalk.i64_in _ (by omega)
    rw [← L_between s p e he1, ← toList_L]
    have hxl : (s.extract (p + 1) (p + e)).size = e - 1 := by rw [ByteArray.size_extract]; omega
    by_cases h0 : (s.extract (p + 1) (p + e)).toList = [108, 116]
    · have b0 := eqt h0
      rw [h0]
      have hr : Sp.refText [108, 116] = some [60] := by decide
      rw [hr]
      clear hr h0
      go_enter Tryz.func101, Tryz.ntmps101
      go_wp2_with (go_at_call 54; refine (refFind_calls s ⟨#[59]⟩ p _ hs (by omega) (by decide) (by decide)).mono ?_; rw [HF.out]; rintro e1 w' ⟨rfl, rfl⟩)
      go_ret2
      exact ⟨rfl, Below.refl _ _⟩
    have b0 := eqf h0
    by_cases h1 : (s.extract (p + 1) (p + e)).toList = [103, 116]
    · have b1 := eqt h1
      rw [h1]
      have hr : Sp.refText [103, 116] = some [62] := by decide
      rw [hr]
      clear hr h0 h1
      go_enter Tryz.func101, Tryz.ntmps101
      go_wp2_with (go_at_call 54; refine (refFind_calls s ⟨#[59]⟩ p _ hs (by omega) (by decide) (by decide)).mono ?_; rw [HF.out]; rintro e1 w' ⟨rfl, rfl⟩)
      go_ret2
      exact ⟨rfl, Below.refl _ _⟩
    have b1 := eqf h1
    by_cases h2 : (s.extract (p + 1) (p + e)).toList = [97, 109, 112]
    · have b2 := eqt h2
      rw [h2]
      have hr : Sp.refText [97, 109, 112] = some [38] := by decide
      rw [hr]
      clear hr h0 h1 h2
      go_enter Tryz.func101, Tryz.ntmps101
      go_wp2_with (go_at_call 54; refine (refFind_calls s ⟨#[59]⟩ p _ hs (by omega) (by decide) (by decide)).mono ?_; rw [HF.out]; rintro e1 w' ⟨rfl, rfl⟩)
      go_ret2
      exact ⟨rfl, Below.refl _ _⟩
    have b2 := eqf h2
    by_cases h3 : (s.extract (p + 1) (p + e)).toList = [97, 112, 111, 115]
    · have b3 := eqt h3
      rw [h3]
      have hr : Sp.refText [97, 112, 111, 115] = some [39] := by decide
      rw [hr]
      clear hr h0 h1 h2 h3
      go_enter Tryz.func101, Tryz.ntmps101
      go_wp2_with (go_at_call 54; refine (refFind_calls s ⟨#[59]⟩ p _ hs (by omega) (by decide) (by decide)).mono ?_; rw [HF.out]; rintro e1 w' ⟨rfl, rfl⟩)
      go_ret2
      exact ⟨rfl, Below.refl _ _⟩
    have b3 := eqf h3
    by_cases h4 : (s.extract (p + 1) (p + e)).toList = [113, 117, 111, 116]
    · have b4 := eqt h4
      rw [h4]
      have hr : Sp.refText [113, 117, 111, 116] = some [34] := by decide
      rw [hr]
      clear hr h0 h1 h2 h3 h4
      go_enter Tryz.func101, Tryz.ntmps101
      go_wp2_with (go_at_call 54; refine (refFind_calls s ⟨#[59]⟩ p _ hs (by omega) (by decide) (by decide)).mono ?_; rw [HF.out]; rintro e1 w' ⟨rfl, rfl⟩)
      go_ret2
      exact ⟨rfl, Below.refl _ _⟩
    have b4 := eqf h4
    have hrt : Sp.refText (s.extract (p + 1) (p + e)).toList = if refNumI (s.extract (p + 1) (p + e)).toList < 0 then none else some (Sp.put (refNumI (s.extract (p + 1) (p + e)).toList)) := by
      rw [← numO_is]
      unfold Sp.refText Sp.namedO
      rw [if_neg h0, if_neg h1, if_neg h2, if_neg h3, if_neg h4]
    rw [hrt]
    clear hrt h0 h1 h2 h3 h4
    generalize hX : s.extract (p + 1) (p + e) = x at *
    rw [toList_L]
    have hxb : x.size ≤ 140737488351232 := by omega
    clear hxl
    obtain ⟨rv, hrv⟩ : ∃ rv, refNumI (L x) = rv := ⟨_, rfl⟩
    rw [hrv]
    have hw32 : wrap32 rv = rv := IntWalk.wrap32_in _ (by have := refNumI_bd (L x); rw [hrv] at this; omega)
    by_cases hA : ∃ h : 2 < x.size, x[0] = 35 ∧ x[1] = 120
    · obtain ⟨hA0, hA1, hA2⟩ := hA
      have hi0 : (0 : Int) < x.size := by omega
      have hi1 : (1 : Int) < x.size := by omega
      have hi2 : (2 : Int) < x.size := by omega
      have hi3 : (2 : Int) ≤ x.size := by omega
      have c0 : ((x[0].toNat : Int) == 35) = true := by rw [hA1]; rfl
      have c1 : ((x[1].toNat : Int) == 120) = true := by rw [hA2]; rfl
      have hN : numI 16 (L (x.extract 2 x.size)) = rv := by
        rw [L_from, ← hrv]
        have e1 : L x = 35 :: 120 :: (L x).drop 2 := by
          have := L_drop x 0 (by omega)
          rw [List.drop_zero] at this
          rw [this, L_drop x 1 (by omega)]
          simp only [hA1, hA2]
          rfl
        conv => rhs; rw [e1]
        rfl
      have HN := Lib.hid hN
      clear hN hrv hA1 hA2
      by_cases hneg : rv < 0
      · rw [if_pos hneg]
        go_enter Tryz.func101, Tryz.ntmps101
        go_wp2_with (first
          | (go_at_call 54; refine (refFind_calls s ⟨#[59]⟩ p _ hs (by omega) (by decide) (by decide)).mono ?_; rw [HF.out]; rintro e1 w' ⟨rfl, rfl⟩)
          | (go_at_call 128; refine (refNumber_calls _ 16 _ (by rw [ByteArray.size_extract]; omega) (.inr rfl)).mono ?_; rw [HN.out]; rintro e1 w' ⟨rfl, rfl⟩))
        go_ret2
        exact ⟨rfl, Below.refl _ _⟩
      · rw [if_neg hneg]
        go_enter Tryz.func101, Tryz.ntmps101
        go_wp2_with (first
          | (go_at_call 54; refine (refFind_calls s ⟨#[59]⟩ p _ hs (by omega) (by decide) (by decide)).mono ?_; rw [HF.out]; rintro e1 w' ⟨rfl, rfl⟩)
          | (go_at_call 128; refine (refNumber_calls _ 16 _ (by rw [ByteArray.size_extract]; omega) (.inr rfl)).mono ?_; rw [HN.out]; rintro e1 w' ⟨rfl, rfl⟩)
          | (go_at_call 23; refine (refPut_calls _ _).mono ?_; rintro e1 w' ⟨v, rfl, hv, hb⟩; have hc0 := hv.conv))
        go_ret2
        exact ⟨rfl, hb⟩
    · by_cases h1 : 1 < x.size
      · have hi0 : (0 : Int) < x.size := by omega
        have hi1 : (1 : Int) < x.size := by omega
        have hi3 : (1 : Int) ≤ x.size := by omega
        have hLx : L x = x[0] :: (L x).drop 1 := by
          have := L_drop x 0 (by omega)
          rw [List.drop_zero] at this
          exact this
        by_cases h35 : x[0] = 35
        · have c0 : ((x[0].toNat : Int) == 35) = true := by rw [h35]; rfl
          have hN : numI 10 (L (x.extract 1 x.size)) = rv := by
            rw [L_from, ← hrv]
            conv => rhs; rw [hLx, h35]
            refine (refNumI_hash _ fun u hu => ?_).symm
            rw [L_drop x 1 h1] at hu
            injection hu with hu1 hu2
            rw [← hu2]
            refine List.drop_eq_nil_of_le ?_
            rw [L_length]
            rcases Nat.lt_or_ge 2 x.size with h | h
            · exact absurd ⟨h, h35, hu1⟩ hA
            · omega
          have HN := Lib.hid hN
          clear hN hrv hLx
          by_cases h2 : 2 < x.size
          · have hi2 : (2 : Int) < x.size := by omega
            have c1 : ((x[1].toNat : Int) == 120) = false := u8_ne (k := 120) 120 rfl (fun h => hA ⟨h2, h35, h⟩)
            clear hA h35
            by_cases hneg : rv < 0
            · rw [if_pos hneg]
              go_enter Tryz.func101, Tryz.ntmps101
              go_wp2_with (first
                | (go_at_call 54; refine (refFind_calls s ⟨#[59]⟩ p _ hs (by omega) (by decide) (by decide)).mono ?_; rw [HF.out]; rintro e1 w' ⟨rfl, rfl⟩)
                | (go_at_call 128; refine (refNumber_calls _ 10 _ (by rw [ByteArray.size_extract]; omega) (.inl rfl)).mono ?_; rw [HN.out]; rintro e1 w' ⟨rfl, rfl⟩))
              go_ret2
              exact ⟨rfl, Below.refl _ _⟩
            · rw [if_neg hneg]
              go_enter Tryz.func101, Tryz.ntmps101
              go_wp2_with (first
                | (go_at_call 54; refine (refFind_calls s ⟨#[59]⟩ p _ hs (by omega) (by decide) (by decide)).mono ?_; rw [HF.out]; rintro e1 w' ⟨rfl, rfl⟩)
                | (go_at_call 128; refine (refNumber_calls _ 10 _ (by rw [ByteArray.size_extract]; omega) (.inl rfl)).mono ?_; rw [HN.out]; rintro e1 w' ⟨rfl, rfl⟩)
                | (go_at_call 23; refine (refPut_calls _ _).mono ?_; rintro e1 w' ⟨v, rfl, hv, hb⟩; have hc0 := hv.conv))
              go_ret2
              exact ⟨rfl, hb⟩
          · have hi2 : ¬ (2 : Int) < x.size := by omega
            clear hA h35
            by_cases hneg : rv < 0
            · rw [if_pos hneg]
              go_enter Tryz.func101, Tryz.ntmps101
              go_wp2_with (first
                | (go_at_call 54; refine (refFind_calls s ⟨#[59]⟩ p _ hs (by omega) (by decide) (by decide)).mono ?_; rw [HF.out]; rintro e1 w' ⟨rfl, rfl⟩)
                | (go_at_call 128; refine (refNumber_calls _ 10 _ (by rw [ByteArray.size_extract]; omega) (.inl rfl)).mono ?_; rw [HN.out]; rintro e1 w' ⟨rfl, rfl⟩))
              go_ret2
              exact ⟨rfl, Below.refl _ _⟩
            · rw [if_neg hneg]
              go_enter Tryz.func101, Tryz.ntmps101
              go_wp2_with (first
                | (go_at_call 54; refine (refFind_calls s ⟨#[59]⟩ p _ hs (by omega) (by decide) (by decide)).mono ?_; rw [HF.out]; rintro e1 w' ⟨rfl, rfl⟩)
                | (go_at_call 128; refine (refNumber_calls _ 10 _ (by rw [ByteArray.size_extract]; omega) (.inl rfl)).mono ?_; rw [HN.out]; rintro e1 w' ⟨rfl, rfl⟩)
                | (go_at_call 23; refine (refPut_calls _ _).mono ?_; rintro e1 w' ⟨v, rfl, hv, hb⟩; have hc0 := hv.conv))
              go_ret2
              exact ⟨rfl, hb⟩
        · have c0 : ((x[0].toNat : Int) == 35) = false := u8_ne (k := 35) 35 rfl h35
          rw [hLx, refNumI_other _ _ h35] at hrv
          clear hA h35 hLx
          by_cases h2 : 2 < x.size
          · have hi2 : (2 : Int) < x.size := by omega
            subst hrv
            rw [if_pos (by omega)]
            go_enter Tryz.func101, Tryz.ntmps101
            go_wp2_with (go_at_call 54; refine (refFind_calls s ⟨#[59]⟩ p _ hs (by omega) (by decide) (by decide)).mono ?_; rw [HF.out]; rintro e1 w' ⟨rfl, rfl⟩)
            go_ret2
            exact ⟨rfl, Below.refl _ _⟩
          · have hi2 : ¬ (2 : Int) < x.size := by omega
            subst hrv
            rw [if_pos (by omega)]
            go_enter Tryz.func101, Tryz.ntmps101
            go_wp2_with (go_at_call 54; refine (refFind_calls s ⟨#[59]⟩ p _ hs (by omega) (by decide) (by decide)).mono ?_; rw [HF.out]; rintro e1 w' ⟨rfl, rfl⟩)
            go_ret2
            exact ⟨rfl, Below.refl _ _⟩
      · rw [refNumI_short _ (by rw [L_length]; omega)] at hrv
        have hi1 : ¬ (1 : Int) < x.size := by omega
        have hi2 : ¬ (2 : Int) < x.size := by omega
        clear hA
        subst hrv
        rw [if_pos (by omega)]
        go_enter Tryz.func101, Tryz.ntmps101
        go_wp2_with (go_at_call 54; refine (refFind_calls s ⟨#[59]⟩ p _ hs (by omega) (by decide) (by decide)).mono ?_; rw [HF.out]; rintro e1 w' ⟨rfl, rfl⟩)
        go_ret2
        exact ⟨rfl, Below.refl _ _⟩

end Go.Proofs.YtokdclmikllepaaGreatDoor
namespace Go.Proofs.YtokdclmikllepaaGreatDoor
open Go.RowKit
set_option linter.unusedVariables false
set_option linter.unusedSimpArgs false

theorem infoU8 : (Tryz.prog.info? 5).map (fun i => (i.zero, i.size, i.bytes)) = some (some (.int .u8 0), 1, 1) := by kernel_rfl

theorem OwnB.cells {base : Nat} {w : World} {v : Value} {l : List UInt8} (h : OwnB base w v l) :
    (v = .slice none 0 0 ∧ l = []) ∨ ∃ g cap, v = .slice (some ⟨g, 0, none⟩) l.length cap ∧ base ≤ g ∧ g < w.heap.size ∧ ∀ j u, (byteVals l)[j]? = some u → w.cell? ((⟨g, 0, none⟩ : Addr).add j) = some u := by
  rcases h.2 with ⟨rfl, hl⟩ | ⟨g, cap, cur, rfl, hbg, hg, hnc, hcm, hcs, htake⟩
  · exact .inl ⟨rfl, List.eq_nil_of_length_eq_zero hl⟩
  · exact .inr ⟨g, cap, rfl, hbg, (Array.getElem?_eq_some_iff.1 hg).1, World.ownsRow.cells h rfl⟩

theorem byteVals_one {l : List UInt8} : ∀ u ∈ byteVals l, u.oneCell' = true := by
  intro u hu
  simp only [byteVals, List.mem_map] at hu
  obtain ⟨x, _, rfl⟩ := hu
  rfl

theorem OwnB.grown_below {base : Nat} {w w' : World} {v : Value} {l : List UInt8} (h : OwnB base w v l) (hbase : base ≤ w.heap.size) (hg : w.grownBy w' v.ownBlock) : Below base w w' :=
  ⟨hg.os, hg.tape, hg.output, hg.size, fun k hk => hg.block k (by omega) (fun e => by
    have := (World.ownsRow.lt h k e.symm).1
    omega)⟩

section
variable {w : World}

/-- A row of bytes appended to the call's own. -/
theorem wpList_appB {ops : Array Oper} {rest : List Oper} {o : Oper} {a : Act} {Q : Exit → Act → World → Prop} (hgd : o.guard = none) (s x : Operand)
    (ho : o.op = .call { callee := .builtin .append, args := #[s, x], argTypes := #[36, 36] })
    (base base2 : Nat) (v u : Value) (l m : List UInt8) (hs : a.eval s = v) (hv : OwnB base w v l) (hx : a.eval x = u) (hu : OwnB base2 w u m)
    (hb : l.length + m.length ≤ 140737488355328) (hbase : base ≤ w.heap.size)
    (h : ∀ v' w', OwnB base w' v' (l ++ m) → Below base w w' → wpList Tryz.prog ops Q rest (a.put o.dst v') w') : wpList Tryz.prog ops Q (o :: rest) a w := by
  obtain ⟨i0, hi, hz0, hz1, hz2⟩ := info_parts infoU8
  rcases hu.cells with ⟨rfl, rfl⟩ | ⟨g, cap, rfl, hbg, hgl, hcells⟩
  · refine wpList_append_own_none hgd s x 36 ho base 5 i0 1 Tryz.underlying36 hi v l.length (byteVals l) hs hv hx ?_
    exact h v w (by rw [List.append_nil]; exact hv) (Below.refl _ _)
  · refine wpList_append_own _ hgd s x 36 ho base 5 i0 (.int .u8 0) 1 1 Tryz.underlying36 hi hz0 hz1 hz2 rfl (by decide) v l.length (byteVals l) hs hv ⟨g, 0, none⟩ m.length cap (byteVals m) hx (by rw [byteVals_length, Nat.mul_one]) hcells byteVals_one (by unfold maxLen; omega) (by omega) hbase ?_
    intro v' w' h1 h2 _
    refine h v' w' ?_ (hv.grown_below hbase h2)
    unfold OwnB
    rw [List.length_append, byteVals_append]
    exact h1

/-- A text's bytes appended to the call's own. -/
theorem wpList_appS {ops : Array Oper} {rest : List Oper} {o : Oper} {a : Act} {Q : Exit → Act → World → Prop} (hgd : o.guard = none) (s x : Operand)
    (ho : o.op = .call { callee := .builtin .append, args := #[s, x], argTypes := #[36, 9] })
    (base : Nat) (v : Value) (l : List UInt8) (t : ByteArray) (hs : a.eval s = v) (hv : OwnB base w v l) (hx : a.eval x = .string t)
    (hb : l.length + t.size ≤ 140737488355328) (hbase : base ≤ w.heap.size)
    (h : ∀ v' w', OwnB base w' v' (l ++ L t) → Below base w w' → wpList Tryz.prog ops Q rest (a.put o.dst v') w') : wpList Tryz.prog ops Q (o :: rest) a w := by
  obtain ⟨i0, hi, hz0, hz1, hz2⟩ := info_parts infoU8
  refine Lib.wpList_append_own_string _ hgd s x 36 9 ho base 5 i0 Tryz.underlying36 Tryz.underlying9 hi hz0 hz1 hz2 v l.length (byteVals l) hs hv t hx (by unfold maxLen; omega) hb hbase ?_
  intro v' w' h1 h2 _
  refine h v' w' ?_ (hv.grown_below hbase h2)
  unfold OwnB
  rw [List.length_append, byteVals_append, L_length]
  exact h1
end

/-- One byte, just built. -/
theorem OwnB.one (base : Nat) (w : World) (c : UInt8) (x : Int) (hx : x = c.toNat) (hb : base ≤ w.heap.size) : OwnB base (w.alloc (.cells #[.int .u8 x] 5)) (.slice (some ⟨w.heap.size, 0, none⟩) 1 1) [c] := by
  subst hx
  exact OwnB.made base w [c] _ rfl hb (by simp [maxLen]) _ rfl _ rfl

theorem OwnB.alloc {base : Nat} {w : World} {v : Value} {l : List UInt8} (h : OwnB base w v l) (o : Obj) : OwnB base (w.alloc o) v l := World.ownsRow.alloc h o

theorem OwnB.eq {base : Nat} {w : World} {v : Value} {l m : List UInt8} (h : OwnB base w v l) (e : l = m) : OwnB base w v m := e ▸ h

theorem lines_13_10 (u : List UInt8) : Sp.lines (13 :: 10 :: u) = Sp.lines (10 :: u) := by
  simp [Sp.lines]
theorem lines_13 (u : List UInt8) (h : ∀ t, u ≠ 10 :: t) : Sp.lines (13 :: u) = 10 :: Sp.lines u := by
  match u, h with
  | [], _ => rfl
  | c :: t, h =>
    have hc : c ≠ 10 := fun e => h t (by rw [e])
    simp [Sp.lines, hc]
theorem lines_other (c : UInt8) (u : List UInt8) (h : c ≠ 13) : Sp.lines (c :: u) = c :: Sp.lines u := by
  simp [Sp.lines, h]

theorem flat_13_10 (b : Bool) (u : List UInt8) : Sp.flat b (13 :: 10 :: u) = Sp.flat b (10 :: u) := by
  simp only [Sp.flat, lines_13_10]
theorem flat_13 (b : Bool) (u : List UInt8) (h : ∀ t, u ≠ 10 :: t) : Sp.flat b (13 :: u) = (if b = true then 32 else 10) :: Sp.flat b u := by
  simp only [Sp.flat, lines_13 u h]
  cases b <;> rfl
theorem flat_other (b : Bool) (c : UInt8) (u : List UInt8) (h : c ≠ 13) : Sp.flat b (c :: u) = (if b = true then Sp.blank c else c) :: Sp.flat b u := by
  simp only [Sp.flat, lines_other c u h]
  cases b <;> rfl

end Go.Proofs.YtokdclmikllepaaGreatDoor
namespace Go.Proofs.YtokdclmikllepaaGreatDoor
open Go.RowKit
set_option linter.unusedVariables false
set_option linter.unusedSimpArgs false

set_option maxHeartbeats 8000000 in
set_option maxRecDepth 100000 in
theorem refFlat_calls (s : ByteArray) (b : Bool) (w : World) (hs : s.size ≤ 65536) :
  Calls Tryz.prog 55 #[.string s, .bool b] w fun e w' => ∃ v, e = .returned v ∧ OwnB w.heap.size w' v (Sp.flat b (L s)) ∧ Below w.heap.size w w' := by
  obtain ⟨R, hR⟩ : ∃ R, Sp.flat b (L s) = R := ⟨_, rfl⟩
  rw [hR]
  have HR := Lib.hid hR
  clear hR
  rcases b with _ | _
  · go_enter Tryz.func55, Tryz.ntmps55
    go_wp2_with fail
    go_loopg [5, 6, 7] (s.size + 1) (fun kk v i _ wr => ∃ (j : Nat) (acc : List UInt8) (vo : Value), vo = v ∧ i = .int .i64 j ∧ j ≤ s.size ∧ s.size - j < kk ∧ acc.length ≤ j ∧ Hid (R = acc ++ Sp.flat false ((L s).drop j)) ∧ Hid (OwnB w.heap.size wr v acc) ∧ Hid (Below w.heap.size w wr))
    case atStart => exact ⟨0, [], _, rfl, rfl, by omega, by omega, by simp, HR.out.symm, OwnB.nil _ _, Below.refl _ _⟩
    case round =>
      obtain ⟨j, acc, v, rfl, rfl, hj, hk, hacc, HF, HO, HB⟩ := hrel
      have hbs := HB.out.size
      by_cases hlt : j < s.size
      · have hd : decide ((j : Int) < s.size) = true := by simp; omega
        have hx0 : (0 : Int) ≤ j := by omega
        have hx1 : (j : Int) < s.size := by omega
        have hjc : s[j].toNat < 256 := s[j].toNat_lt
        have hx2 : IntKind.i64.wrap ((j : Int) + 1) = (j : Int) + 1 := IntWalk.i64_in _ (by omega)
        have hdr := L_drop s j hlt
        by_cases h13 : s[j] = 13
        · have c13 : ((s[j].toNat : Int) == 13) = true := by rw [h13]; rfl
          by_cases hl1 : j + 1 < s.size
          · have hd1 : decide ((j : Int) + 1 < s.size) = true := by simp; omega
            have hdr1 := L_drop s (j + 1) hl1
            have hy0 : (0 : Int) ≤ (j : Int) + 1 := by omega
            have hy1 : (j : Int) + 1 < s.size := by omega
            by_cases h10 : s[j + 1] = 10
            · have c10 : ((s[j + 1].toNat : Int) == 10) = true := by rw [h10]; rfl
              have hstep : Sp.flat false ((L s).drop j) = Sp.flat false ((L s).drop (j + 1)) := by rw [hdr, hdr1, h13, h10, flat_13_10]
              clear hdr hdr1 h13 h10 hjc
              go_wp2_with fail
              go_roundg (gk - 1)
              case measure => omega
              case rel => exact ⟨j + 1, acc, _, rfl, by simp, by omega, by omega, by omega, Lib.hid (HF.out.trans (by rw [hstep])), HO.out, HB.out⟩
            · have c10 : ((s[j + 1].toNat : Int) == 10) = false := u8_ne (k := 10) 10 rfl h10
              have hstep : Sp.flat false ((L s).drop j) = 10 :: Sp.flat false ((L s).drop (j + 1)) := by
                rw [hdr, h13, flat_13 _ _ (fun t e => h10 (by rw [hdr1] at e; injection e))]
                rfl
              clear hdr hdr1 h13 h10 hjc
              go_wp2_with (at_builtin; refine wpList_appB rfl (.tmp 36) (.tmp 38) rfl w.heap.size w.heap.size v _ acc [10] (by rfl) (HO.out.alloc _) (by rfl) (OwnB.one _ _ 10 _ rfl hbs) (by simp; omega) (by simp; omega) ?_; intro v' w1 ho1 hb1)
              go_roundg (gk - 1)
              case measure => omega
              case rel => exact ⟨j + 1, acc ++ [10], _, rfl, by simp, by omega, by omega, by rw [List.length_append]; simp; omega, Lib.hid (by rw [HF.out, hstep, List.append_assoc]; rfl), ho1, HB.out.trans (((Below.refl _ _).alloc hbs _).trans hb1)⟩
          · have hd1 : decide ((j : Int) + 1 < s.size) = false := by simp; omega
            have hstep : Sp.flat false ((L s).drop j) = 10 :: Sp.flat false ((L s).drop (j + 1)) := by
              have hnil : (L s).drop (j + 1) = [] := List.drop_eq_nil_of_le (by rw [L_length]; omega)
              rw [hdr, h13, hnil]
              rfl
            clear hdr h13 hjc
            go_wp2_with (at_builtin; refine wpList_appB rfl (.tmp 36) (.tmp 38) rfl w.heap.size w.heap.size v _ acc [10] (by rfl) (HO.out.alloc _) (by rfl) (OwnB.one _ _ 10 _ rfl hbs) (by simp; omega) (by simp; omega) ?_; intro v' w1 ho1 hb1)
            go_roundg (gk - 1)
            case measure => omega
            case rel => exact ⟨j + 1, acc ++ [10], _, rfl, by simp, by omega, by omega, by rw [List.length_append]; simp; omega, Lib.hid (by rw [HF.out, hstep, List.append_assoc]; rfl), ho1, HB.out.trans (((Below.refl _ _).alloc hbs _).trans hb1)⟩
        · have c13 : ((s[j].toNat : Int) == 13) = false := u8_ne (k := 13) 13 rfl h13
          have hstep : Sp.flat false ((L s).drop j) = s[j] :: Sp.flat false ((L s).drop (j + 1)) := by rw [hdr, flat_other _ _ _ h13]; rfl
          clear hdr h13
          go_wp2_with (at_builtin; refine wpList_appB rfl (.tmp 36) (.tmp 38) rfl w.heap.size w.heap.size v _ acc [s[j]] (by rfl) (HO.out.alloc _) (by rfl) (OwnB.one _ _ s[j] _ rfl hbs) (by simp; omega) (by simp; omega) ?_; intro v' w1 ho1 hb1)
          go_roundg (gk - 1)
          case measure => omega
          case rel => exact ⟨j + 1, acc ++ [s[j]], _, rfl, by simp, by omega, by omega, by rw [List.length_append]; simp; omega, Lib.hid (by rw [HF.out, hstep, List.append_assoc]; rfl), ho1, HB.out.trans (((Below.refl _ _).alloc hbs _).trans hb1)⟩
      · have hd : decide ((j : Int) < s.size) = false := by simp; omega
        have hfin : R = acc := by
          have hnil : (L s).drop j = [] := List.drop_eq_nil_of_le (by rw [L_length]; omega)
          rw [HF.out, hnil]
          exact List.append_nil _
        go_wp2_with fail
        go_ret
        exact ⟨_, rfl, HO.out.eq hfin.symm, HB.out⟩
  · go_enter Tryz.func55, Tryz.ntmps55
    go_wp2_with fail
    go_loopg [5, 6, 7] (s.size + 1) (fun kk v i _ wr => ∃ (j : Nat) (acc : List UInt8) (vo : Value), vo = v ∧ i = .int .i64 j ∧ j ≤ s.size ∧ s.size - j < kk ∧ acc.length ≤ j ∧ Hid (R = acc ++ Sp.flat true ((L s).drop j)) ∧ Hid (OwnB w.heap.size wr v acc) ∧ Hid (Below w.heap.size w wr))
    case atStart => exact ⟨0, [], _, rfl, rfl, by omega, by omega, by simp, HR.out.symm, OwnB.nil _ _, Below.refl _ _⟩
    case round =>
      obtain ⟨j, acc, v, rfl, rfl, hj, hk, hacc, HF, HO, HB⟩ := hrel
      have hbs := HB.out.size
      by_cases hlt : j < s.size
      · have hd : decide ((j : Int) < s.size) = true := by simp; omega
        have hx0 : (0 : Int) ≤ j := by omega
        have hx1 : (j : Int) < s.size := by omega
        have hjc : s[j].toNat < 256 := s[j].toNat_lt
        have hx2 : IntKind.i64.wrap ((j : Int) + 1) = (j : Int) + 1 := IntWalk.i64_in _ (by omega)
        have hdr := L_drop s j hlt
        by_cases h13 : s[j] = 13
        · have c13 : ((s[j].toNat : Int) == 13) = true := by rw [h13]; rfl
          by_cases hl1 : j + 1 < s.size
          · have hd1 : decide ((j : Int) + 1 < s.size) = true := by simp; omega
            have hdr1 := L_drop s (j + 1) hl1
            have hy0 : (0 : Int) ≤ (j : Int) + 1 := by omega
            have hy1 : (j : Int) + 1 < s.size := by omega
            by_cases h10 : s[j + 1] = 10
            · have c10 : ((s[j + 1].toNat : Int) == 10) = true := by rw [h10]; rfl
              have hstep : Sp.flat true ((L s).drop j) = Sp.flat true ((L s).drop (j + 1)) := by rw [hdr, hdr1, h13, h10, flat_13_10]
              clear hdr hdr1 h13 h10 hjc
              go_wp2_with fail
              go_roundg (gk - 1)
              case measure => omega
              case rel => exact ⟨j + 1, acc, _, rfl, by simp, by omega, by omega, by omega, Lib.hid (HF.out.trans (by rw [hstep])), HO.out, HB.out⟩
            · have c10 : ((s[j + 1].toNat : Int) == 10) = false := u8_ne (k := 10) 10 rfl h10
              have hstep : Sp.flat true ((L s).drop j) = 32 :: Sp.flat true ((L s).drop (j + 1)) := by
                rw [hdr, h13, flat_13 _ _ (fun t e => h10 (by rw [hdr1] at e; injection e))]
                rfl
              clear hdr hdr1 h13 h10 hjc
              go_wp2_with (first | (go_at_call 53; go_must (refine (refWhite_is 10 true _ rfl).mono ?_); rintro e w' ⟨rfl, rfl⟩) | (at_builtin; refine wpList_appB rfl (.tmp 36) (.tmp 38) rfl w.heap.size w.heap.size v _ acc [32] (by rfl) (HO.out.alloc _) (by rfl) (OwnB.one _ _ 32 _ rfl hbs) (by simp; omega) (by simp; omega) ?_; intro v' w1 ho1 hb1))
              go_roundg (gk - 1)
              case measure => omega
              case rel => exact ⟨j + 1, acc ++ [32], _, rfl, by simp, by omega, by omega, by rw [List.length_append]; simp; omega, Lib.hid (by rw [HF.out, hstep, List.append_assoc]; rfl), ho1, HB.out.trans (((Below.refl _ _).alloc hbs _).trans hb1)⟩
          · have hd1 : decide ((j : Int) + 1 < s.size) = false := by simp; omega
            have hstep : Sp.flat true ((L s).drop j) = 32 :: Sp.flat true ((L s).drop (j + 1)) := by
              have hnil : (L s).drop (j + 1) = [] := List.drop_eq_nil_of_le (by rw [L_length]; omega)
              rw [hdr, h13, hnil]
              rfl
            clear hdr h13 hjc
            go_wp2_with (first | (go_at_call 53; go_must (refine (refWhite_is 10 true _ rfl).mono ?_); rintro e w' ⟨rfl, rfl⟩) | (at_builtin; refine wpList_appB rfl (.tmp 36) (.tmp 38) rfl w.heap.size w.heap.size v _ acc [32] (by rfl) (HO.out.alloc _) (by rfl) (OwnB.one _ _ 32 _ rfl hbs) (by simp; omega) (by simp; omega) ?_; intro v' w1 ho1 hb1))
            go_roundg (gk - 1)
            case measure => omega
            case rel => exact ⟨j + 1, acc ++ [32], _, rfl, by simp, by omega, by omega, by rw [List.length_append]; simp; omega, Lib.hid (by rw [HF.out, hstep, List.append_assoc]; rfl), ho1, HB.out.trans (((Below.refl _ _).alloc hbs _).trans hb1)⟩
        · have c13 : ((s[j].toNat : Int) == 13) = false := u8_ne (k := 13) 13 rfl h13
          cases hw : Sp.white s[j] with
          | true =>
            have hstep : Sp.flat true ((L s).drop j) = 32 :: Sp.flat true ((L s).drop (j + 1)) := by rw [hdr, flat_other _ _ _ h13]; simp [Sp.blank, hw]
            have HW := Lib.hid hw
            clear hdr h13 hw
            go_wp2_with (first | (go_at_call 53; go_must (refine (refWhite_is s[j] true _ HW.out).mono ?_); rintro e w' ⟨rfl, rfl⟩) | (at_builtin; refine wpList_appB rfl (.tmp 36) (.tmp 38) rfl w.heap.size w.heap.size v _ acc [32] (by rfl) (HO.out.alloc _) (by rfl) (OwnB.one _ _ 32 _ rfl hbs) (by simp; omega) (by simp; omega) ?_; intro v' w1 ho1 hb1))
            go_roundg (gk - 1)
            case measure => omega
            case rel => exact ⟨j + 1, acc ++ [32], _, rfl, by simp, by omega, by omega, by rw [List.length_append]; simp; omega, Lib.hid (by rw [HF.out, hstep, List.append_assoc]; rfl), ho1, HB.out.trans (((Below.refl _ _).alloc hbs _).trans hb1)⟩
          | false =>
            have hstep : Sp.flat true ((L s).drop j) = s[j] :: Sp.flat true ((L s).drop (j + 1)) := by rw [hdr, flat_other _ _ _ h13]; simp [Sp.blank, hw]
            have HW := Lib.hid hw
            clear hdr h13 hw
            go_wp2_with (first | (go_at_call 53; go_must (refine (refWhite_is s[j] false _ HW.out).mono ?_); rintro e w' ⟨rfl, rfl⟩) | (at_builtin; refine wpList_appB rfl (.tmp 36) (.tmp 38) rfl w.heap.size w.heap.size v _ acc [s[j]] (by rfl) (HO.out.alloc _) (by rfl) (OwnB.one _ _ s[j] _ rfl hbs) (by simp; omega) (by simp; omega) ?_; intro v' w1 ho1 hb1))
            go_roundg (gk - 1)
            case measure => omega
            case rel => exact ⟨j + 1, acc ++ [s[j]], _, rfl, by simp, by omega, by omega, by rw [List.length_append]; simp; omega, Lib.hid (by rw [HF.out, hstep, List.append_assoc]; rfl), ho1, HB.out.trans (((Below.refl _ _).alloc hbs _).trans hb1)⟩
      · have hd : decide ((j : Int) < s.size) = false := by simp; omega
        have hfin : R = acc := by
          have hnil : (L s).drop j = [] := List.drop_eq_nil_of_le (by rw [L_length]; omega)
          rw [HF.out, hnil]
          exact List.append_nil _
        go_wp2_with fail
        go_ret
        exact ⟨_, rfl, HO.out.eq hfin.symm, HB.out⟩
end Go.Proofs.YtokdclmikllepaaGreatDoor
namespace Go.Proofs.YtokdclmikllepaaGreatDoor
open Go.RowKit
set_option linter.unusedVariables false
set_option linter.unusedSimpArgs false

/-- A fault, as the document's answer tells it. -/
def fltV (f : Sp.Flt) : Value := .agg #[.int .i64 f.1, .int .i64 f.2]
def okV : Value := .agg #[.int .i64 0, .int .i64 0]

/-- How the document's text ends. -/
def RTextEnd (p : Nat) (R : Except Sp.Flt (List UInt8 × Nat)) (w : World) (e : Ending) (w' : World) : Prop :=
  (match R with
    | .ok (t, n) => e = .returned (.tuple #[.string ⟨t.toArray⟩, .int .i64 ((p + n : Nat) : Int), okV])
    | .error f => e = .returned (.tuple #[.string ⟨#[]⟩, .int .i64 f.1, fltV f])) ∧ Below w.heap.size w w'

/-- What holds at the head of each round: the fault's cells, and the row of bytes. -/
structure TRow (w wr : World) (v : Value) (acc : List UInt8) : Prop where
  below : Below (w.heap.size + 1) (w.alloc (.cells #[.int .i64 0, .int .i64 0] 27)) wr
  own : OwnB (w.heap.size + 1) wr v acc

theorem TRow.size {w wr : World} {v : Value} {acc : List UInt8} (h : TRow w wr v acc) : w.heap.size + 1 ≤ wr.heap.size := by
  have := h.below.size
  have e : (w.alloc (.cells #[.int .i64 0, .int .i64 0] 27)).heap.size = w.heap.size + 1 := by simp
  rw [e] at this
  exact this
theorem TRow.blk {w wr : World} {v : Value} {acc : List UInt8} (h : TRow w wr v acc) : wr.heap[w.heap.size]? = some (.cells #[.int .i64 0, .int .i64 0] 27 (0, 0)) :=
  (h.below.block _ (Nat.lt_succ_self _)).trans (heap_alloc_new w _)
theorem TRow.c0 {w wr : World} {v : Value} {acc : List UInt8} (h : TRow w wr v acc) : wr.cell? ⟨w.heap.size, 0, none⟩ = some (.int .i64 0) := cell_of_row wr w.heap.size 0 _ _ _ h.blk
theorem TRow.c1 {w wr : World} {v : Value} {acc : List UInt8} (h : TRow w wr v acc) : wr.cell? ⟨w.heap.size, 1, none⟩ = some (.int .i64 0) := cell_of_row wr w.heap.size 1 _ _ _ h.blk
theorem TRow.fz {w wr : World} {v : Value} {acc : List UInt8} (h : TRow w wr v acc) (i : Nat) : wr.frozen? ⟨w.heap.size, i, none⟩ = false := by
  have := h.blk
  simp [World.frozen?, this]
theorem TRow.start (w : World) : TRow w (w.alloc (.cells #[.int .i64 0, .int .i64 0] 27)) (.slice none 0 0) [] := ⟨Below.refl _ _, OwnB.nil _ _⟩
theorem TRow.next {w wr w2 : World} {v : Value} {acc : List UInt8} (h : TRow w wr v acc) (hb : Below wr.heap.size wr w2) : TRow w w2 v acc :=
  ⟨h.below.trans (hb.mono h.size), h.own.below hb⟩
theorem TRow.grow {w wr w2 : World} {v v2 : Value} {acc acc2 : List UInt8} (h : TRow w wr v acc) (hb : Below (w.heap.size + 1) wr w2) (ho : OwnB (w.heap.size + 1) w2 v2 acc2) : TRow w w2 v2 acc2 :=
  ⟨h.below.trans hb, ho⟩
theorem TRow.only {w wr : World} {v : Value} {acc : List UInt8} (h : TRow w wr v acc) : Below w.heap.size w wr :=
  ((Below.refl _ _).alloc (Nat.le_refl _) _).trans (h.below.mono (Nat.le_succ _))

theorem below_set {B : Nat} {w : World} (i : Nat) (u : Value) : Below B w (w.setCell ⟨B, i, none⟩ u) :=
  ⟨rfl, rfl, rfl, by simp [World.setCell], fun k hk => Below.heap_setCell w _ u k (by show k ≠ B; omega)⟩

/-- The fault's cells, written. -/
theorem TRow.fin {w wr : World} {v : Value} {acc : List UInt8} (h : TRow w wr v acc) (x y : Value) {W' : World} (hW : ((wr.setCell ⟨w.heap.size, 0, none⟩ x).setCell ⟨w.heap.size, 1, none⟩ y) = W') :
    Below w.heap.size w W' ∧ W'.cell? ⟨w.heap.size, 0, none⟩ = some x ∧ W'.cell? ⟨w.heap.size, 1, none⟩ = some y := by
  subst hW
  have hb := heap_set _ _ 1 _ _ _ y (heap_set _ _ 0 _ _ _ x h.blk)
  exact ⟨h.only.trans ((below_set _ _).trans (below_set _ _)), cell_of_row _ _ 0 _ _ _ hb, cell_of_row _ _ 1 _ _ _ hb⟩

theorem reference_err {p : Nat} {l : List UInt8} {f : Sp.Flt} (h : Sp.reference p l = .error f) : f = (p, 83) := by
  unfold Sp.reference at h
  repeat' (split at h)
  all_goals first | (injection h with h; exact h.symm) | cases h

theorem refFlat_is (s : ByteArray) (b : Bool) (l : List UInt8) (w : World) (hs : s.size ≤ 65536) (hl : Sp.flat b (L s) = l) :
    Calls Tryz.prog 55 #[.string s, .bool b] w fun e w' => ∃ v, e = .returned v ∧ OwnB w.heap.size w' v l ∧ Below w.heap.size w w' := hl ▸ refFlat_calls s b w hs

theorem refReference_is (s : ByteArray) (p : Nat) (w : World) (hs : s.size ≤ 140737488351232) (hp : p < s.size) (h38 : s[p] = 38) (R : Except Sp.Flt (List UInt8 × Nat)) (hR : Sp.reference p ((L s).drop p) = R) :
    Calls Tryz.prog 101 #[.string s, .int .i64 p] w (RefEnd p R w) := hR ▸ refReference_calls s p w hs hp h38

set_option maxHeartbeats 16000000 in
set_option maxRecDepth 100000 in
theorem refText_calls (s : ByteArray) (p fr : Nat) (e : UInt8) (b : Bool) (w : World) (hs : s.size ≤ 65536) (hp : p ≤ s.size) (he38 : e ≠ 38) :
    Calls Tryz.prog 58 #[.string s, .int .i64 p, .int .u8 (e.toNat : Int), .bool b] w (RTextEnd p (Sp.text e b fr (s.size - p + 1) p ((L s).drop p) [] 0) w) := by
  obtain ⟨R, hR⟩ : ∃ R, Sp.text e b fr (s.size - p + 1) p ((L s).drop p) [] 0 = R := ⟨_, rfl⟩
  rw [hR]
  have HR := Lib.hid hR
  clear hR
  have HS := Lib.hid (TRow.start w)
  go_enter Tryz.func58, Tryz.ntmps58
  go_wp2_with fail
  go_loopg [1, 11, 12, 13, 14] (s.size - p + 1) (fun kk i v _ _ _ wr => ∃ (p' : Nat) (acc : List UInt8) (n : Nat) (vo : Value), vo = v ∧ i = .int .i64 p' ∧ p ≤ p' ∧ p' ≤ s.size ∧ s.size - p' < kk ∧ acc.length ≤ 4 * (p' - p) ∧ Hid (p + n = p') ∧ Hid (Sp.text e b fr kk p' ((L s).drop p') acc n = R) ∧ Hid (TRow w wr v acc))
  case atStart => exact ⟨p, [], 0, _, rfl, rfl, Nat.le_refl _, hp, by omega, by simp, rfl, HR, HS⟩
  case round =>
    obtain ⟨p', acc, n, v, rfl, rfl, hpp, hps, hk, hal, HN, HT, HI⟩ := hrel
    obtain ⟨k, rfl⟩ : ∃ m, gk = m + 1 := ⟨gk - 1, by omega⟩
    have hsz := HI.out.size
    have fc0 := HI.out.c0
    have fc1 := HI.out.c1
    have ff0 := HI.out.fz 0
    have ff1 := HI.out.fz 1
    by_cases hlt : p' < s.size
    · have hd : decide ((p' : Int) < s.size) = true := by simp; omega
      have hx0 : (0 : Int) ≤ p' := by omega
      have hx1 : (p' : Int) < s.size := by omega
      have hcu : s[p'].toNat < 256 := s[p'].toNat_lt
      by_cases he : s[p'] = e
      · have hne : ((s[p'].toNat : Int) != (e.toNat : Int)) = false := by rw [he]; simp
        have hRR : R = .ok (acc, n) := by
          have := HT.out
          rw [L_drop s p' hlt, he, text_end] at this
          exact this.symm
        clear he
        subst hRR
        have hconv := HI.out.own.conv
        go_wp2_with fail
        generalize hW : World.setCell (World.setCell _ _ _) _ _ = W'
        obtain ⟨f1, f2, f3⟩ := HI.out.fin _ _ hW
        clear hW
        refine bodyPost_ret (v := .tuple #[.string ⟨acc.toArray⟩, .int .i64 p', .agg #[(.int .i64 0), (.int .i64 0)]]) ?_ rfl ?_
        · simp [results, Tryz.f58, go_sem, f2, f3]
        · exact ⟨by rw [← HN.out]; rfl, f1⟩
      · have hne : ((s[p'].toNat : Int) != (e.toNat : Int)) = true := by rw [bne_iff_ne]; intro h; exact he (UInt8.toNat_inj.1 (by omega))
        by_cases h60 : s[p'] = 60
        · have hb60 : ((s[p'].toNat : Int) == 60) = true := by rw [h60]; rfl
          have hRR : R = .error (p', 82) := by
            have := HT.out
            rw [L_drop s p' hlt, h60, text_lt _ _ _ _ _ _ _ _ (fun h => he (by rw [h60, h]))] at this
            exact this.symm
          clear he h60
          subst hRR
          go_wp2_with fail
          generalize hW : World.setCell (World.setCell _ _ _) _ _ = W'
          obtain ⟨f1, f2, f3⟩ := HI.out.fin _ _ hW
          clear hW
          refine bodyPost_ret (v := .tuple #[.string ⟨#[]⟩, .int .i64 p', .agg #[(.int .i64 p'), (.int .i64 82)]]) ?_ rfl ?_
          · simp [results, Tryz.f58, go_sem, f2, f3]
          · exact ⟨rfl, f1⟩
        · have hb60 : ((s[p'].toNat : Int) == 60) = false := u8_ne (k := 60) 60 rfl h60
          by_cases h38 : s[p'] = 38
          · have hb38 : ((s[p'].toNat : Int) == 38) = true := by rw [h38]; rfl
            have hh : ((L s).drop p').head? = some 38 := by rw [L_drop s p' hlt, h38]; rfl
            have hstep := HT.out
            rw [L_drop s p' hlt, h38, text_ref _ _ _ _ _ _ _ _ he38, ← h38, ← L_drop s p' hlt] at hstep
            have HST := Lib.hid hstep
            have HH := Lib.hid hh
            have H3 := Lib.hid h38
            clear hstep hh h38 he h60
            cases hre : Sp.reference p' ((L s).drop p') with
            | error f =>
              have hf := reference_err hre
              subst hf
              have hRR : R = .error (p', 83) := by
                have := HST.out
                rw [hre] at this
                exact this.symm
              have HRE := Lib.hid hre
              clear hre
              subst hRR
              go_wp2_with (go_at_call 101; refine (refReference_is s p' _ (by omega) hlt H3.out _ HRE.out).mono ?_; rintro e1 w2 ⟨rfl, hb2⟩; have HI2 := Lib.hid (HI.out.next hb2); have fc0 := HI2.out.c0; have fc1 := HI2.out.c1; have ff0 := HI2.out.fz 0; have ff1 := HI2.out.fz 1)
              generalize hW : World.setCell (World.setCell _ _ _) _ _ = W'
              obtain ⟨f1, f2, f3⟩ := HI2.out.fin _ _ hW
              clear hW
              refine bodyPost_ret (v := .tuple #[.string ⟨#[]⟩, .int .i64 p', .agg #[(.int .i64 p'), (.int .i64 83)]]) ?_ rfl ?_
              · simp [results, Tryz.f58, go_sem, f2, f3]
              · exact ⟨rfl, f1⟩
            | ok r =>
              obtain ⟨x, m⟩ := r
              have hlen := reference_len p' _ x m HH.out hre
              rw [List.length_drop, L_length] at hlen
              have hl1 := hlen.1
              have hl2 := hlen.2.1
              have hl3 := hlen.2.2
              have HRE := Lib.hid hre
              have hstep : Sp.text e b fr k (p' + m) ((L s).drop (p' + m)) (acc ++ x) (n + m) = R := by
                have := HST.out
                rw [HRE.out] at this
                simp only [List.drop_drop] at this
                exact this
              have HS2 := Lib.hid hstep
              clear hre hlen hstep
              have hz : (((p' + m : Nat) : Int) == 0) = false := by rw [beq_eq_false_iff_ne]; omega
              have hz2 : ((p' : Int) + (m : Int) == 0) = false := by rw [beq_eq_false_iff_ne]; omega
              go_wp2_with (first
                | (go_at_call 101; refine (refReference_is s p' _ (by omega) hlt H3.out _ HRE.out).mono ?_; rintro e1 w2 ⟨rfl, hb2⟩; have HI2 := Lib.hid (HI.out.next hb2))
                | (at_builtin; refine wpList_appS rfl (.tmp 48) (.tmp 49) rfl (w.heap.size + 1) v acc ⟨x.toArray⟩ (by rfl) HI2.out.own (by rfl) (by simp [mk_len]; omega) HI2.out.size ?_; intro v' w3 ho3 hb3; have HI3 := Lib.hid (HI2.out.grow hb3 ho3)))
              go_roundg k
              case measure => omega
              case rel => exact ⟨p' + m, acc ++ x, n + m, v', rfl, by simp, by omega, by omega, by omega, by rw [List.length_append]; omega, Lib.hid (by have := HN.out; omega), HS2, HI3⟩
          · have hb38 : ((s[p'].toNat : Int) == 38) = false := u8_ne (k := 38) 38 rfl h38
            have hpb : Sp.plainB e s[p'] = true := by simp [Sp.plainB, he, h38, h60]
            have hql := pl_le e s p' hps
            have hq1 : p' + 1 ≤ pl e s p' := by rw [pl_step e s p' hlt hpb]; exact (pl_le e s (p' + 1) (by omega)).1
            have hpt := pl_text e s p'
            have hstep := HT.out
            rw [L_drop s p' hlt, text_plain _ _ _ _ _ _ _ _ _ he h38 h60, ← L_drop s p' hlt, ← hpt, dropWhile_drop, List.drop_drop] at hstep
            have hlen : (((L s).drop p').takeWhile (Sp.plainB e)).length = pl e s p' - p' := by unfold pl; omega
            have hlen2 : (L (s.extract p' (pl e s p'))).length = pl e s p' - p' := by rw [hpt, hlen]
            rw [hlen, hlen2] at hstep
            obtain ⟨q, hq⟩ : ∃ q, pl e s p' = q := ⟨_, rfl⟩
            rw [hq] at hql hq1 hstep hlen2
            have e5 : p' + (q - p') = q := by omega
            rw [e5] at hstep
            have HS2 := Lib.hid hstep
            have HQ := Lib.hid hq
            have HL2 := Lib.hid hlen2
            clear hstep hq hpt hlen hlen2 e5 hpb
            go_wp2_with fail
            go_loopg [1] (q - p' + 1) (fun kk i w5 => ∃ j : Nat, i = .int .i64 j ∧ p' ≤ j ∧ j ≤ q ∧ q - j < kk ∧ Hid (pl e s j = q) ∧ w5 = wr)
            case atStart => exact ⟨p', rfl, Nat.le_refl _, by omega, by omega, HQ, rfl⟩
            case round =>
              obtain ⟨j, rfl, hj1, hj2, hkj, HJ, hw5⟩ := hrel
              subst hw5
              by_cases jlt : j < s.size
              · have jd : decide ((j : Int) < s.size) = true := by simp; omega
                have hjx0 : (0 : Int) ≤ j := by omega
                have hjx1 : (j : Int) < s.size := by omega
                have hjc : s[j].toNat < 256 := s[j].toNat_lt
                by_cases je : s[j] = e
                · have jb : ((s[j].toNat : Int) != (e.toNat : Int)) = false := by rw [je]; simp
                  have hjq : j = q := (pl_not e s j jlt (by simp [Sp.plainB, je])).symm.trans HJ.out
                  clear je
                  subst hjq
                  have hy1 : (p' : Int) ≤ j := by omega
                  have hy2 : (j : Int) ≤ s.size := by omega
                  have hxs : (s.extract p' j).size ≤ 65536 := by rw [ByteArray.size_extract]; omega
                  have hfl := flat_len b (L (s.extract p' j))
                  have hl2' := HL2.out
                  go_wp2_with (first
                    | (go_at_call 55; refine (refFlat_is (s.extract p' j) b _ _ hxs rfl).mono ?_; rintro e1 w2 ⟨v2, rfl, ho2, hb2⟩; have HI2 := Lib.hid (HI.out.next hb2))
                    | (at_builtin; refine wpList_appB rfl (.tmp 78) (.tmp 84) rfl (w.heap.size + 1) _ v v2 acc (Sp.flat b (L (s.extract p' j))) (by rfl) HI2.out.own (by rfl) ho2 (by omega) HI2.out.size ?_; intro v' w3 ho3 hb3; have HI3 := Lib.hid (HI2.out.grow hb3 ho3)))
                  go_roundg k
                  case measure => omega
                  case rel => exact ⟨j, acc ++ Sp.flat b (L (s.extract p' j)), n + (j - p'), v', rfl, rfl, by omega, by omega, by omega, by rw [List.length_append]; omega, Lib.hid (by have := HN.out; omega), HS2, HI3⟩
                · have jb : ((s[j].toNat : Int) != (e.toNat : Int)) = true := by rw [bne_iff_ne]; intro h; exact je (UInt8.toNat_inj.1 (by omega))
                  by_cases j60 : s[j] = 60
                  · have jb60 : ((s[j].toNat : Int) != 60) = false := by rw [j60]; rfl
                    have hjq : j = q := (pl_not e s j jlt (by simp [Sp.plainB, j60])).symm.trans HJ.out
                    clear je j60
                    subst hjq
                    have hy1 : (p' : Int) ≤ j := by omega
                    have hy2 : (j : Int) ≤ s.size := by omega
                    have hxs : (s.extract p' j).size ≤ 65536 := by rw [ByteArray.size_extract]; omega
                    have hfl := flat_len b (L (s.extract p' j))
                    have hl2' := HL2.out
                    go_wp2_with (first
                      | (go_at_call 55; refine (refFlat_is (s.extract p' j) b _ _ hxs rfl).mono ?_; rintro e1 w2 ⟨v2, rfl, ho2, hb2⟩; have HI2 := Lib.hid (HI.out.next hb2))
                      | (at_builtin; refine wpList_appB rfl (.tmp 78) (.tmp 84) rfl (w.heap.size + 1) _ v v2 acc (Sp.flat b (L (s.extract p' j))) (by rfl) HI2.out.own (by rfl) ho2 (by omega) HI2.out.size ?_; intro v' w3 ho3 hb3; have HI3 := Lib.hid (HI2.out.grow hb3 ho3)))
                    go_roundg k
                    case measure => omega
                    case rel => exact ⟨j, acc ++ Sp.flat b (L (s.extract p' j)), n + (j - p'), v', rfl, rfl, by omega, by omega, by omega, by rw [List.length_append]; omega, Lib.hid (by have := HN.out; omega), HS2, HI3⟩
                  · have jb60 : ((s[j].toNat : Int) != 60) = true := by rw [bne_iff_ne]; intro h; exact j60 (UInt8.toNat_inj.1 (by show _ = 60; omega))
                    by_cases j38 : s[j] = 38
                    · have jb38 : ((s[j].toNat : Int) != 38) = false := by rw [j38]; rfl
                      have hjq : j = q := (pl_not e s j jlt (by simp [Sp.plainB, j38])).symm.trans HJ.out
                      clear je j60 j38
                      subst hjq
                      have hy1 : (p' : Int) ≤ j := by omega
                      have hy2 : (j : Int) ≤ s.size := by omega
                      have hxs : (s.extract p' j).size ≤ 65536 := by rw [ByteArray.size_extract]; omega
                      have hfl := flat_len b (L (s.extract p' j))
                      have hl2' := HL2.out
                      go_wp2_with (first
                        | (go_at_call 55; refine (refFlat_is (s.extract p' j) b _ _ hxs rfl).mono ?_; rintro e1 w2 ⟨v2, rfl, ho2, hb2⟩; have HI2 := Lib.hid (HI.out.next hb2))
                        | (at_builtin; refine wpList_appB rfl (.tmp 78) (.tmp 84) rfl (w.heap.size + 1) _ v v2 acc (Sp.flat b (L (s.extract p' j))) (by rfl) HI2.out.own (by rfl) ho2 (by omega) HI2.out.size ?_; intro v' w3 ho3 hb3; have HI3 := Lib.hid (HI2.out.grow hb3 ho3)))
                      go_roundg k
                      case measure => omega
                      case rel => exact ⟨j, acc ++ Sp.flat b (L (s.extract p' j)), n + (j - p'), v', rfl, rfl, by omega, by omega, by omega, by rw [List.length_append]; omega, Lib.hid (by have := HN.out; omega), HS2, HI3⟩
                    · have jb38 : ((s[j].toNat : Int) != 38) = true := by rw [bne_iff_ne]; intro h; exact j38 (UInt8.toNat_inj.1 (by show _ = 38; omega))
                      have jpb : Sp.plainB e s[j] = true := by simp [Sp.plainB, je, j38, j60]
                      have hstep2 := pl_step e s j jlt jpb
                      rw [HJ.out] at hstep2
                      have hle2 := pl_le e s (j + 1) (by omega)
                      rw [← hstep2] at hle2
                      clear je j60 j38 jpb
                      go_wp2_with fail
                      go_roundg (gk - 1)
                      case measure => omega
                      case rel => exact ⟨j + 1, by simp, by omega, hle2.1, by omega, hstep2.symm, rfl⟩
              · have jd : decide ((j : Int) < s.size) = false := by simp; omega
                have hjq : j = q := by omega
                subst hjq
                have hy1 : (p' : Int) ≤ j := by omega
                have hy2 : (j : Int) ≤ s.size := by omega
                have hxs : (s.extract p' j).size ≤ 65536 := by rw [ByteArray.size_extract]; omega
                have hfl := flat_len b (L (s.extract p' j))
                have hl2' := HL2.out
                go_wp2_with (first
                  | (go_at_call 55; refine (refFlat_is (s.extract p' j) b _ _ hxs rfl).mono ?_; rintro e1 w2 ⟨v2, rfl, ho2, hb2⟩; have HI2 := Lib.hid (HI.out.next hb2))
                  | (at_builtin; refine wpList_appB rfl (.tmp 78) (.tmp 84) rfl (w.heap.size + 1) _ v v2 acc (Sp.flat b (L (s.extract p' j))) (by rfl) HI2.out.own (by rfl) ho2 (by omega) HI2.out.size ?_; intro v' w3 ho3 hb3; have HI3 := Lib.hid (HI2.out.grow hb3 ho3)))
                go_roundg k
                case measure => omega
                case rel => exact ⟨j, acc ++ Sp.flat b (L (s.extract p' j)), n + (j - p'), v', rfl, rfl, by omega, by omega, by omega, by rw [List.length_append]; omega, Lib.hid (by have := HN.out; omega), HS2, HI3⟩
    · have hd : decide ((p' : Int) < s.size) = false := by simp; omega
      have hRR : R = .ok (acc, n) := by
        have := HT.out
        rw [List.drop_eq_nil_of_le (by rw [L_length]; omega), text_nil] at this
        exact this.symm
      subst hRR
      have hconv := HI.out.own.conv
      go_wp2_with fail
      generalize hW : World.setCell (World.setCell _ _ _) _ _ = W'
      obtain ⟨f1, f2, f3⟩ := HI.out.fin _ _ hW
      clear hW
      refine bodyPost_ret (v := .tuple #[.string ⟨acc.toArray⟩, .int .i64 p', .agg #[(.int .i64 0), (.int .i64 0)]]) ?_ rfl ?_
      · simp [results, Tryz.f58, go_sem, f2, f3]
      · exact ⟨by rw [← HN.out]; rfl, f1⟩
end Go.Proofs.YtokdclmikllepaaGreatDoor
