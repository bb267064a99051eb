import Derived.Test.YtokdclmikllepaaGreatDoorMr15
namespace Go.Proofs.YtokdclmikllepaaGreatDoor
open Go.RowKit
set_option linter.unusedVariables false
set_option linter.unusedSimpArgs false

theorem find59_take (l : List UInt8) (k : Nat) : Sp.find [59] (l.take k) = match Sp.find [59] l with | some e => if e < k then some e else none | none => none := by
  induction l generalizing k with
  | nil => cases k <;> rfl
  | cons c t ih =>
    cases k with
    | zero =>
      simp only [List.take_zero, Nat.not_lt_zero, if_false]
      cases Sp.find [59] (c :: t) <;> rfl
    | succ k =>
      rw [List.take_succ_cons, find_step, find_step]
      by_cases h : c = 59
      · subst h; rfl
      · have hp : ∀ u : List UInt8, ([59] : List UInt8).isPrefixOf (c :: u) = false := fun u => by
          simp only [List.isPrefixOf, Bool.and_true, beq_eq_false_iff_ne]
          exact fun e => h e.symm
        rw [hp, hp, if_neg (by simp), if_neg (by simp), ih]
        cases Sp.find [59] t with
        | none => rfl
        | some e =>
          simp only [Option.map]
          by_cases hk : e < k
          · rw [if_pos hk, if_pos (by omega)]
          · rw [if_neg hk, if_neg (by omega)]

theorem numRune_is (base : Nat) (l : List UInt8) : Sp.numRune base l = if numI base l < 0 then none else some (Sp.put (numI base l)) := by
  unfold Sp.numRune numI
  by_cases h : l = [] ∨ 8 < l.length
  · rw [if_pos h, if_pos h]; rfl
  · rw [if_neg h, if_neg h]
    cases Sp.number base 0 l with
    | none => rfl
    | some n =>
      simp only
      by_cases hc : Sp.isChar (n : Int) = true
      · rw [if_pos hc, if_pos hc, if_neg (by omega)]
      · rw [if_neg hc, if_neg hc]; rfl

theorem numI_ge (base : Nat) (l : List UInt8) : -1 ≤ numI base l ∧ numI base l ≤ 1114111 ∧ (8 < l.length → numI base l = -1) := by
  unfold numI
  split
  · exact ⟨by omega, by omega, fun _ => rfl⟩
  · rename_i h
    refine ⟨?_, ?_, fun h8 => absurd (.inr h8) h⟩
    · repeat' split
      all_goals omega
    · split
      · split
        · rename_i hc
          simp [Sp.isChar, Sp.isRune] at hc
          omega
        · omega
      · omega

theorem refText_long (x : List UInt8) (h : 10 < x.length) : Sp.refText x = none := by
  have hn : ∀ l : List UInt8, l.length ≤ 10 → x ≠ l := fun l hl e => by subst e; omega
  unfold Sp.refText Sp.namedO
  rw [if_neg (hn _ (by decide)), if_neg (hn _ (by decide)), if_neg (hn _ (by decide)), if_neg (hn _ (by decide)), if_neg (hn _ (by decide))]
  simp only
  unfold Sp.numO
  split
  · rename_i t
    rw [numRune_is, (numI_ge 16 t).2.2 (by simp at h; omega)]; rfl
  · rename_i t _
    rw [numRune_is, (numI_ge 10 t).2.2 (by simp at h; omega)]; rfl
  · rfl

/-- A reference, its end sought wherever it may be. -/
theorem reference_is (p : Nat) (l : List UInt8) : Sp.reference p l = match Sp.find [59] l with | none => .error (p, 83) | some e => match Sp.refText ((l.drop 1).take (e - 1)) with | none => .error (p, 83) | some t => .ok (t, e + 1) := by
  unfold Sp.reference
  rw [find59_take]
  cases hf : Sp.find [59] l with
  | none => rfl
  | some e =>
    simp only
    by_cases h : e < 12
    · simp only [if_pos h]
      cases Sp.refText ((l.drop 1).take (e - 1)) <;> rfl
    · simp only [if_neg h]
      have hle := find_le _ _ _ hf
      simp only [List.length_cons, List.length_nil] at hle
      rw [refText_long _ (by rw [List.length_take, List.length_drop]; omega)]

/-- What the document's answer says of what stands between & and ; : its rune, by number. -/
def refNumI (x : List UInt8) : Int :=
  match x with
  | 35 :: 120 :: t => numI 16 t
  | 35 :: t => numI 10 t
  | _ => -1

theorem numO_is (x : List UInt8) : Sp.numO x = if refNumI x < 0 then none else some (Sp.put (refNumI x)) := by
  rcases x with _ | ⟨c, _ | ⟨d, t⟩⟩
  · rfl
  · by_cases hc : c = 35
    · subst hc; rfl
    · simp [Sp.numO, refNumI, hc]
  · by_cases hc : c = 35
    · subst hc
      by_cases hd : d = 120
      · subst hd
        exact numRune_is 16 t
      · simp [Sp.numO, refNumI, hd, numRune_is]
    · simp [Sp.numO, refNumI, hc]

theorem refNumI_bd (x : List UInt8) : -1 ≤ refNumI x ∧ refNumI x ≤ 1114111 := by
  unfold refNumI
  split
  · exact ⟨(numI_ge 16 _).1, (numI_ge 16 _).2.1⟩
  · exact ⟨(numI_ge 10 _).1, (numI_ge 10 _).2.1⟩
  · omega

theorem refNumI_hash (t : List UInt8) (h : ∀ u, t = 120 :: u → u = []) : refNumI (35 :: t) = numI 10 t := by
  cases t with
  | nil => rfl
  | cons d u =>
    by_cases hd : d = 120
    · subst hd
      rw [h u rfl]
      rfl
    · simp [refNumI, hd]

theorem refNumI_other (c : UInt8) (t : List UInt8) (h : c ≠ 35) : refNumI (c :: t) = -1 := by
  simp [refNumI, h]

theorem refNumI_short (l : List UInt8) (h : l.length ≤ 1) : refNumI l = -1 := by
  match l, h with
  | [], _ => rfl
  | [c], _ =>
    by_cases hc : c = 35
    · subst hc; rfl
    · exact refNumI_other c [] hc
  | _ :: _ :: _, h => exact absurd h (by simp)

theorem u8_ne {c : UInt8} {k : Nat} (d : UInt8) (hd : d.toNat = k) (h : c ≠ d) : ((c.toNat : Int) == (k : Int)) = false := by
  rw [beq_eq_false_iff_ne]
  intro e
  exact h (UInt8.toNat_inj.1 (by omega))

/-- How the document's reference ends. -/
def RefEnd (p : Nat) (R : Except Sp.Flt (List UInt8 × Nat)) (w : World) (e : Ending) (w' : World) : Prop :=
  (e = match R with
    | .ok (t, m) => .returned (.tuple #[.string ⟨t.toArray⟩, .int .i64 ((p + m : Nat) : Int)])
    | .error _ => .returned (.tuple #[.string ⟨#[]⟩, .int .i64 0])) ∧ Below w.heap.size w w'

theorem L_between (s : ByteArray) (p e : Nat) (he : 1 ≤ e) : L (s.extract (p + 1) (p + e)) = (((L s).drop p).drop 1).take (e - 1) := by
  rw [L_extract, List.drop_drop]
  congr 1
  omega

theorem eqf {x k : List UInt8} (h : x ≠ k) : (x == k) = false := by simpa using h
theorem eqt {x k : List UInt8} (h : x = k) : (x == k) = true := by simp [h]

set_option maxHeartbeats 8000000 in
set_option maxRecDepth 100000 in
theorem refReference_calls (s : ByteArray) (p : Nat) (w : World) (hs : s.size ≤ 140737488351232) (hp : p < s.size) (h38 : s[p] = 38) :
    Calls Tryz.prog 101 #[.string s, .int .i64 p] w (RefEnd p (Sp.reference p ((L s).drop p)) w) := by
  have hfa : findAt s ⟨#[59]⟩ p = match Sp.find [59] ((L s).drop p) with | some i => ((p + i : Nat) : Int) | none => -1 := rfl
  rw [reference_is]
  cases hf : Sp.find [59] ((L s).drop p) with
  | none =>
    rw [hf] at hfa
    simp only at hfa ⊢
    have HF := Lib.hid hfa
    clear hfa hf
    go_enter Tryz.func101, Tryz.ntmps101
    go_wp2_with (go_at_call 54; refine (refFind_calls s ⟨#[59]⟩ p _ hs (by omega) (by decide) (by decide)).mono ?_; rw [HF.out]; rintro e w' ⟨rfl, rfl⟩)
    go_ret2
    exact ⟨rfl, Below.refl _ _⟩
  | some e =>
    rw [hf] at hfa
    simp only at hfa ⊢
    have hle := find_le _ _ _ hf
    rw [List.length_drop, L_length] at hle
    simp only [List.length_cons, List.length_nil] at hle
    have he1 : 1 ≤ e := by
      rcases Nat.eq_zero_or_pos e with h | h
      · subst h
        rw [L_drop s p hp, find_step, h38] at hf
        cases h2 : Sp.find [59] ((L s).drop (p + 1)) <;> rw [h2] at hf <;> cases hf
      · exact h
    have HF := Lib.hid hfa
    clear hfa hf
    have hx0 : (0 : Int) ≤ ((p + e : Nat) : Int) := by omega
    have hx1 : (p : Int) + 1 ≤ ((p + e : Nat) : Int) := by omega
    have hx2 : ((p + e : Nat) : Int) ≤ s.size := by omega
    have hx3 : IntKind.i64.wrap ((p : Int) + 1) = (p : Int) + 1 := IntWalk.i64_in _ (by omega)
    rw [← L_between s p e he1, ← toList_L]
    have hxl : (s.extract (p + 1) (p + e)).size = e - 1 := by rw [ByteArray.size_extract]; omega
    by_cases h0 : (s.extract (p + 1) (p + e)).toList = [108, 116]
    · have b0 := eqt h0
      rw [h0]
      have hr : Sp.refText [108, 116] = some [60] := by decide
      rw [hr]
      clear hr h0
      go_enter Tryz.func101, Tryz.ntmps101
      go_wp2_with (go_at_call 54; refine (refFind_calls s ⟨#[59]⟩ p _ hs (by omega) (by decide) (by decide)).mono ?_; rw [HF.out]; rintro e1 w' ⟨rfl, rfl⟩)
      go_ret2
      exact ⟨rfl, Below.refl _ _⟩
    have b0 := eqf h0
    by_cases h1 : (s.extract (p + 1) (p + e)).toList = [103, 116]
    · have b1 := eqt h1
      rw [h1]
      have hr : Sp.refText [103, 116] = some [62] := by decide
      rw [hr]
      clear hr h0 h1
      go_enter Tryz.func101, Tryz.ntmps101
      go_wp2_with (go_at_call 54; refine (refFind_calls s ⟨#[59]⟩ p _ hs (by omega) (by decide) (by decide)).mono ?_; rw [HF.out]; rintro e1 w' ⟨rfl, rfl⟩)
      go_ret2
      exact ⟨rfl, Below.refl _ _⟩
    have b1 := eqf h1
    by_cases h2 : (s.extract (p + 1) (p + e)).toList = [97, 109, 112]
    · have b2 := eqt h2
      rw [h2]
      have hr : Sp.refText [97, 109, 112] = some [38] := by decide
      rw [hr]
      clear hr h0 h1 h2
      go_enter Tryz.func101, Tryz.ntmps101
      go_wp2_with (go_at_call 54; refine (refFind_calls s ⟨#[59]⟩ p _ hs (by omega) (by decide) (by decide)).mono ?_; rw [HF.out]; rintro e1 w' ⟨rfl, rfl⟩)
      go_ret2
      exact ⟨rfl, Below.refl _ _⟩
    have b2 := eqf h2
    by_cases h3 : (s.extract (p + 1) (p + e)).toList = [97, 112, 111, 115]
    · have b3 := eqt h3
      rw [h3]
      have hr : Sp.refText [97, 112, 111, 115] = some [39] := by decide
      rw [hr]
      clear hr h0 h1 h2 h3
      go_enter Tryz.func101, Tryz.ntmps101
      go_wp2_with (go_at_call 54; refine (refFind_calls s ⟨#[59]⟩ p _ hs (by omega) (by decide) (by decide)).mono ?_; rw [HF.out]; rintro e1 w' ⟨rfl, rfl⟩)
      go_ret2
      exact ⟨rfl, Below.refl _ _⟩
    have b3 := eqf h3
    by_cases h4 : (s.extract (p + 1) (p + e)).toList = [113, 117, 111, 116]
    · have b4 := eqt h4
      rw [h4]
      have hr : Sp.refText [113, 117, 111, 116] = some [34] := by decide
      rw [hr]
      clear hr h0 h1 h2 h3 h4
      go_enter Tryz.func101, Tryz.ntmps101
      go_wp2_with (go_at_call 54; refine (refFind_calls s ⟨#[59]⟩ p _ hs (by omega) (by decide) (by decide)).mono ?_; rw [HF.out]; rintro e1 w' ⟨rfl, rfl⟩)
      go_ret2
      exact ⟨rfl, Below.refl _ _⟩
    have b4 := eqf h4
    have hrt : Sp.refText (s.extract (p + 1) (p + e)).toList = if refNumI (s.extract (p + 1) (p + e)).toList < 0 then none else some (Sp.put (refNumI (s.extract (p + 1) (p + e)).toList)) := by
      rw [← numO_is]
      unfold Sp.refText Sp.namedO
      rw [if_neg h0, if_neg h1, if_neg h2, if_neg h3, if_neg h4]
    rw [hrt]
    clear hrt h0 h1 h2 h3 h4
    generalize hX : s.extract (p + 1) (p + e) = x at *
    rw [toList_L]
    have hxb : x.size ≤ 140737488351232 := by omega
    clear hxl
    obtain ⟨rv, hrv⟩ : ∃ rv, refNumI (L x) = rv := ⟨_, rfl⟩
    rw [hrv]
    have hw32 : wrap32 rv = rv := IntWalk.wrap32_in _ (by have := refNumI_bd (L x); rw [hrv] at this; omega)
    by_cases hA : ∃ h : 2 < x.size, x[0] = 35 ∧ x[1] = 120
    · obtain ⟨hA0, hA1, hA2⟩ := hA
      have hi0 : (0 : Int) < x.size := by omega
      have hi1 : (1 : Int) < x.size := by omega
      have hi2 : (2 : Int) < x.size := by omega
      have hi3 : (2 : Int) ≤ x.size := by omega
      have c0 : ((x[0].toNat : Int) == 35) = true := by rw [hA1]; rfl
      have c1 : ((x[1].toNat : Int) == 120) = true := by rw [hA2]; rfl
      have hN : numI 16 (L (x.extract 2 x.size)) = rv := by
        rw [L_from, ← hrv]
        have e1 : L x = 35 :: 120 :: (L x).drop 2 := by
          have := L_drop x 0 (by omega)
          rw [List.drop_zero] at this
          rw [this, L_drop x 1 (by omega)]
          simp only [hA1, hA2]
          rfl
        conv => rhs; rw [e1]
        rfl
      have HN := Lib.hid hN
      clear hN hrv hA1 hA2
      by_cases hneg : rv < 0
      · rw [if_pos hneg]
        go_enter Tryz.func101, Tryz.ntmps101
        go_wp2_with (first
          | (go_at_call 54; refine (refFind_calls s ⟨#[59]⟩ p _ hs (by omega) (by decide) (by decide)).mono ?_; rw [HF.out]; rintro e1 w' ⟨rfl, rfl⟩)
          | (go_at_call 128; refine (refNumber_calls _ 16 _ (by rw [ByteArray.size_extract]; omega) (.inr rfl)).mono ?_; rw [HN.out]; rintro e1 w' ⟨rfl, rfl⟩))
        go_ret2
        exact ⟨rfl, Below.refl _ _⟩
      · rw [if_neg hneg]
        go_enter Tryz.func101, Tryz.ntmps101
        go_wp2_with (first
          | (go_at_call 54; refine (refFind_calls s ⟨#[59]⟩ p _ hs (by omega) (by decide) (by decide)).mono ?_; rw [HF.out]; rintro e1 w' ⟨rfl, rfl⟩)
          | (go_at_call 128; refine (refNumber_calls _ 16 _ (by rw [ByteArray.size_extract]; omega) (.inr rfl)).mono ?_; rw [HN.out]; rintro e1 w' ⟨rfl, rfl⟩)
          | (go_at_call 23; refine (refPut_calls _ _).mono ?_; rintro e1 w' ⟨v, rfl, hv, hb⟩; have hc0 := hv.conv))
        go_ret2
        exact ⟨rfl, hb⟩
    · by_cases h1 : 1 < x.size
      · have hi0 : (0 : Int) < x.size := by omega
        have hi1 : (1 : Int) < x.size := by omega
        have hi3 : (1 : Int) ≤ x.size := by omega
        have hLx : L x = x[0] :: (L x).drop 1 := by
          have := L_drop x 0 (by omega)
          rw [List.drop_zero] at this
          exact this
        by_cases h35 : x[0] = 35
        · have c0 : ((x[0].toNat : Int) == 35) = true := by rw [h35]; rfl
          have hN : numI 10 (L (x.extract 1 x.size)) = rv := by
            rw [L_from, ← hrv]
            conv => rhs; rw [hLx, h35]
            refine (refNumI_hash _ fun u hu => ?_).symm
            rw [L_drop x 1 h1] at hu
            injection hu with hu1 hu2
            rw [← hu2]
            refine List.drop_eq_nil_of_le ?_
            rw [L_length]
            rcases Nat.lt_or_ge 2 x.size with h | h
            · exact absurd ⟨h, h35, hu1⟩ hA
            · omega
          have HN := Lib.hid hN
          clear hN hrv hLx
          by_cases h2 : 2 < x.size
          · have hi2 : (2 : Int) < x.size := by omega
            have c1 : ((x[1].toNat : Int) == 120) = false := u8_ne (k := 120) 120 rfl (fun h => hA ⟨h2, h35, h⟩)
            clear hA h35
            by_cases hneg : rv < 0
            · rw [if_pos hneg]
              go_enter Tryz.func101, Tryz.ntmps101
              go_wp2_with (first
                | (go_at_call 54; refine (refFind_calls s ⟨#[59]⟩ p _ hs (by omega) (by decide) (by decide)).mono ?_; rw [HF.out]; rintro e1 w' ⟨rfl, rfl⟩)
                | (go_at_call 128; refine (refNumber_calls _ 10 _ (by rw [ByteArray.size_extract]; omega) (.inl rfl)).mono ?_; rw [HN.out]; rintro e1 w' ⟨rfl, rfl⟩))
              go_ret2
              exact ⟨rfl, Below.refl _ _⟩
            · rw [if_neg hneg]
              go_enter Tryz.func101, Tryz.ntmps101
              go_wp2_with (first
                | (go_at_call 54; refine (refFind_calls s ⟨#[59]⟩ p _ hs (by omega) (by decide) (by decide)).mono ?_; rw [HF.out]; rintro e1 w' ⟨rfl, rfl⟩)
                | (go_at_call 128; refine (refNumber_calls _ 10 _ (by rw [ByteArray.size_extract]; omega) (.inl rfl)).mono ?_; rw [HN.out]; rintro e1 w' ⟨rfl, rfl⟩)
                | (go_at_call 23; refine (refPut_calls _ _).mono ?_; rintro e1 w' ⟨v, rfl, hv, hb⟩; have hc0 := hv.conv))
              go_ret2
              exact ⟨rfl, hb⟩
          · have hi2 : ¬ (2 : Int) < x.size := by omega
            clear hA h35
            by_cases hneg : rv < 0
            · rw [if_pos hneg]
              go_enter Tryz.func101, Tryz.ntmps101
              go_wp2_with (first
                | (go_at_call 54; refine (refFind_calls s ⟨#[59]⟩ p _ hs (by omega) (by decide) (by decide)).mono ?_; rw [HF.out]; rintro e1 w' ⟨rfl, rfl⟩)
                | (go_at_call 128; refine (refNumber_calls _ 10 _ (by rw [ByteArray.size_extract]; omega) (.inl rfl)).mono ?_; rw [HN.out]; rintro e1 w' ⟨rfl, rfl⟩))
              go_ret2
              exact ⟨rfl, Below.refl _ _⟩
            · rw [if_neg hneg]
              go_enter Tryz.func101, Tryz.ntmps101
              go_wp2_with (first
                | (go_at_call 54; refine (refFind_calls s ⟨#[59]⟩ p _ hs (by omega) (by decide) (by decide)).mono ?_; rw [HF.out]; rintro e1 w' ⟨rfl, rfl⟩)
                | (go_at_call 128; refine (refNumber_calls _ 10 _ (by rw [ByteArray.size_extract]; omega) (.inl rfl)).mono ?_; rw [HN.out]; rintro e1 w' ⟨rfl, rfl⟩)
                | (go_at_call 23; refine (refPut_calls _ _).mono ?_; rintro e1 w' ⟨v, rfl, hv, hb⟩; have hc0 := hv.conv))
              go_ret2
              exact ⟨rfl, hb⟩
        · have c0 : ((x[0].toNat : Int) == 35) = false := u8_ne (k := 35) 35 rfl h35
          rw [hLx, refNumI_other _ _ h35] at hrv
          clear hA h35 hLx
          by_cases h2 : 2 < x.size
          · have hi2 : (2 : Int) < x.size := by omega
            subst hrv
            rw [if_pos (by omega)]
            go_enter Tryz.func101, Tryz.ntmps101
            go_wp2_with (go_at_call 54; refine (refFind_calls s ⟨#[59]⟩ p _ hs (by omega) (by decide) (by decide)).mono ?_; rw [HF.out]; rintro e1 w' ⟨rfl, rfl⟩)
            go_ret2
            exact ⟨rfl, Below.refl _ _⟩
          · have hi2 : ¬ (2 : Int) < x.size := by omega
            subst hrv
            rw [if_pos (by omega)]
            go_enter Tryz.func101, Tryz.ntmps101
            go_wp2_with (go_at_call 54; refine (refFind_calls s ⟨#[59]⟩ p _ hs (by omega) (by decide) (by decide)).mono ?_; rw [HF.out]; rintro e1 w' ⟨rfl, rfl⟩)
            go_ret2
            exact ⟨rfl, Below.refl _ _⟩
      · rw [refNumI_short _ (by rw [L_length]; omega)] at hrv
        have hi1 : ¬ (1 : Int) < x.size := by omega
        have hi2 : ¬ (2 : Int) < x.size := by omega
        clear hA
        subst hrv
        rw [if_pos (by omega)]
        go_enter Tryz.func101, Tryz.ntmps101
        go_wp2_with (go_at_call 54; refine (refFind_calls s ⟨#[59]⟩ p _ hs (by omega) (by decide) (by decide)).mono ?_; rw [HF.out]; rintro e1 w' ⟨rfl, rfl⟩)
        go_ret2
        exact ⟨rfl, Below.refl _ _⟩

end Go.Proofs.YtokdclmikllepaaGreatDoor
