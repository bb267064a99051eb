import Derived.Test.YtokdclmikllepaaGreatDoorMr29
import Derived.Test.YtokdclmikllepaaGreatDoorMr31
import Derived.Test.YtokdclmikllepaaGreatDoorMr32
import Derived.Test.YtokdclmikllepaaGreatDoorMr33
import Derived.Test.YtokdclmikllepaaGreatDoorMr6
import Derived.Test.YtokdclmikllepaaGreatDoorMr40
namespace Go.Proofs.YtokdclmikllepaaGreatDoor
open Go.RowKit
set_option linter.unusedVariables false
set_option linter.unusedSimpArgs false
set_option linter.unusedSectionVars false

abbrev PA := YtokdclmikllepaaGreatDoorP.S42
def atS (a : Sp.At) : PA := ⟨⟨a.name.toArray⟩, ⟨a.value.toArray⟩, (a.at_ : Int)⟩
theorem w64 {x : Int} (h0 : -9223372036854775808 ≤ x) (h1 : x ≤ 9223372036854775807) : wrap64 x = x := by unfold wrap64; omega

section
variable {s : ByteArray} {p : Nat} (hs : s.size ≤ 65536) (hp : p ≤ s.size)
include hs hp
theorem name_f (k : Nat) : YtokdclmikllepaaGreatDoorP.pavaneref08_name.f k s (p : Int) = some ((p + Sp.nameN (((L s).drop p).length + 1) true ((L s).drop p) : Nat) : Int) := by
  unfold YtokdclmikllepaaGreatDoorP.pavaneref08_name.f
  rw [if_pos ⟨hs, by omega, by omega⟩, List.length_drop, L_length]
  rfl
theorem blanks_f (k : Nat) : YtokdclmikllepaaGreatDoorP.pavaneref08_blanks.f k s (p : Int) = some ((p + Sp.blanksN ((L s).drop p) : Nat) : Int) := by
  unfold YtokdclmikllepaaGreatDoorP.pavaneref08_blanks.f
  rw [if_pos ⟨hs, by omega, by omega⟩]
  rfl
theorem at_f (t : ByteArray) (ht : t.size ≤ 1000) : YtokdclmikllepaaGreatDoorP.pavaneref08_at.f s (p : Int) t = some ((L t).isPrefixOf ((L s).drop p)) := by
  unfold YtokdclmikllepaaGreatDoorP.pavaneref08_at.f
  rw [if_pos ⟨hs, by omega, by omega, ht⟩]
  rfl
theorem missing_f (fr : Nat) : YtokdclmikllepaaGreatDoorP.pavaneref08_missing.f s (fr : Int) (p : Int) = some (((Sp.stop fr p ((L s).drop p)).1 : Int), ((Sp.stop fr p ((L s).drop p)).2 : Int)) := by
  unfold YtokdclmikllepaaGreatDoorP.pavaneref08_missing.f
  rw [if_pos ⟨hs, by omega, by omega⟩]
  rfl
end

theorem shE_zero {α : Type} (x : Except Sp.Flt α) : shE 0 id x = x := by
  cases x with
  | error f => obtain ⟨a, b⟩ := f; rfl
  | ok a => rfl
theorem text_fr (e : UInt8) (b : Bool) (fr fr' k p : Nat) (l acc : List UInt8) (n : Nat) : Sp.text e b fr' k p l acc n = Sp.text e b fr k p l acc n := by
  have := sh_text e b fr fr' 0 k p l acc n
  rw [shE_zero] at this
  exact this
theorem text_f {s : ByteArray} {p : Nat} (hs : s.size ≤ 65536) (hp : p ≤ s.size) (k : Nat) (e : UInt8) (he : e ≠ 38) (b : Bool) (fr : Nat) :
    YtokdclmikllepaaGreatDoorP.pavaneref08_text.f k s (p : Int) (e.toNat : Int) b = match Sp.text e b fr (((L s).drop p).length + 1) p ((L s).drop p) [] 0 with
      | .ok (t, n) => some (⟨t.toArray⟩, ((p + n : Nat) : Int), 0, 0)
      | .error f => some (⟨#[]⟩, (f.1 : Int), (f.1 : Int), (f.2 : Int)) := by
  unfold YtokdclmikllepaaGreatDoorP.pavaneref08_text.f
  have h := e.toNat_lt
  rw [if_pos ⟨hs, by omega, by omega, by omega, by omega, fun hq => he (UInt8.toNat_inj.1 (by show _ = 38; omega))⟩]
  have e1 : UInt8.ofNat ((e.toNat : Int).toNat) = e := by simp
  rw [e1, text_fr e b fr 0, List.length_drop, L_length]
  rfl
theorem bt_nat {s : ByteArray} {p : Nat} (hp : p < s.size) : YtokdclmikllepaaGreatDoorW.PrintWords.bt s (p : Int) = (s[p].toNat : Int) := by
  unfold YtokdclmikllepaaGreatDoorW.PrintWords.bt
  rw [dif_pos (by simpa using hp)]
  rfl
theorem stop_ne (fr p : Nat) (l : List UInt8) : (Sp.stop fr p l).2 ≠ 0 := by
  unfold Sp.stop; split <;> simp
theorem text_err {e : UInt8} {b : Bool} {fr : Nat} : ∀ (k p : Nat) (l acc : List UInt8) (n : Nat) (f : Sp.Flt), Sp.text e b fr k p l acc n = .error f → f.2 ≠ 0 := by
  intro k
  induction k with
  | zero => intro p l acc n f h; cases h
  | succ k ih =>
    intro p l acc n f h
    cases l with
    | nil => cases h
    | cons c t =>
      rw [Sp.text] at h
      split at h
      · cases h
      · split at h
        · split at h
          · rename_i f' hr
            injection h with h
            subst h
            rw [ref_fd _ _ _ hr]; simp
          · exact ih _ _ _ _ _ h
        · split at h
          · injection h with h; subst h; simp
          · exact ih _ _ _ _ _ h
theorem pre_one (c : UInt8) (l : List UInt8) : (([c] : List UInt8).isPrefixOf l = true) ↔ l.head? = some c := by
  cases l with
  | nil => simp [List.isPrefixOf]
  | cons a t => simp [List.isPrefixOf]; exact eq_comm

theorem check_loop {s : ByteArray} (hs : s.size ≤ 65536) : ∀ (k p f1 f2 q : Nat), p ≤ s.size → s.size - p < k → s.size - p < f1 → s.size - p < f2 → Sp.bad f2 q ((L s).drop p) = none →
    YtokdclmikllepaaGreatDoorP.pavaneref08_Check.l0 k s (p : Int) = some (match Sp.badChar f1 p ((L s).drop p) with | some i => ((i : Int), 81) | none => (0, 0)) := by
  intro k
  induction k with
  | zero => intro p f1 f2 q hp hk; omega
  | succ k ih =>
    intro p f1 f2 q hp hk h1 h2 hb
    rw [YtokdclmikllepaaGreatDoorP.pavaneref08_Check.l0]
    by_cases hlt : p < s.size
    · obtain ⟨f1, rfl⟩ : ∃ m, f1 = m + 1 := ⟨f1 - 1, by omega⟩
      obtain ⟨f2, rfl⟩ : ∃ m, f2 = m + 1 := ⟨f2 - 1, by omega⟩
      rw [if_pos (by omega)]
      have hn : YtokdclmikllepaaGreatDoorP.pavaneref07_Next.f k s (p : Int) = some ((Sp.next ((L s).drop p)).1, ((Sp.next ((L s).drop p)).2 : Int)) := by
        unfold YtokdclmikllepaaGreatDoorP.pavaneref07_Next.f
        rw [if_pos ⟨hs, by omega, by omega⟩]; rfl
      have hle := sp_next_le ((L s).drop p)
      rw [List.length_drop, L_length] at hle
      rw [hn]
      simp only [Option.bind_some, YtokdclmikllepaaGreatDoorP.pavaneref07_Char.f]
      have hd := L_drop s p hlt
      have hb' : (Sp.next ((L s).drop p)).2 ≠ 0 ∧ Sp.bad f2 (q + (Sp.next ((L s).drop p)).2) (((L s).drop p).drop (Sp.next ((L s).drop p)).2) = none := by
        rw [hd] at hb ⊢
        rw [Sp.bad] at hb
        split at hb
        · cases hb
        · rename_i hz; exact ⟨hz, hb⟩
      have hc' : Sp.badChar (f1 + 1) p ((L s).drop p) = if Sp.isChar (Sp.next ((L s).drop p)).1 = true then Sp.badChar f1 (p + (Sp.next ((L s).drop p)).2) (((L s).drop p).drop (Sp.next ((L s).drop p)).2) else some p := by
        rw [hd]; rfl
      rw [hc']
      generalize Sp.next ((L s).drop p) = x at *
      obtain ⟨r, n⟩ := x
      simp only at hle hb' ⊢
      by_cases hch : Sp.isChar r = true
      · rw [if_pos hch, if_pos hch, w64 (by omega) (by omega), List.drop_drop]
        have hb2 := hb'.2
        rw [List.drop_drop] at hb2
        exact ih (p + n) f1 f2 _ (by omega) (by omega) (by omega) (by omega) hb2
      · rw [if_neg hch, if_neg hch]
    · rw [if_neg (by omega), List.drop_eq_nil_of_le (by rw [L_length]; omega)]
      cases f1 <;> rfl

theorem check_f {s : ByteArray} (k : Nat) (hk : s.size < k) : YtokdclmikllepaaGreatDoorP.pavaneref08_Check.f k s = some (
    if 65536 < s.size then ((0 : Int), (3 : Int)) else match Sp.bad (s.size + 1) 0 (L s) with
      | some i => ((i : Int), (71 : Int))
      | none => match Sp.badChar (s.size + 1) 0 (L s) with | some i => ((i : Int), (81 : Int)) | none => ((0 : Int), (0 : Int))) := by
  unfold YtokdclmikllepaaGreatDoorP.pavaneref08_Check.f
  by_cases h : 65536 < s.size
  · rw [if_pos (by omega), if_pos h]
  · rw [if_neg (by omega), if_neg h]
    unfold YtokdclmikllepaaGreatDoorP.pavaneref07_Bad.f
    rw [if_pos (by omega)]
    simp only [Option.bind_some]
    cases hb : Sp.bad (s.size + 1) 0 (L s) with
    | some i => rw [if_neg (by unfold badI; simp only; omega)]; rfl
    | none =>
      rw [if_pos (show badI none = -1 from rfl)]
      have := check_loop (s := s) (by omega) k 0 (s.size + 1) (s.size + 1) 0 (by omega) (by omega) (by omega) (by omega) (by simpa using hb)
      simpa using this

def AttrIs (p : Nat) (R : Except Sp.Flt (Sp.At × Nat)) (o : Option (ByteArray × ByteArray × Int × Int × Int × Int)) : Prop :=
  match R with
  | .ok (a, m) => o = some ((atS a).f0, (atS a).f1, (atS a).f2, ((p + m : Nat) : Int), 0, 0)
  | .error f => f.2 ≠ 0 ∧ ∃ r1 r2 r3 r4, o = some (r1, r2, r3, r4, (f.1 : Int), (f.2 : Int))

theorem attr_f {s : ByteArray} (hs : s.size ≤ 65536) (k fr p : Nat) (hp : p ≤ s.size) : AttrIs p (Sp.attr fr p ((L s).drop p)) (YtokdclmikllepaaGreatDoorP.pavaneref08_attr.f (k + 1) s (fr : Int) (p : Int)) := by
  unfold YtokdclmikllepaaGreatDoorP.pavaneref08_attr.f
  rw [name_f hs hp]
  have hnle := name_le (((L s).drop p).length + 1) true ((L s).drop p)
  rw [List.length_drop, L_length] at hnle
  rw [List.length_drop, L_length]
  obtain ⟨n, hn⟩ : ∃ n, Sp.nameN (((L s).drop p).length + 1) true ((L s).drop p) = n := ⟨_, rfl⟩
  have hn2 := hn
  rw [List.length_drop, L_length] at hn2
  rw [hn2] at hnle ⊢
  simp only [Option.bind_some]
  by_cases h0 : n = 0
  · subst h0
    rw [attr_zero hn, if_pos (by omega)]
    have e : ((p + 0 : Nat) : Int) = (p : Int) := rfl
    try rw [e]
    rw [missing_f hs hp]
    exact ⟨stop_ne _ _ _, _, _, _, _, rfl⟩
  · rw [if_neg (by omega), if_pos (by omega), if_pos (by omega), if_pos (by omega), blanks_f hs (p := p + n) (by omega)]
    simp only [Option.bind_some]
    have hble := blanks_le ((L s).drop (p + n))
    rw [List.length_drop, L_length] at hble
    have hld : ((L s).drop p).drop n = (L s).drop (p + n) := by rw [List.drop_drop]
    obtain ⟨b, hb⟩ : ∃ b, Sp.blanksN ((L s).drop (p + n)) = b := ⟨_, rfl⟩
    rw [hb] at hble ⊢
    have hld2 : (((L s).drop p).drop n).drop b = (L s).drop (p + n + b) := by rw [hld, List.drop_drop]
    rw [at_f hs (p := p + n + b) (by omega) _ (by decide)]
    simp only [Option.bind_some]
    by_cases h61 : ((L s).drop (p + n + b)).head? = some 61
    · obtain ⟨hlt, hc⟩ := head_at h61
      have hd := L_drop s _ hlt
      rw [hc] at hd
      rw [if_pos ((pre_one 61 _).2 h61), w64 (by omega) (by omega)]
      have e1 : ((p + n + b : Nat) : Int) + 1 = ((p + n + b + 1 : Nat) : Int) := by omega
      rw [e1, blanks_f hs (p := p + n + b + 1) (by omega)]
      simp only [Option.bind_some]
      obtain ⟨b2, hb2⟩ : ∃ x, Sp.blanksN ((L s).drop (p + n + b + 1)) = x := ⟨_, rfl⟩
      have hb2le := blanks_le ((L s).drop (p + n + b + 1))
      rw [List.length_drop, L_length] at hb2le
      rw [hb2] at hb2le ⊢
      obtain ⟨v, hv⟩ : ∃ v, p + n + b + 1 + b2 = v := ⟨_, rfl⟩
      rw [hv]
      have hvs : v ≤ s.size := by omega
      rw [attr_more (n := n) (b := b) (b2 := b2) (l3 := (L s).drop (p + n + b + 1)) (l4 := (L s).drop v) hn h0 (by rw [hld]; exact hb) (by rw [hld2]; exact hd) hb2 (by rw [List.drop_drop, hv]), hv]
      rw [at_f hs hvs _ (by decide)]
      simp only [Option.bind_some]
      have hext : (s.extract ((p : Int)).toNat (((p + n : Nat) : Int)).toNat) = ⟨(((L s).drop p).take n).toArray⟩ := by
        have := L_extract s p (p + n)
        rw [show p + n - p = n by omega] at this
        rw [← this, bs_L]; rfl
      by_cases hvl : v < s.size
      · have hdv := L_drop s v hvl
        by_cases h34 : s[v] = 34 ∨ s[v] = 39
        · have hj : (if ([34] : List UInt8).isPrefixOf ((L s).drop v) = true then YtokdclmikllepaaGreatDoorP.pavaneref08_attr.j0 (k + 1) s fr v false (s.extract (p : Int).toNat ((p + n : Nat) : Int).toNat) ⟨#[]⟩ p else (YtokdclmikllepaaGreatDoorP.pavaneref08_at.f s v ⟨#[39]⟩).bind fun t242 => YtokdclmikllepaaGreatDoorP.pavaneref08_attr.j0 (k + 1) s fr v (!t242) (s.extract (p : Int).toNat ((p + n : Nat) : Int).toNat) ⟨#[]⟩ p) =
              YtokdclmikllepaaGreatDoorP.pavaneref08_attr.j0 (k + 1) s fr v false (s.extract (p : Int).toNat ((p + n : Nat) : Int).toNat) ⟨#[]⟩ p := by
            rw [at_f hs hvs _ (by decide)]
            by_cases h : s[v] = 34
            · rw [if_pos ((pre_one 34 _).2 (by rw [hdv, h]; rfl))]
            · have h39 : s[v] = 39 := h34.resolve_left h
              rw [if_neg (fun hh => h (by have := (pre_one 34 _).1 hh; rw [hdv] at this; injection this))]
              have : ([39] : List UInt8).isPrefixOf ((L s).drop v) = true := (pre_one 39 _).2 (by rw [hdv, h39]; rfl)
              simp only [Option.bind_some]
              rw [show L (⟨#[39]⟩ : ByteArray) = [39] from rfl, this]
              rfl
          have hj2 := hj
          rw [show ([34] : List UInt8) = L (⟨#[34]⟩ : ByteArray) from rfl] at hj2
          rw [hj2, YtokdclmikllepaaGreatDoorP.pavaneref08_attr.j0, if_neg (by simp), if_pos (by omega), if_pos (by omega), w64 (by omega) (by omega), bt_nat hvl]
          have e2 : ((v : Nat) : Int) + 1 = ((v + 1 : Nat) : Int) := by omega
          rw [e2, text_f hs (p := v + 1) (by omega) k s[v] (by rcases h34 with h | h <;> rw [h] <;> decide) true fr]
          unfold attrTail
          rw [hdv]
          simp only
          rw [if_pos h34]
          cases hT : Sp.text s[v] true fr (((L s).drop (v + 1)).length + 1) (v + 1) ((L s).drop (v + 1)) [] 0 with
          | error f =>
            simp only [Option.bind_some]
            have hf := text_err _ _ _ _ _ _ hT
            rw [if_neg (by omega)]
            exact ⟨hf, _, _, _, _, rfl⟩
          | ok r =>
            obtain ⟨x, m⟩ := r
            simp only [Option.bind_some]
            rw [if_pos (show True from trivial)]
            by_cases hm : ((L s).drop (v + 1)).drop m = []
            · rw [if_pos hm]
              have : s.size ≤ v + 1 + m := by
                have := congrArg List.length hm
                rw [List.length_drop, List.length_drop, L_length] at this
                simp only [List.length_nil] at this
                omega
              rw [if_pos (by omega)]
              exact ⟨by simp, _, _, _, _, rfl⟩
            · rw [if_neg hm]
              have : v + 1 + m < s.size := by
                rcases Nat.lt_or_ge (v + 1 + m) s.size with h | h
                · exact h
                · exact absurd (by rw [List.drop_drop]; exact List.drop_eq_nil_of_le (by rw [L_length]; omega)) hm
              rw [if_neg (by omega), w64 (by omega) (by omega), hext]
              show some _ = some _
              simp only [atS, Option.some.injEq, Prod.mk.injEq, true_and, and_true]
              omega
        · have hj : (if ([34] : List UInt8).isPrefixOf ((L s).drop v) = true then YtokdclmikllepaaGreatDoorP.pavaneref08_attr.j0 (k + 1) s fr v false (s.extract (p : Int).toNat ((p + n : Nat) : Int).toNat) ⟨#[]⟩ p else (YtokdclmikllepaaGreatDoorP.pavaneref08_at.f s v ⟨#[39]⟩).bind fun t242 => YtokdclmikllepaaGreatDoorP.pavaneref08_attr.j0 (k + 1) s fr v (!t242) (s.extract (p : Int).toNat ((p + n : Nat) : Int).toNat) ⟨#[]⟩ p) =
              YtokdclmikllepaaGreatDoorP.pavaneref08_attr.j0 (k + 1) s fr v true (s.extract (p : Int).toNat ((p + n : Nat) : Int).toNat) ⟨#[]⟩ p := by
            rw [at_f hs hvs _ (by decide), if_neg (fun hh => h34 (.inl (by have := (pre_one 34 _).1 hh; rw [hdv] at this; injection this)))]
            have : ([39] : List UInt8).isPrefixOf ((L s).drop v) = false := by
              cases hx : ([39] : List UInt8).isPrefixOf ((L s).drop v) with
              | false => rfl
              | true => exact absurd (.inr (by have := (pre_one 39 _).1 hx; rw [hdv] at this; injection this)) h34
            simp only [Option.bind_some]
            rw [show L (⟨#[39]⟩ : ByteArray) = [39] from rfl, this]
            rfl
          have hj2 := hj
          rw [show ([34] : List UInt8) = L (⟨#[34]⟩ : ByteArray) from rfl] at hj2
          rw [hj2, YtokdclmikllepaaGreatDoorP.pavaneref08_attr.j0, if_pos rfl, missing_f hs hvs]
          unfold attrTail
          rw [hdv]
          simp only
          rw [if_neg h34]
          exact ⟨by simp, _, _, _, _, rfl⟩
      · have hdn : (L s).drop v = [] := List.drop_eq_nil_of_le (by rw [L_length]; omega)
        rw [if_neg (by rw [hdn]; simp [List.isPrefixOf]), at_f hs hvs _ (by decide)]
        simp only [Option.bind_some]
        have : (L (⟨#[39]⟩ : ByteArray)).isPrefixOf ((L s).drop v) = false := by rw [hdn]; rfl
        rw [this, YtokdclmikllepaaGreatDoorP.pavaneref08_attr.j0, if_pos (show (!false) = true from rfl), missing_f hs hvs]
        unfold attrTail
        rw [hdn]
        exact ⟨by simp, _, _, _, _, rfl⟩
    · rw [if_neg (fun hh => h61 ((pre_one 61 _).1 hh)), missing_f hs (p := p + n + b) (by omega)]
      rw [attr_none (n := n) (b := b) (l2 := (L s).drop (p + n + b)) hn h0 (by rw [hld]; exact hb) hld2 h61]
      exact ⟨stop_ne _ _ _, _, _, _, _, rfl⟩

abbrev ROut := Option (Int × ByteArray × List PA × Bool × ByteArray × Int × Int × Int × Int)
def MkOut (m : Sp.Mk) (q : Nat) : Int × ByteArray × List PA × Bool × ByteArray × Int × Int × Int × Int :=
  ((m.kind : Int), ⟨m.name.toArray⟩, m.attrs.map atS, m.empty, ⟨m.text.toArray⟩, (m.at_ : Int), (q : Int), 0, 0)
def MkIs (p : Nat) (R : Except Sp.Flt (Sp.Mk × Nat)) (o : ROut) : Prop :=
  match R with
  | .ok (m, n) => o = some (MkOut m (p + n))
  | .error f => f.2 ≠ 0 ∧ ∃ r1 r2 r3 r4 r5 r6 r7, o = some (r1, r2, r3, r4, r5, r6, r7, (f.1 : Int), (f.2 : Int))

theorem attr_posS (fr p : Nat) (l : List UInt8) (a : Sp.At) (m : Nat) (h : Sp.attr fr p l = .ok (a, m)) : 1 ≤ m := ((attr_fd fr p l).2 a m h).2

theorem opening_loop {s : ByteArray} (hs : s.size ≤ 65536) (fr : Nat) (nmv : ByteArray) : ∀ (kf k p n : Nat) (acc : List Sp.At), p ≤ s.size → s.size - p < kf → s.size - p < k → fr + n = p → acc.length ≤ p →
    match Sp.attrs fr kf p ((L s).drop p) acc n with
    | .ok (az, e, m) => YtokdclmikllepaaGreatDoorP.pavaneref08_opening.l0 (k + 1) s (fr : Int) (p : Int) 1 nmv (acc.map atS) false ⟨#[]⟩ (fr : Int) = some (1, nmv, az.map atS, e, ⟨#[]⟩, (fr : Int), ((fr + m : Nat) : Int), 0, 0)
    | .error f => f.2 ≠ 0 ∧ ∃ r1 r2 r3 r4 r5 r6 r7, YtokdclmikllepaaGreatDoorP.pavaneref08_opening.l0 (k + 1) s (fr : Int) (p : Int) 1 nmv (acc.map atS) false ⟨#[]⟩ (fr : Int) = some (r1, r2, r3, r4, r5, r6, r7, (f.1 : Int), (f.2 : Int)) := by
  intro kf
  induction kf with
  | zero => intro k p n acc hp hk; omega
  | succ kf ih =>
    intro k p n acc hp hkf hk hn hacc
    obtain ⟨k, rfl⟩ : ∃ m, k = m + 1 := ⟨k - 1, by omega⟩
    rw [attrs_in, YtokdclmikllepaaGreatDoorP.pavaneref08_opening.l0, blanks_f hs hp]
    simp only [Option.bind_some]
    have hble := blanks_le ((L s).drop p)
    rw [List.length_drop, L_length] at hble
    obtain ⟨b, hb⟩ : ∃ b, Sp.blanksN ((L s).drop p) = b := ⟨_, rfl⟩
    rw [hb] at hble ⊢
    rw [List.drop_drop, at_f hs (p := p + b) (by omega) _ (by decide)]
    simp only [Option.bind_some]
    by_cases h62 : ((L s).drop (p + b)).head? = some 62
    · obtain ⟨hlt, hc⟩ := head_at h62
      have hd := L_drop s _ hlt
      rw [hc] at hd
      rw [if_pos ((pre_one 62 _).2 h62), hd, in_gt]
      simp only
      rw [w64 (by omega) (by omega)]
      simp only [Option.some.injEq, Prod.mk.injEq, true_and, and_true]
      omega
    · rw [if_neg (fun h => h62 ((pre_one 62 _).1 h)), at_f hs (p := p + b) (by omega) _ (by decide)]
      simp only [Option.bind_some]
      by_cases h47 : ((L s).drop (p + b)).head? = some 47
      · obtain ⟨hlt, hc⟩ := head_at h47
        have hd := L_drop s _ hlt
        rw [hc] at hd
        rw [if_pos ((pre_one 47 _).2 h47), w64 (by omega) (by omega)]
        have e1 : ((p + b : Nat) : Int) + 1 = ((p + b + 1 : Nat) : Int) := by omega
        rw [e1, at_f hs (p := p + b + 1) (by omega) _ (by decide)]
        simp only [Option.bind_some]
        by_cases h2 : ((L s).drop (p + b + 1)).head? = some 62
        · obtain ⟨hlt2, hc2⟩ := head_at h2
          have hd2 := L_drop s _ hlt2
          rw [hc2] at hd2
          rw [if_pos ((pre_one 62 _).2 h2), hd, hd2, in_sl_gt]
          simp only
          rw [w64 (by omega) (by omega)]
          simp only [Option.some.injEq, Prod.mk.injEq, true_and, and_true]
          omega
        · rw [if_neg (fun h => h2 ((pre_one 62 _).1 h)), missing_f hs (p := p + b + 1) (by omega), hd, in_sl_no _ _ _ _ _ _ _ _ h2]
          exact ⟨stop_ne _ _ _, _, _, _, _, _, _, _, rfl⟩
      · rw [if_neg (fun h => h47 ((pre_one 47 _).1 h))]
        by_cases h0 : b = 0
        · subst h0
          rw [if_pos (by simp), missing_f hs hp]
          rw [in_gap _ _ _ _ _ _ _ (by simpa using h62) (by simpa using h47)]
          exact ⟨stop_ne _ _ _, _, _, _, _, _, _, _, rfl⟩
        · rw [if_neg (by omega), in_attr _ _ _ _ _ _ _ _ h62 h47 h0]
          have ha := attr_f hs k fr (p + b) (by omega)
          cases hat : Sp.attr fr (p + b) ((L s).drop (p + b)) with
          | error f =>
            rw [hat] at ha
            obtain ⟨hf, r1, r2, r3, r4, he⟩ := ha
            rw [he]
            simp only [Option.bind_some]
            rw [if_neg (by omega)]
            exact ⟨hf, _, _, _, _, _, _, _, rfl⟩
          | ok r =>
            obtain ⟨a, m⟩ := r
            rw [hat] at ha
            have ha2 : YtokdclmikllepaaGreatDoorP.pavaneref08_attr.f (k + 1) s (fr : Int) ((p + b : Nat) : Int) = some ((atS a).f0, (atS a).f1, (atS a).f2, ((p + b + m : Nat) : Int), 0, 0) := ha
            have h1 := attr_posS _ _ _ _ _ hat
            have h2 := attr_le _ _ _ _ _ hat
            rw [List.length_drop, L_length] at h2
            rw [ha2]
            simp only [Option.bind_some]
            rw [if_pos (show True from trivial), if_pos (by rw [List.length_map]; omega), List.drop_drop]
            have := ih k (p + b + m) (n + b + m) (acc ++ [a]) (by omega) (by omega) (by omega) (by omega) (by rw [List.length_append]; simp only [List.length_cons, List.length_nil]; omega)
            rw [List.map_append] at this
            exact this

theorem opening_f {s : ByteArray} (hs : s.size ≤ 65536) (k p : Nat) (hp : p + 1 ≤ s.size) (hk : s.size < k) : MkIs p (Sp.opening p ((L s).drop p)) (YtokdclmikllepaaGreatDoorP.pavaneref08_opening.f (k + 1) s (p : Int)) := by
  unfold YtokdclmikllepaaGreatDoorP.pavaneref08_opening.f Sp.opening
  rw [w64 (by omega) (by omega)]
  have e1 : (p : Int) + 1 = ((p + 1 : Nat) : Int) := by omega
  rw [e1, name_f hs hp]
  simp only [Option.bind_some, List.drop_drop]
  have hnle := name_le (((L s).drop (p + 1)).length + 1) true ((L s).drop (p + 1))
  rw [List.length_drop, L_length] at hnle
  obtain ⟨n, hn⟩ : ∃ n, Sp.nameN (((L s).drop (p + 1)).length + 1) true ((L s).drop (p + 1)) = n := ⟨_, rfl⟩
  have hn2 := hn
  rw [List.length_drop, L_length] at hn2
  rw [hn2] at hnle
  rw [hn]
  by_cases h0 : n = 0
  · subst h0
    rw [if_pos (by omega), if_pos rfl]
    have e : ((p + 1 + 0 : Nat) : Int) = ((p + 1 : Nat) : Int) := rfl
    try rw [e]
    rw [missing_f hs hp]
    exact ⟨stop_ne _ _ _, _, _, _, _, _, _, _, rfl⟩
  · rw [if_neg h0, if_neg (by omega), if_pos (by omega), if_pos (by omega), if_pos (by omega)]
    have := opening_loop hs p ⟨(((L s).drop (p + 1)).take n).toArray⟩ (((L s).drop p).length + 1) k (p + 1 + n) (1 + n) [] (by omega) (by rw [List.length_drop, L_length]; omega) (by omega) (by omega) (by simp)
    have hext : (s.extract (((p + 1 : Nat) : Int)).toNat (((p + 1 + n : Nat) : Int)).toNat) = ⟨(((L s).drop (p + 1)).take n).toArray⟩ := by
      have := L_extract s (p + 1) (p + 1 + n)
      rw [show p + 1 + n - (p + 1) = n by omega] at this
      rw [← this, bs_L]; rfl
    rw [hext]
    cases hA : Sp.attrs p (((L s).drop p).length + 1) (p + 1 + n) ((L s).drop (p + 1 + n)) [] (1 + n) with
    | error f => rw [hA] at this; exact this
    | ok r =>
      obtain ⟨az, e, m⟩ := r
      rw [hA] at this
      exact this

theorem closing_f {s : ByteArray} (hs : s.size ≤ 65536) (k p : Nat) (hp : p + 2 ≤ s.size) : MkIs p (Sp.closing p ((L s).drop p)) (YtokdclmikllepaaGreatDoorP.pavaneref08_closing.f k s (p : Int)) := by
  unfold YtokdclmikllepaaGreatDoorP.pavaneref08_closing.f Sp.closing
  rw [w64 (by omega) (by omega)]
  have e1 : (p : Int) + 2 = ((p + 2 : Nat) : Int) := by omega
  rw [e1, name_f hs hp]
  simp only [Option.bind_some, List.drop_drop]
  have hnle := name_le (((L s).drop (p + 2)).length + 1) true ((L s).drop (p + 2))
  rw [List.length_drop, L_length] at hnle
  obtain ⟨n, hn⟩ : ∃ n, Sp.nameN (((L s).drop (p + 2)).length + 1) true ((L s).drop (p + 2)) = n := ⟨_, rfl⟩
  have hn2 := hn
  rw [List.length_drop, L_length] at hn2
  rw [hn2] at hnle
  rw [hn]
  by_cases h0 : n = 0
  · subst h0
    rw [if_pos (by omega), if_pos rfl]
    have e : ((p + 2 + 0 : Nat) : Int) = ((p + 2 : Nat) : Int) := rfl
    try rw [e]
    rw [missing_f hs hp]
    exact ⟨stop_ne _ _ _, _, _, _, _, _, _, _, rfl⟩
  · rw [if_neg h0, if_neg (by omega), if_pos (by omega), if_pos (by omega), if_pos (by omega), blanks_f hs (p := p + 2 + n) (by omega)]
    simp only [Option.bind_some]
    have hble := blanks_le ((L s).drop (p + 2 + n))
    rw [List.length_drop, L_length] at hble
    obtain ⟨b, hb⟩ : ∃ b, Sp.blanksN ((L s).drop (p + 2 + n)) = b := ⟨_, rfl⟩
    rw [hb] at hble ⊢
    rw [at_f hs (p := p + 2 + n + b) (by omega) _ (by decide)]
    simp only [Option.bind_some]
    have hext : (s.extract (((p + 2 : Nat) : Int)).toNat (((p + 2 + n : Nat) : Int)).toNat) = ⟨(((L s).drop (p + 2)).take n).toArray⟩ := by
      have := L_extract s (p + 2) (p + 2 + n)
      rw [show p + 2 + n - (p + 2) = n by omega] at this
      rw [← this, bs_L]; rfl
    rw [hext]
    by_cases h62 : ((L s).drop (p + 2 + n + b)).head? = some 62
    · obtain ⟨hlt, hc⟩ := head_at h62
      have hd := L_drop s _ hlt
      rw [hc] at hd
      rw [if_pos ((pre_one 62 _).2 h62), w64 (by omega) (by omega)]
      rw [hd]
      show some _ = some _
      simp only [MkOut, Option.some.injEq, Prod.mk.injEq, true_and, and_true, List.map_nil]
      refine ⟨rfl, ?_⟩
      omega
    · rw [if_neg (fun h => h62 ((pre_one 62 _).1 h)), missing_f hs (p := p + 2 + n + b) (by omega)]
      split
      · rename_i hq; exact absurd (by rw [hq]; rfl) h62
      · exact ⟨stop_ne _ _ _, _, _, _, _, _, _, _, rfl⟩

theorem pre_len {x l : List UInt8} (h : x.isPrefixOf l = true) : x.length ≤ l.length := (List.isPrefixOf_iff_prefix.1 h).length_le
end Go.Proofs.YtokdclmikllepaaGreatDoor
