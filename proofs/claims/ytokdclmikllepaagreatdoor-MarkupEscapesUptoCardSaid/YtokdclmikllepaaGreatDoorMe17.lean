import Derived.Test.YtokdclmikllepaaGreatDoorMe16
namespace Go.Proofs.YtokdclmikllepaaGreatDoor
open Go.RowKit
set_option linter.unusedVariables false
set_option linter.unusedSimpArgs false

theorem text_end (e : UInt8) (b : Bool) (fr k p : Nat) (t acc : List UInt8) (n : Nat) : Sp.text e b fr (k + 1) p (e :: t) acc n = .ok (acc, n) := by
  rw [Sp.text, if_pos rfl]
theorem text_nil (e : UInt8) (b : Bool) (fr k p : Nat) (acc : List UInt8) (n : Nat) : Sp.text e b fr k p [] acc n = .ok (acc, n) := by
  cases k <;> rfl
theorem text_ref (e : UInt8) (b : Bool) (fr k p : Nat) (t acc : List UInt8) (n : Nat) (he : e ≠ 38) : Sp.text e b fr (k + 1) p (38 :: t) acc n =
    match Sp.reference p (38 :: t) with
    | .error f => .error f
    | .ok (x, m) => Sp.text e b fr k (p + m) ((38 :: t).drop m) (acc ++ x) (n + m) := by
  rw [Sp.text, if_neg (fun h => he h.symm), if_pos rfl]
  cases Sp.reference p (38 :: t) with
  | error f => rfl
  | ok r => rfl
theorem text_lt (e : UInt8) (b : Bool) (fr k p : Nat) (t acc : List UInt8) (n : Nat) (he : e ≠ 60) : Sp.text e b fr (k + 1) p (60 :: t) acc n = .error (p, 82) := by
  rw [Sp.text, if_neg (fun h => he h.symm), if_neg (by decide), if_pos rfl]
theorem text_plain (e : UInt8) (b : Bool) (fr k p : Nat) (c : UInt8) (t acc : List UInt8) (n : Nat) (h1 : c ≠ e) (h2 : c ≠ 38) (h3 : c ≠ 60) : Sp.text e b fr (k + 1) p (c :: t) acc n =
    Sp.text e b fr k (p + ((c :: t).takeWhile (Sp.plainB e)).length) ((c :: t).dropWhile (Sp.plainB e)) (acc ++ Sp.flat b ((c :: t).takeWhile (Sp.plainB e))) (n + ((c :: t).takeWhile (Sp.plainB e)).length) := by
  rw [Sp.text, if_neg h1, if_neg h2, if_neg h3]

/-- Where the plain bytes that begin at a place end. -/
def pl (e : UInt8) (s : ByteArray) (p : Nat) : Nat := p + (((L s).drop p).takeWhile (Sp.plainB e)).length
theorem pl_step (e : UInt8) (s : ByteArray) (p : Nat) (h : p < s.size) (hw : Sp.plainB e s[p] = true) : pl e s p = pl e s (p + 1) := by
  unfold pl
  rw [L_drop s p h, List.takeWhile_cons, hw]
  simp; omega
theorem pl_not (e : UInt8) (s : ByteArray) (p : Nat) (h : p < s.size) (hw : Sp.plainB e s[p] = false) : pl e s p = p := by
  unfold pl
  rw [L_drop s p h, List.takeWhile_cons, hw]
  simp
theorem pl_end (e : UInt8) (s : ByteArray) (p : Nat) (h : s.size ≤ p) : pl e s p = p := by
  unfold pl
  rw [List.drop_eq_nil_of_le (by rw [L_length]; exact h)]
  simp
theorem pl_le (e : UInt8) (s : ByteArray) (p : Nat) (h : p ≤ s.size) : p ≤ pl e s p ∧ pl e s p ≤ s.size := by
  unfold pl
  have := (List.takeWhile_prefix (Sp.plainB e) (l := (L s).drop p)).length_le
  rw [List.length_drop, L_length] at this
  omega
theorem takeWhile_take (q : UInt8 → Bool) (l : List UInt8) : l.takeWhile q = l.take (l.takeWhile q).length :=
  List.prefix_iff_eq_take.1 (List.takeWhile_prefix q)
theorem dropWhile_drop (q : UInt8 → Bool) (l : List UInt8) : l.dropWhile q = l.drop (l.takeWhile q).length := by
  have := List.drop_left (l₁ := l.takeWhile q) (l₂ := l.dropWhile q)
  rw [List.takeWhile_append_dropWhile] at this
  exact this.symm
theorem pl_text (e : UInt8) (s : ByteArray) (p : Nat) : L (s.extract p (pl e s p)) = ((L s).drop p).takeWhile (Sp.plainB e) := by
  rw [L_extract]
  conv => rhs; rw [takeWhile_take]
  congr 1
  unfold pl; omega

theorem putI_len (r : Int) : (Sp.putI r).length ≤ 4 := by
  unfold Sp.putI
  repeat' split
  all_goals simp
theorem reference_len (p : Nat) (l x : List UInt8) (m : Nat) (hh : l.head? = some 38) (h : Sp.reference p l = .ok (x, m)) : x.length ≤ 4 ∧ 1 ≤ m ∧ m ≤ l.length := by
  unfold Sp.reference at h
  cases hf : Sp.find [59] (l.take 12) with
  | none => rw [hf] at h; cases h
  | some e =>
    rw [hf] at h
    simp only at h
    have hp := find_pos hh hf
    cases hr : Sp.refText ((l.drop 1).take (e - 1)) with
    | none => rw [hr] at h; cases h
    | some t =>
      rw [hr] at h
      injection h with h
      injection h with h1 h2
      subst h1 h2
      refine ⟨?_, by omega, by omega⟩
      unfold Sp.refText at hr
      have hnr : ∀ b d y, Sp.numRune b d = some y → y.length ≤ 4 := fun b d y hy => by
        unfold Sp.numRune at hy
        split at hy
        · cases hy
        · split at hy
          · split at hy
            · injection hy with hy; subst hy; rw [put_len]; exact putI_len _
            · cases hy
          · cases hy
      split at hr
      · rename_i t' hn
        injection hr with hr
        subst hr
        unfold Sp.namedO at hn
        repeat' (split at hn)
        all_goals first | (injection hn with hn; subst hn; simp) | cases hn
      · rcases numO_cases ((l.drop 1).take (e - 1)) with ⟨d, _, hno⟩ | ⟨d, _, _, hno⟩ | ⟨_, hno⟩
        · rw [hno] at hr; exact hnr _ _ _ hr
        · rw [hno] at hr; exact hnr _ _ _ hr
        · rw [hno] at hr; cases hr
theorem flat_len (b : Bool) (l : List UInt8) : (Sp.flat b l).length ≤ l.length := by
  unfold Sp.flat
  split
  · rw [List.length_map]; exact lines_len l
  · exact lines_len l

/-- The builder is untouched by what the reader does. -/
theorem bld_only {w w' : World} {g B b : Nat} {s : ByteArray} {p fr : Nat} {out : Value} {bs : List Value} (h : Lib.IsBuilder 115 5 B b bs w) (hr : Rd w g s p fr out) (ho : Only g w w') : Lib.IsBuilder 115 5 B b bs w' := by
  have key : ∀ q, Lib.BuilderAt 115 5 B b q bs w → Lib.BuilderAt 115 5 B b q bs w' := fun q hq => by
    obtain ⟨hB, v, hb, hown, hne⟩ := hq
    refine ⟨hB, v, ?_, hown.kept ho (.inr (hr.row hown (by decide))), hne⟩
    have hlt : b < w.heap.size := (Array.getElem?_eq_some_iff.1 hb).1
    rw [ho.block b hlt ?_, hb]
    intro he
    injection he with he
    subst he
    have := hr.2
    rw [hb] at this
    injection this with this
    injection this with _ h2 _
    exact absurd h2 (by decide)
  rcases h with h | h
  · exact .inl (key _ h)
  · exact .inr (key _ h)
end Go.Proofs.YtokdclmikllepaaGreatDoor
