import Derived.Test.YtokdclmikllepaaGreatDoorMe39
import Derived.Test.YtokdclmikllepaaGreatDoorMe41
namespace Go.Proofs.YtokdclmikllepaaGreatDoorP
open Go.RowKit Go.Proofs.YtokdclmikllepaaGreatDoorW.PrintWords Go.Proofs.YtokdclmikllepaaGreatDoorW.PrintLast Go.Proofs.YtokdclmikllepaaGreatDoorW.PrintMore
set_option linter.unusedVariables false
set_option linter.unusedSimpArgs false

theorem drawn_same {w w' : World} (h : w = w') : Drawn0 w w' := h ▸ Drawn0.refl w

def pavaneref07_Next.f (k : Nat) (a0 : ByteArray) (a1 : Int) : Option (Int × Int) :=
  if a0.size ≤ 65536 ∧ 0 ≤ a1 ∧ a1 ≤ (a0.size : Int) then some ((YtokdclmikllepaaGreatDoor.Sp.next ((YtokdclmikllepaaGreatDoor.L a0).drop a1.toNat)).1, ((YtokdclmikllepaaGreatDoor.Sp.next ((YtokdclmikllepaaGreatDoor.L a0).drop a1.toNat)).2 : Int)) else none
theorem pavaneref07_Next.mono : ∀ a0 a1 k, LeO (pavaneref07_Next.f k a0 a1) (pavaneref07_Next.f (k + 1) a0 a1) := fun _ _ _ => LeO.refl _
theorem pavaneref07_Next.calls (k : Nat) (a0 : ByteArray) (a1 : Int) (r1 : Int) (r2 : Int) (w : World) (h : pavaneref07_Next.f k a0 a1 = some (r1, r2)) :
    Calls Tryz.prog 96 #[.string a0, .int .i64 a1] w fun e w' => e = .returned (.tuple #[.int .i32 r1, .int .i64 r2]) ∧ Below w.heap.size w w' := by
  unfold pavaneref07_Next.f at h
  split at h
  · rename_i hh
    obtain ⟨h1, h2, h3⟩ := hh
    obtain ⟨p, rfl⟩ := Int.eq_ofNat_of_zero_le h2
    injection h with h
    injection h with e1 e2
    subst e1 e2
    exact YtokdclmikllepaaGreatDoor.refNext_calls a0 p w (by omega) (by omega)
  · cases h

def pavaneref07_Bad.f (k : Nat) (a0 : ByteArray) : Option Int := if a0.size ≤ 65536 then some (YtokdclmikllepaaGreatDoor.badI (YtokdclmikllepaaGreatDoor.Sp.bad (a0.size + 1) 0 (YtokdclmikllepaaGreatDoor.L a0))) else none
theorem pavaneref07_Bad.mono : ∀ a0 k, LeO (pavaneref07_Bad.f k a0) (pavaneref07_Bad.f (k + 1) a0) := fun _ _ => LeO.refl _
theorem pavaneref07_Bad.calls (k : Nat) (a0 : ByteArray) (r : Int) (w : World) (h : pavaneref07_Bad.f k a0 = some r) :
    Calls Tryz.prog 95 #[.string a0] w fun e w' => e = .returned (.int .i64 r) ∧ Below w.heap.size w w' := by
  unfold pavaneref07_Bad.f at h
  split at h
  · injection h with h
    subst h
    exact YtokdclmikllepaaGreatDoor.refBad_calls a0 w (by omega)
  · cases h

def pavaneref07_Char.f (a0 : Int) : Option Bool := some (YtokdclmikllepaaGreatDoor.Sp.isChar a0)
theorem pavaneref07_Char.calls (a0 : Int) (r : Bool) (w : World) (h : pavaneref07_Char.f a0 = some r) :
    Calls Tryz.prog 22 #[.int .i32 a0] w fun e w' => e = .returned (.bool r) ∧ Drawn0 w w' := by
  injection h with h
  subst h
  exact (YtokdclmikllepaaGreatDoor.refChar_calls a0 w).mono fun e w' hh => ⟨hh.1, drawn_same hh.2⟩

def pavaneref08_White.f (a0 : Int) : Option Bool := if 0 ≤ a0 ∧ a0 < 256 then some (YtokdclmikllepaaGreatDoor.Sp.white (UInt8.ofNat a0.toNat)) else none
theorem pavaneref08_White.calls (a0 : Int) (r : Bool) (w : World) (h : pavaneref08_White.f a0 = some r) :
    Calls Tryz.prog 53 #[.int .u8 a0] w fun e w' => e = .returned (.bool r) ∧ Drawn0 w w' := by
  unfold pavaneref08_White.f at h
  split at h
  · rename_i hh
    injection h with h
    subst h
    have e : ((UInt8.ofNat a0.toNat).toNat : Int) = a0 := by simp; omega
    have := (YtokdclmikllepaaGreatDoor.refWhite_calls (UInt8.ofNat a0.toNat) w).mono (fun e w' (hh : _ ∧ _) => (⟨hh.1, drawn_same hh.2⟩ : e = .returned (.bool (YtokdclmikllepaaGreatDoor.Sp.white (UInt8.ofNat a0.toNat))) ∧ Drawn0 w w'))
    rw [e] at this
    exact this
  · cases h

def pavaneref08_at.f (a0 : ByteArray) (a1 : Int) (a2 : ByteArray) : Option Bool :=
  if a0.size ≤ 65536 ∧ 0 ≤ a1 ∧ a1 ≤ (a0.size : Int) ∧ a2.size ≤ 1000 then some ((YtokdclmikllepaaGreatDoor.L a2).isPrefixOf ((YtokdclmikllepaaGreatDoor.L a0).drop a1.toNat)) else none
theorem pavaneref08_at.calls (a0 : ByteArray) (a1 : Int) (a2 : ByteArray) (r : Bool) (w : World) (h : pavaneref08_at.f a0 a1 a2 = some r) :
    Calls Tryz.prog 52 #[.string a0, .int .i64 a1, .string a2] w fun e w' => e = .returned (.bool r) ∧ Drawn0 w w' := by
  unfold pavaneref08_at.f at h
  split at h
  · rename_i hh
    obtain ⟨h1, h2, h3, h4⟩ := hh
    obtain ⟨p, rfl⟩ := Int.eq_ofNat_of_zero_le h2
    injection h with h
    subst h
    exact (YtokdclmikllepaaGreatDoor.refAt_calls a0 a2 p w (by omega) (by omega) (by omega)).mono fun e w' hh => ⟨hh.1, drawn_same hh.2⟩
  · cases h

def pavaneref08_blanks.f (k : Nat) (a0 : ByteArray) (a1 : Int) : Option Int :=
  if a0.size ≤ 65536 ∧ 0 ≤ a1 ∧ a1 ≤ (a0.size : Int) then some (YtokdclmikllepaaGreatDoor.bl a0 a1.toNat : Int) else none
theorem pavaneref08_blanks.mono : ∀ a0 a1 k, LeO (pavaneref08_blanks.f k a0 a1) (pavaneref08_blanks.f (k + 1) a0 a1) := fun _ _ _ => LeO.refl _
theorem pavaneref08_blanks.calls (k : Nat) (a0 : ByteArray) (a1 : Int) (r : Int) (w : World) (h : pavaneref08_blanks.f k a0 a1 = some r) :
    Calls Tryz.prog 99 #[.string a0, .int .i64 a1] w fun e w' => e = .returned (.int .i64 r) ∧ Drawn0 w w' := by
  unfold pavaneref08_blanks.f at h
  split at h
  · rename_i hh
    obtain ⟨h1, h2, h3⟩ := hh
    obtain ⟨p, rfl⟩ := Int.eq_ofNat_of_zero_le h2
    injection h with h
    subst h
    exact (YtokdclmikllepaaGreatDoor.refBlanks_calls a0 p w (by omega) (by omega)).mono fun e w' hh => ⟨hh.1, drawn_same hh.2⟩
  · cases h

def pavaneref08_find.f (k : Nat) (a0 : ByteArray) (a1 : Int) (a2 : ByteArray) : Option Int :=
  if a0.size ≤ 65536 ∧ 0 ≤ a1 ∧ a1 ≤ (a0.size : Int) ∧ a2.size ≤ 1000 ∧ 0 < a2.size then some (YtokdclmikllepaaGreatDoor.findAt a0 a2 a1.toNat) else none
theorem pavaneref08_find.mono : ∀ a0 a1 a2 k, LeO (pavaneref08_find.f k a0 a1 a2) (pavaneref08_find.f (k + 1) a0 a1 a2) := fun _ _ _ _ => LeO.refl _
theorem pavaneref08_find.calls (k : Nat) (a0 : ByteArray) (a1 : Int) (a2 : ByteArray) (r : Int) (w : World) (h : pavaneref08_find.f k a0 a1 a2 = some r) :
    Calls Tryz.prog 54 #[.string a0, .int .i64 a1, .string a2] w fun e w' => e = .returned (.int .i64 r) ∧ Drawn0 w w' := by
  unfold pavaneref08_find.f at h
  split at h
  · rename_i hh
    obtain ⟨h1, h2, h3, h4, h5⟩ := hh
    obtain ⟨p, rfl⟩ := Int.eq_ofNat_of_zero_le h2
    injection h with h
    subst h
    exact (YtokdclmikllepaaGreatDoor.refFind_calls a0 a2 p w (by omega) (by omega) (by omega) h5).mono fun e w' hh => ⟨hh.1, drawn_same hh.2⟩
  · cases h

def pavaneref08_name.f (k : Nat) (a0 : ByteArray) (a1 : Int) : Option Int :=
  if a0.size ≤ 65536 ∧ 0 ≤ a1 ∧ a1 ≤ (a0.size : Int) then some (YtokdclmikllepaaGreatDoor.nm (a0.size - a1.toNat + 1) true a0 a1.toNat : Int) else none
theorem pavaneref08_name.mono : ∀ a0 a1 k, LeO (pavaneref08_name.f k a0 a1) (pavaneref08_name.f (k + 1) a0 a1) := fun _ _ _ => LeO.refl _
theorem pavaneref08_name.calls (k : Nat) (a0 : ByteArray) (a1 : Int) (r : Int) (w : World) (h : pavaneref08_name.f k a0 a1 = some r) :
    Calls Tryz.prog 97 #[.string a0, .int .i64 a1] w fun e w' => e = .returned (.int .i64 r) ∧ Below w.heap.size w w' := by
  unfold pavaneref08_name.f at h
  split at h
  · rename_i hh
    obtain ⟨h1, h2, h3⟩ := hh
    obtain ⟨p, rfl⟩ := Int.eq_ofNat_of_zero_le h2
    injection h with h
    subst h
    exact YtokdclmikllepaaGreatDoor.refName_calls a0 p w (by omega) (by omega)
  · cases h

def pavaneref08_missing.f (a0 : ByteArray) (a1 : Int) (a2 : Int) : Option (Int × Int) :=
  if a0.size ≤ 65536 ∧ 0 ≤ a1 ∧ 0 ≤ a2 then some (((YtokdclmikllepaaGreatDoor.Sp.stop a1.toNat a2.toNat ((YtokdclmikllepaaGreatDoor.L a0).drop a2.toNat)).1 : Int), ((YtokdclmikllepaaGreatDoor.Sp.stop a1.toNat a2.toNat ((YtokdclmikllepaaGreatDoor.L a0).drop a2.toNat)).2 : Int)) else none
theorem pavaneref08_missing.calls (a0 : ByteArray) (a1 : Int) (a2 : Int) (r1 : Int) (r2 : Int) (w : World) (h : pavaneref08_missing.f a0 a1 a2 = some (r1, r2)) :
    Calls Tryz.prog 98 #[.string a0, .int .i64 a1, .int .i64 a2] w fun e w' => e = .returned (.agg #[.int .i64 r1, .int .i64 r2]) ∧ Below w.heap.size w w' := by
  unfold pavaneref08_missing.f at h
  split at h
  · rename_i hh
    obtain ⟨h1, h2, h3⟩ := hh
    obtain ⟨fr, rfl⟩ := Int.eq_ofNat_of_zero_le h2
    obtain ⟨p, rfl⟩ := Int.eq_ofNat_of_zero_le h3
    injection h with h
    injection h with e1 e2
    subst e1 e2
    exact YtokdclmikllepaaGreatDoor.refMissing_calls a0 fr p w (by omega)
  · cases h

def pavaneref08_flat.f (k : Nat) (a0 : ByteArray) (a1 : Bool) : Option (List Int) := if a0.size ≤ 65536 then some ((YtokdclmikllepaaGreatDoor.Sp.flat a1 (YtokdclmikllepaaGreatDoor.L a0)).map fun x => (x.toNat : Int)) else none
theorem pavaneref08_flat.mono : ∀ a0 a1 k, LeO (pavaneref08_flat.f k a0 a1) (pavaneref08_flat.f (k + 1) a0 a1) := fun _ _ _ => LeO.refl _
theorem pavaneref08_flat.calls (k : Nat) (a0 : ByteArray) (a1 : Bool) (r : List Int) (w : World) (h : pavaneref08_flat.f k a0 a1 = some r) :
    Calls Tryz.prog 55 #[.string a0, .bool a1] w fun e w' => ∃ v0_ : Value, e = .returned (v0_) ∧ Kd.R (Kd.int .u8) 5 w' w.heap.size (fun _ => True) v0_ r ∧ Below w.heap.size w w' := by
  unfold pavaneref08_flat.f at h
  split at h
  · injection h with h
    subst h
    refine (YtokdclmikllepaaGreatDoor.refFlat_calls a0 a1 w (by omega)).mono ?_
    rintro e w' ⟨v, rfl, ho, hb⟩
    refine ⟨v, rfl, Kd.R_of_own ?_ (fun _ _ => trivial), hb⟩
    rw [List.length_map]
    unfold YtokdclmikllepaaGreatDoor.OwnB YtokdclmikllepaaGreatDoor.byteVals at ho
    unfold encs
    rw [List.map_map]
    exact ho
  · cases h

def pavaneref08_text.f (k : Nat) (a0 : ByteArray) (a1 : Int) (a2 : Int) (a3 : Bool) : Option (ByteArray × Int × Int × Int) :=
  if a0.size ≤ 65536 ∧ 0 ≤ a1 ∧ a1 ≤ (a0.size : Int) ∧ 0 ≤ a2 ∧ a2 < 256 ∧ a2 ≠ 38 then
    match YtokdclmikllepaaGreatDoor.Sp.text (UInt8.ofNat a2.toNat) a3 0 (a0.size - a1.toNat + 1) a1.toNat ((YtokdclmikllepaaGreatDoor.L a0).drop a1.toNat) [] 0 with
    | .ok (t, n) => some (⟨t.toArray⟩, ((a1.toNat + n : Nat) : Int), 0, 0)
    | .error f => some (⟨#[]⟩, (f.1 : Int), (f.1 : Int), (f.2 : Int))
  else none
theorem pavaneref08_text.mono : ∀ a0 a1 a2 a3 k, LeO (pavaneref08_text.f k a0 a1 a2 a3) (pavaneref08_text.f (k + 1) a0 a1 a2 a3) := fun _ _ _ _ _ => LeO.refl _
theorem pavaneref08_text.calls (k : Nat) (a0 : ByteArray) (a1 : Int) (a2 : Int) (a3 : Bool) (r1 : ByteArray) (r2 : Int) (r3 : Int) (r4 : Int) (w : World) (h : pavaneref08_text.f k a0 a1 a2 a3 = some (r1, r2, r3, r4)) :
    Calls Tryz.prog 58 #[.string a0, .int .i64 a1, .int .u8 a2, .bool a3] w fun e w' => e = .returned (.tuple #[.string r1, .int .i64 r2, .agg #[.int .i64 r3, .int .i64 r4]]) ∧ Below w.heap.size w w' := by
  unfold pavaneref08_text.f at h
  split at h
  · rename_i hh
    obtain ⟨h1, h2, h3, h4, h5, h6⟩ := hh
    obtain ⟨p, rfl⟩ := Int.eq_ofNat_of_zero_le h2
    obtain ⟨e, rfl⟩ := Int.eq_ofNat_of_zero_le h4
    have he : (UInt8.ofNat e).toNat = e := by simp; omega
    have := YtokdclmikllepaaGreatDoor.refText_calls a0 p 0 (UInt8.ofNat e) a3 w (by omega) (by omega) (fun hq => by
      have := congrArg UInt8.toNat hq
      rw [he] at this
      exact h6 (by rw [this]; rfl))
    rw [he] at this
    refine this.mono ?_
    simp only [Int.toNat_natCast] at h
    intro e' w' hR
    unfold YtokdclmikllepaaGreatDoor.RTextEnd at hR
    cases hT : YtokdclmikllepaaGreatDoor.Sp.text (UInt8.ofNat e) a3 0 (a0.size - p + 1) p ((YtokdclmikllepaaGreatDoor.L a0).drop p) [] 0 with
    | ok r =>
      obtain ⟨t, n⟩ := r
      rw [hT] at hR h
      simp only at hR h
      injection h with h
      simp only [Prod.mk.injEq] at h
      obtain ⟨rfl, rfl, rfl, rfl⟩ := h
      exact hR
    | error f =>
      rw [hT] at hR h
      simp only at hR h
      injection h with h
      simp only [Prod.mk.injEq] at h
      obtain ⟨rfl, rfl, rfl, rfl⟩ := h
      exact hR
  · cases h
end Go.Proofs.YtokdclmikllepaaGreatDoorP
