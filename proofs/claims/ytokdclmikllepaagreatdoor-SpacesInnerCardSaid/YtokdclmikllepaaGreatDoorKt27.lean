import Derived.Test.YtokdclmikllepaaGreatDoorKt3
import Derived.Deep.DeepCutAuto
namespace Go.Proofs.YtokdclmikllepaaGreatDoor
open Go.RowKit
set_option linter.unusedVariables false
set_option linter.unusedSimpArgs false

def byteVals (l : List UInt8) : List Value := l.map fun x => Value.int .u8 (x.toNat : Int)

/-- A row of bytes that a call made. -/
def OwnB (base : Nat) (w : World) (v : Value) (l : List UInt8) : Prop := w.ownsRow base 5 1 v l.length (byteVals l)

theorem byteVals_length (l : List UInt8) : (byteVals l).length = l.length := by simp [byteVals]

theorem byteVals_ofInt (xs : List Int) (h : ∀ x ∈ xs, 0 ≤ x ∧ x < 256) : byteVals (xs.map fun x => UInt8.ofNat x.toNat) = xs.map fun x => Value.int .u8 x := by
  simp only [byteVals, List.map_map]
  refine List.map_congr_left fun x hx => ?_
  simp only [Function.comp]
  rw [u8_of x (h x hx).1 (h x hx).2]

theorem byteVals_append (l m : List UInt8) : byteVals (l ++ m) = byteVals l ++ byteVals m := by simp [byteVals]

theorem byteVals_get (l : List UInt8) (j : Nat) (h : j < l.length) : (byteVals l)[j]? = some (.int .u8 (l[j].toNat : Int)) := by simp [byteVals, h]

theorem OwnB.nil (base : Nat) (w : World) : OwnB base w (.slice none 0 0) [] := ⟨by simp [byteVals], .inl ⟨rfl, rfl⟩⟩

theorem OwnB.made (base : Nat) (w : World) (l : List UInt8) (g : Nat) (hg : g = w.heap.size) (hb : base ≤ w.heap.size) (hm : l.length ≤ maxLen) (vs : Array Value) (hv : vs = (byteVals l).toArray) (n : Nat) (hn : n = l.length) :
    OwnB base (w.alloc (.cells vs 5)) (.slice (some ⟨g, 0, none⟩) n n) l := by
  subst hg
  subst hv
  subst hn
  refine ⟨by simp [byteVals], .inr ⟨w.heap.size, l.length, _, rfl, hb, heap_alloc_new w _, Nat.le_refl _, hm, by simp [byteVals], ?_⟩⟩
  rw [Nat.mul_one]
  exact List.take_of_length_le (by simp [byteVals])

theorem OwnB.below {base : Nat} {w w' : World} {v : Value} {l : List UInt8} (h : OwnB base w v l) (hb : Below w.heap.size w w') : OwnB base w' v l := by
  refine World.ownsRow.kept (row := none) h ⟨hb.os, hb.tape, hb.output, hb.size, fun i hi _ => hb.block i hi⟩ ?_
  cases hv : v.ownBlock <;> simp

theorem OwnB.drewN {base : Nat} {w : World} {v : Value} {l : List UInt8} (h : OwnB base w v l) (n : Nat) : OwnB base (w.drewN n) v l := h

/-- Told as a text. -/
theorem OwnB.conv {base : Nat} {w : World} {v : Value} {l : List UInt8} (h : OwnB base w v l) :
    (convert 36 9 v).run Tryz.prog w = .ok (.string ⟨l.toArray⟩) w := by
  obtain ⟨h1, h2⟩ := h
  rcases h2 with ⟨rfl, hl⟩ | ⟨g, cap, cur, rfl, hbg, hg, hnc, hcm, hcs, htake⟩
  · obtain rfl : l = [] := List.eq_nil_of_length_eq_zero hl
    exact run_convert_bytes_string w 36 9 5 none 0 0 Tryz.underlying36 Tryz.underlying5 Tryz.underlying9
  · refine run_convert_bytes_back _ 36 9 5 ⟨g, 0, none⟩ cap l Tryz.underlying36 Tryz.underlying5 Tryz.underlying9 (fun j hj => ?_)
    have : ((⟨g, 0, none⟩ : Addr).add j) = ⟨g, j, none⟩ := by unfold Addr.add; split <;> simp_all
    rw [this, cell_of_row w g j cur _ (0, 0) hg]
    have hb := byteVals_get l j hj
    rw [← htake, List.getElem?_take] at hb
    split at hb
    · simpa using hb
    · cases hb

set_option maxHeartbeats 1000000 in
set_option maxRecDepth 100000 in
theorem refRune_calls (r : Int) (w : World) :
    Calls Tryz.prog 59 #[.int .i32 r] w fun e w' => e = .returned (.bool (Sp.isRune r)) ∧ w = w' := by
  go_enter Tryz.func59, Tryz.ntmps59
  go_wp2_with fail
  all_goals
    go_ret
    refine ⟨ret_bool ?_, rfl⟩
    simp only [Sp.isRune]
    rw [Bool.eq_iff_iff]
    simp
    try omega

set_option maxHeartbeats 1000000 in
set_option maxRecDepth 100000 in
theorem refBits_calls (r a b A B : Int) (w : World) (h0 : 0 ≤ r) (h1 : r ≤ 1114111)
    (h : (a = 6 ∧ b = 5 ∧ A = 64 ∧ B = 32) ∨ (a = 0 ∧ b = 6 ∧ A = 1 ∧ B = 64) ∨ (a = 12 ∧ b = 4 ∧ A = 4096 ∧ B = 16) ∨ (a = 6 ∧ b = 6 ∧ A = 64 ∧ B = 64) ∨ (a = 18 ∧ b = 3 ∧ A = 262144 ∧ B = 8) ∨ (a = 12 ∧ b = 6 ∧ A = 4096 ∧ B = 64)) :
    Calls Tryz.prog 60 #[.int .i32 r, .int .u64 a, .int .u64 b] w fun e w' => e = .returned (.int .u8 (r / A % B)) ∧ w = w' := by
  rcases h with ⟨rfl, rfl, rfl, rfl⟩ | ⟨rfl, rfl, rfl, rfl⟩ | ⟨rfl, rfl, rfl, rfl⟩ | ⟨rfl, rfl, rfl, rfl⟩ | ⟨rfl, rfl, rfl, rfl⟩ | ⟨rfl, rfl, rfl, rfl⟩
  all_goals
    go_enter Tryz.func60, Tryz.ntmps60
    go_wp2_with fail
    go_ret
    exact ⟨ret_u8 (by first | rfl | simp), rfl⟩

set_option maxHeartbeats 2000000 in
set_option maxRecDepth 100000 in
theorem refPut_calls (r : Int) (w : World) :
    Calls Tryz.prog 23 #[.int .i32 r] w fun e w' => ∃ v, e = .returned v ∧ OwnB w.heap.size w' v (Sp.put r) ∧ Below w.heap.size w w' := by
  by_cases h : Sp.isRune r = true
  · have hr0 : 0 ≤ r := by simp [Sp.isRune] at h; omega
    have hr1 : r ≤ 1114111 := by simp [Sp.isRune] at h; omega
    have hfin : Sp.put r = (if r < 128 then [r] else if r < 2048 then [192 + r / 64, 128 + r % 64] else if r < 65536 then [224 + r / 4096, 128 + r / 64 % 64, 128 + r % 64] else [240 + r / 262144, 128 + r / 4096 % 64, 128 + r / 64 % 64, 128 + r % 64]).map fun x => UInt8.ofNat x.toNat := by
      simp only [Sp.put, Sp.putI, h, if_true]
    have HF := Lib.hid hfin
    clear hfin
    go_enter Tryz.func23, Tryz.ntmps23
    go_wp2_with (first
      | (go_at_call 59; refine (refRune_calls _ _).mono ?_; rw [h]; rintro e w' ⟨rfl, rfl⟩)
      | (go_at_call 60; refine (refBits_calls _ _ _ _ _ _ (by omega) (by omega) (by first | exact .inl ⟨rfl, rfl, rfl, rfl⟩ | exact .inr (.inl ⟨rfl, rfl, rfl, rfl⟩) | exact .inr (.inr (.inl ⟨rfl, rfl, rfl, rfl⟩)) | exact .inr (.inr (.inr (.inl ⟨rfl, rfl, rfl, rfl⟩))) | exact .inr (.inr (.inr (.inr (.inl ⟨rfl, rfl, rfl, rfl⟩)))) | exact .inr (.inr (.inr (.inr (.inr ⟨rfl, rfl, rfl, rfl⟩)))))).mono ?_; rintro e w' ⟨rfl, rfl⟩))
    all_goals
      go_ret
      refine ⟨_, rfl, OwnB.made _ _ _ _ rfl (Nat.le_refl _) ?_ _ ?_ _ ?_, (Below.refl _ _).alloc (Nat.le_refl _) _⟩
      all_goals
        rw [HF.out]
        first
          | rw [if_pos (by omega)]
          | rw [if_neg (by omega), if_pos (by omega)]
          | rw [if_neg (by omega), if_neg (by omega), if_pos (by omega)]
          | rw [if_neg (by omega), if_neg (by omega), if_neg (by omega)]
        first
          | rfl
          | (simp [maxLen]; done)
          | (rw [byteVals_ofInt _ (by intro x hx; simp at hx; omega)]
             have e1 : r / 64 % 32 = r / 64 ∨ 2048 ≤ r := by omega
             have e2 : r / 4096 % 16 = r / 4096 ∨ 65536 ≤ r := by omega
             have e3 : r / 262144 % 8 = r / 262144 := by omega
             rcases e1 with e1 | e1 <;> rcases e2 with e2 | e2 <;> first | (exfalso; omega) | rfl | (simp only [e1, e2, e3]; rfl) | (simp only [e3]; rfl) | (simp only [e2]; rfl))
  · have hf : Sp.isRune r = false := by simpa using h
    have hfin : Sp.put r = [] := by simp [Sp.put, Sp.putI, hf]
    have HF := Lib.hid hfin
    clear hfin
    go_enter Tryz.func23, Tryz.ntmps23
    go_wp2_with (go_at_call 59; refine (refRune_calls _ _).mono ?_; rw [hf]; rintro e w' ⟨rfl, rfl⟩)
    go_ret
    exact ⟨_, rfl, by rw [HF.out]; exact OwnB.nil _ _, Below.refl _ _⟩
end Go.Proofs.YtokdclmikllepaaGreatDoor
