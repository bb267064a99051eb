import Derived.Test.YtokdclmikllepaaDoorTe
namespace Go.Proofs.YtokdclmikllepaaDoor
open Go.RowKit
set_option linter.unusedVariables false
set_option linter.unusedSimpArgs false

/-- What a piece's reader leaves, if it ends well. -/
def Pieced (g : Nat) (s : ByteArray) (p q : Nat) (out : Value) (ms : List Sp.Mk) (B : Nat) (w w' : World) : Prop :=
  ∃ v', Rd w' g s q p v' ∧ MksAt B w' v' ms ∧ Keep g out.ownBlock w w'
/-- How the reader of a piece ends. -/
def PieceEnd (g : Nat) (s : ByteArray) (p : Nat) (out : Value) (ms : List Sp.Mk) (B : Nat) (R : Except Sp.Flt (List Sp.Mk × Nat)) (w : World) (e : Ending) (w' : World) : Prop :=
  match R with
  | .error f => e = pan f ∧ Keep g out.ownBlock w w'
  | .ok (l, n) => e = .returned (.tuple #[]) ∧ Pieced g s p (p + n) out (ms ++ l) B w w'

theorem put_tells (s t : ByteArray) (l : List UInt8) (hl : L t = l) (g q p : Nat) (out : Value) (ms : List Sp.Mk) (B : Nat) (w : World) (hr : Rd w g s q p out) (hB : B ≤ w.heap.size) (hms : MksAt B w out ms) (hn : ms.length < 65537) :
    Calls Tryd.prog 26 #[.pointer (some ⟨g, 0, none⟩), .string t] w fun e w' => e = .returned (.tuple #[]) ∧ Pieced g s p q out (ms ++ Sp.tell l p) B w w' := by
  subst hl
  by_cases h : L t = []
  · refine (rput_none t g w h).mono ?_
    rintro e w' ⟨rfl, rfl⟩
    refine ⟨rfl, out, hr, ?_, Keep.of_only (Only.refl g w) _⟩
    rw [Sp.tell, if_pos h, List.append_nil]
    exact hms
  · refine (rput_calls s t g q p out ms B w hr hB hms h hn).mono ?_
    rintro e w' ⟨rfl, v, h1, h2, h3⟩
    refine ⟨rfl, v, h1, ?_, h3⟩
    rw [Sp.tell, if_neg h]
    exact h2

theorem L_lit3 (a b c : UInt8) : L ⟨#[a, b, c]⟩ = [a, b, c] := rfl

set_option maxHeartbeats 2000000 in
set_option maxRecDepth 100000 in
theorem comment_calls (s : ByteArray) (g p : Nat) (out : Value) (ms : List Sp.Mk) (B : Nat) (w : World) (hG : Gl w) (hr : Rd w g s p p out) (hs : s.size ≤ 65536) (hp : p + 4 ≤ s.size) (hms : MksAt B w out ms)
    (R : Except Sp.Flt (List Sp.Mk × Nat)) (hR : (match Sp.find [45, 45, 62] (((L s).drop p).drop 4) with | none => Except.error (p, 84) | some i => .ok ([], 4 + i + 3)) = R) :
    Calls Tryd.prog 18 #[.pointer (some ⟨g, 0, none⟩)] w (PieceEnd g s p out ms B R w) := by
  obtain ⟨m, hm⟩ := hG.mx
  rw [List.drop_drop] at hR
  cases hf : Sp.find [45, 45, 62] ((L s).drop (p + 4)) with
  | none =>
    rw [hf] at hR
    simp only at hR
    subst hR
    have HF := Lib.hid hf
    clear hf
    go_enter Tryd.func18, Tryd.ntmps18
    go_wp2_with fail
    refine (until_miss s ⟨#[45, 45, 62]⟩ 4 g p p out _ m hm hr hs hp HF.out).mono ?_
    rintro e w' ⟨he, n, rfl⟩
    unfold pan at he
    subst he
    go_wp2_with fail
    exact ⟨rfl, rfl, Keep.of_only ((Only.refl g w).drewN n) _⟩
  | some i =>
    rw [hf] at hR
    simp only at hR
    subst hR
    have HF := Lib.hid hf
    clear hf
    go_enter Tryd.func18, Tryd.ntmps18
    go_wp2_with fail
    refine (until_hit s ⟨#[45, 45, 62]⟩ 4 i g p p out _ m hm hr hs hp (by decide) HF.out).mono ?_
    rintro e w' ⟨rfl, ho, hr2⟩
    go_wp2_with fail
    go_end0
    refine ⟨rfl, out, ?_, ?_, Keep.of_only ho _⟩
    · have : p + (4 + i + 3) = p + 4 + i + 3 := by omega
      rw [this]; exact hr2
    · rw [List.append_nil]; exact hms.only hr ho

set_option maxHeartbeats 2000000 in
set_option maxRecDepth 100000 in
theorem cdata_calls (s : ByteArray) (g p : Nat) (out : Value) (ms : List Sp.Mk) (B : Nat) (w : World) (hG : Gl w) (hr : Rd w g s p p out) (hs : s.size ≤ 65536) (hp : p + 9 ≤ s.size) (hB : B ≤ w.heap.size) (hms : MksAt B w out ms) (hn : ms.length < 65537)
    (R : Except Sp.Flt (List Sp.Mk × Nat)) (hR : (match Sp.find [93, 93, 62] (((L s).drop p).drop 9) with | none => Except.error (p, 84) | some i => .ok (Sp.tell (Sp.lines ((((L s).drop p).drop 9).take i)) p, 9 + i + 3)) = R) :
    Calls Tryd.prog 19 #[.pointer (some ⟨g, 0, none⟩)] w (PieceEnd g s p out ms B R w) := by
  obtain ⟨m, hm⟩ := hG.mx
  rw [List.drop_drop] at hR
  cases hf : Sp.find [93, 93, 62] ((L s).drop (p + 9)) with
  | none =>
    rw [hf] at hR
    simp only at hR
    subst hR
    have HF := Lib.hid hf
    clear hf
    go_enter Tryd.func19, Tryd.ntmps19
    go_wp2_with fail
    refine (until_miss s ⟨#[93, 93, 62]⟩ 9 g p p out _ m hm hr hs hp HF.out).mono ?_
    rintro e w' ⟨he, n, rfl⟩
    unfold pan at he
    subst he
    go_wp2_with fail
    exact ⟨rfl, rfl, Keep.of_only ((Only.refl g w).drewN n) _⟩
  | some i =>
    rw [hf] at hR
    simp only at hR
    subst hR
    have hle := find_le _ _ _ hf
    rw [List.length_drop, L_length] at hle
    simp only [List.length_cons, List.length_nil] at hle
    have hex : L (s.extract (p + 9) (p + 9 + i)) = ((L s).drop (p + 9)).take i := by
      rw [L_extract]; congr 1; omega
    have hsz : (s.extract (p + 9) (p + 9 + i)).size ≤ 65536 := by
      rw [← L_length, hex, List.length_take]; omega
    have HF := Lib.hid hf
    have HX := Lib.hid hex
    have HM := Lib.hid hms
    clear hf hex hms
    go_enter Tryd.func19, Tryd.ntmps19
    go_wp2_with fail
    refine (until_hit s ⟨#[93, 93, 62]⟩ 9 i g p p out _ m hm hr hs hp (by decide) HF.out).mono ?_
    rintro e w1 ⟨rfl, ho, hr2⟩
    have hm1 := HM.out.only hr ho
    obtain ⟨m1, hmx1⟩ := (hG.only hr.1 ho).mx
    have HO := Lib.hid ho
    have HR2 := Lib.hid hr2
    have HM1 := Lib.hid hm1
    clear ho hr2 hm1 hm
    go_wp2_with fail
    refine (lines_calls _ _ m1 hmx1 hsz).mono ?_
    rintro e w2 ⟨rfl, hbl⟩
    have HM2 := Lib.hid (HM1.out.below hbl)
    have HO2 := Lib.hid (HO.out.trans ((Only.refl g w1).belowB hbl))
    have HR3 := Lib.hid (HR2.out.belowB hbl HR2.out.lt)
    clear hbl hmx1
    go_wp2_with fail
    refine (put_tells s _ _ (L_mk _) g _ p out ms B _ HR3.out (Nat.le_trans hB HO2.out.size) HM2.out hn).mono ?_
    rintro e w3 ⟨rfl, v, h1, h2, h3⟩
    go_wp2_with fail
    go_end0
    refine ⟨rfl, v, ?_, ?_, (Keep.of_only HO2.out _).trans h3⟩
    · have : p + (9 + i + 3) = p + 9 + i + 3 := by omega
      rw [this]; exact h1
    · rw [← HX.out]; exact h2

set_option maxHeartbeats 2000000 in
set_option maxRecDepth 100000 in
theorem plain_calls (s : ByteArray) (g p : Nat) (out : Value) (ms : List Sp.Mk) (B : Nat) (w : World) (hG : Gl w) (hr : Rd w g s p p out) (hs : s.size ≤ 65536) (hp : p ≤ s.size) (hB : B ≤ w.heap.size) (hms : MksAt B w out ms) (hn : ms.length < 65537)
    (R : Except Sp.Flt (List Sp.Mk × Nat)) (hR : (Sp.text 60 false p (((L s).drop p).length + 1) p ((L s).drop p) [] 0).map (fun r => (Sp.tell r.1 p, r.2)) = R) :
    Calls Tryd.prog 22 #[.pointer (some ⟨g, 0, none⟩)] w (PieceEnd g s p out ms B R w) := by
  rw [List.length_drop, L_length] at hR
  have hc := text_lines s g p p out w hG hr hs hp
  cases ht : Sp.text 60 false p (s.size - p + 1) p ((L s).drop p) [] 0 with
  | error f =>
    rw [ht] at hR hc
    have hR : Except.error f = R := hR
    subst hR
    have HC := Lib.hid hc
    clear ht hc
    go_enter Tryd.func22, Tryd.ntmps22
    go_wp2_with fail
    refine HC.out.mono ?_
    rintro e w' ⟨ho, he⟩
    have he : e = pan f := he
    unfold pan at he
    subst he
    go_wp2_with fail
    exact ⟨rfl, rfl, Keep.of_only ho _⟩
  | ok r =>
    obtain ⟨t, n⟩ := r
    rw [ht] at hR hc
    have hR : Except.ok (Sp.tell t p, n) = R := hR
    subst hR
    have HC := Lib.hid hc
    have HM := Lib.hid hms
    clear ht hc hms
    go_enter Tryd.func22, Tryd.ntmps22
    go_wp2_with fail
    refine HC.out.mono ?_
    rintro e w1 ⟨ho, he⟩
    have he : (if false = false then e = .returned (.string ⟨t.toArray⟩) ∧ Rd w1 g s (p + n) p out else _) := he
    rw [if_pos rfl] at he
    obtain ⟨rfl, hr2⟩ := he
    have HM2 := Lib.hid (HM.out.only hr ho)
    have HO := Lib.hid ho
    have HR2 := Lib.hid hr2
    clear ho hr2
    go_wp2_with fail
    refine (put_tells s _ _ (L_mk _) g _ p out ms B _ HR2.out (Nat.le_trans hB HO.out.size) HM2.out hn).mono ?_
    rintro e w3 ⟨rfl, v, h1, h2, h3⟩
    go_wp2_with fail
    go_end0
    exact ⟨rfl, v, h1, h2, (Keep.of_only HO.out _).trans h3⟩
end Go.Proofs.YtokdclmikllepaaDoor
