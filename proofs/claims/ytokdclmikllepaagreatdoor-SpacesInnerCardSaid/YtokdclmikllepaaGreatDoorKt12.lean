import Derived.Test.YtokdclmikllepaaGreatDoorKt11
import Derived.Test.YtokdclmikllepaaGreatDoorKt8
namespace Go.Proofs.YtokdclmikllepaaGreatDoor
open Go.RowKit
set_option linter.unusedVariables false
set_option linter.unusedSimpArgs false

/-- What a piece's reader leaves, if it ends well. -/
def Pieced (g : Nat) (s : ByteArray) (p q : Nat) (out : Value) (ms : List Sp.Mk) (B : Nat) (w w' : World) : Prop :=
  ∃ v', Rd w' g s q p v' ∧ MksAt B w' v' ms ∧ Keep g out.ownBlock w w'
/-- How the reader of a piece ends. -/
def PieceEnd (g : Nat) (s : ByteArray) (p : Nat) (out : Value) (ms : List Sp.Mk) (B : Nat) (R : Except Sp.Flt (List Sp.Mk × Nat)) (w : World) (e : Ending) (w' : World) : Prop :=
  match R with
  | .error f => e = pan f ∧ Keep g out.ownBlock w w'
  | .ok (l, n) => e = .returned (.tuple #[]) ∧ Pieced g s p (p + n) out (ms ++ l) B w w'

theorem put_tells (s t : ByteArray) (l : List UInt8) (hl : L t = l) (g q p : Nat) (out : Value) (ms : List Sp.Mk) (B : Nat) (w : World) (hr : Rd w g s q p out) (hB : B ≤ w.heap.size) (hms : MksAt B w out ms) (hn : ms.length < 65537) :
    Calls Tryz.prog 120 #[.pointer (some ⟨g, 0, none⟩), .string t] w fun e w' => e = .returned (.tuple #[]) ∧ Pieced g s p q out (ms ++ Sp.tell l p) B w w' := by
  subst hl
  by_cases h : L t = []
  · refine (rput_none t g w h).mono ?_
    rintro e w' ⟨rfl, rfl⟩
    refine ⟨rfl, out, hr, ?_, Keep.of_only (Only.refl g w) _⟩
    rw [Sp.tell, if_pos h, List.append_nil]
    exact hms
  · refine (rput_calls s t g q p out ms B w hr hB hms h hn).mono ?_
    rintro e w' ⟨rfl, v, h1, h2, h3⟩
    refine ⟨rfl, v, h1, ?_, h3⟩
    rw [Sp.tell, if_neg h]
    exact h2

set_option maxHeartbeats 2000000 in
set_option maxRecDepth 100000 in
theorem comment_calls (s : ByteArray) (g p : Nat) (out : Value) (ms : List Sp.Mk) (B : Nat) (w : World) (hG : Gl w) (hr : Rd w g s p p out) (hs : s.size ≤ 65536) (hp : p + 4 ≤ s.size) (hms : MksAt B w out ms)
    (R : Except Sp.Flt (List Sp.Mk × Nat)) (hR : (match Sp.find [45, 45, 62] (((L s).drop p).drop 4) with | none => Except.error (p, 84) | some i => .ok ([], 4 + i + 3)) = R) :
    Calls Tryz.prog 90 #[.pointer (some ⟨g, 0, none⟩)] w (PieceEnd g s p out ms B R w) := by
  obtain ⟨m, hm⟩ := hG.mx
  rw [List.drop_drop] at hR
  cases hf : Sp.find [45, 45, 62] ((L s).drop (p + 4)) with
  | none =>
    rw [hf] at hR
    simp only at hR
    subst hR
    have HF := Lib.hid hf
    clear hf
    go_enter Tryz.func90, Tryz.ntmps90
    go_wp2_with fail
    refine (until_miss s ⟨#[45, 45, 62]⟩ 4 g p p out _ m hm hr hs hp HF.out).mono ?_
    rintro e w' ⟨he, n, rfl⟩
    unfold pan at he
    subst he
    go_wp2_with fail
    exact ⟨rfl, rfl, Keep.of_only ((Only.refl g w).drewN n) _⟩
  | some i =>
    rw [hf] at hR
    simp only at hR
    subst hR
    have HF := Lib.hid hf
    clear hf
    go_enter Tryz.func90, Tryz.ntmps90
    go_wp2_with fail
    refine (until_hit s ⟨#[45, 45, 62]⟩ 4 i g p p out _ m hm hr hs hp (by decide) HF.out).mono ?_
    rintro e w' ⟨rfl, ho, hr2⟩
    go_wp2_with fail
    go_end0
    refine ⟨rfl, out, ?_, ?_, Keep.of_only ho _⟩
    · have : p + (4 + i + 3) = p + 4 + i + 3 := by omega
      rw [this]; exact hr2
    · rw [List.append_nil]; exact hms.only hr ho

set_option maxHeartbeats 2000000 in
set_option maxRecDepth 100000 in
theorem cdata_calls (s : ByteArray) (g p : Nat) (out : Value) (ms : List Sp.Mk) (B : Nat) (w : World) (hG : Gl w) (hr : Rd w g s p p out) (hs : s.size ≤ 65536) (hp : p + 9 ≤ s.size) (hB : B ≤ w.heap.size) (hms : MksAt B w out ms) (hn : ms.length < 65537)
    (R : Except Sp.Flt (List Sp.Mk × Nat)) (hR : (match Sp.find [93, 93, 62] (((L s).drop p).drop 9) with | none => Except.error (p, 84) | some i => .ok (Sp.tell (Sp.lines ((((L s).drop p).drop 9).take i)) p, 9 + i + 3)) = R) :
    Calls Tryz.prog 91 #[.pointer (some ⟨g, 0, none⟩)] w (PieceEnd g s p out ms B R w) := by
  obtain ⟨m, hm⟩ := hG.mx
  rw [List.drop_drop] at hR
  cases hf : Sp.find [93, 93, 62] ((L s).drop (p + 9)) with
  | none =>
    rw [hf] at hR
    simp only at hR
    subst hR
    have HF := Lib.hid hf
    clear hf
    go_enter Tryz.func91, Tryz.ntmps91
    go_wp2_with fail
    refine (until_miss s ⟨#[93, 93, 62]⟩ 9 g p p out _ m hm hr hs hp HF.out).mono ?_
    rintro e w' ⟨he, n, rfl⟩
    unfold pan at he
    subst he
    go_wp2_with fail
    exact ⟨rfl, rfl, Keep.of_only ((Only.refl g w).drewN n) _⟩
  | some i =>
    rw [hf] at hR
    simp only at hR
    subst hR
    have hle := find_le _ _ _ hf
    rw [List.length_drop, L_length] at hle
    simp only [List.length_cons, List.length_nil] at hle
    have hex : L (s.extract (p + 9) (p + 9 + i)) = ((L s).drop (p + 9)).take i := by
      rw [L_extract]; congr 1; omega
    have hsz : (s.extract (p + 9) (p + 9 + i)).size ≤ 65536 := by
      rw [← L_length, hex, List.length_take]; omega
    have HF := Lib.hid hf
    have HX := Lib.hid hex
    have HM := Lib.hid hms
    clear hf hex hms
    go_enter Tryz.func91, Tryz.ntmps91
    go_wp2_with fail
    refine (until_hit s ⟨#[93, 93, 62]⟩ 9 i g p p out _ m hm hr hs hp (by decide) HF.out).mono ?_
    rintro e w1 ⟨rfl, ho, hr2⟩
    have hm1 := HM.out.only hr ho
    obtain ⟨m1, hmx1⟩ := (hG.only hr.1 ho).mx
    have HO := Lib.hid ho
    have HR2 := Lib.hid hr2
    have HM1 := Lib.hid hm1
    clear ho hr2 hm1 hm
    go_wp2_with fail
    refine (lines_calls _ _ m1 hmx1 hsz).mono ?_
    rintro e w2 ⟨rfl, hbl⟩
    have HM2 := Lib.hid (HM1.out.below hbl)
    have HO2 := Lib.hid (HO.out.trans ((Only.refl g w1).belowB hbl))
    have HR3 := Lib.hid (HR2.out.belowB hbl HR2.out.lt)
    clear hbl hmx1
    go_wp2_with fail
    refine (put_tells s _ _ (L_mk _) g _ p out ms B _ HR3.out (Nat.le_trans hB HO2.out.size) HM2.out hn).mono ?_
    rintro e w3 ⟨rfl, v, h1, h2, h3⟩
    go_wp2_with fail
    go_end0
    refine ⟨rfl, v, ?_, ?_, (Keep.of_only HO2.out _).trans h3⟩
    · have : p + (9 + i + 3) = p + 9 + i + 3 := by omega
      rw [this]; exact h1
    · rw [← HX.out]; exact h2

set_option maxHeartbeats 2000000 in
set_option maxRecDepth 100000 in
theorem plain_calls (s : ByteArray) (g p : Nat) (out : Value) (ms : List Sp.Mk) (B : Nat) (w : World) (hG : Gl w) (hr : Rd w g s p p out) (hs : s.size ≤ 65536) (hp : p ≤ s.size) (hB : B ≤ w.heap.size) (hms : MksAt B w out ms) (hn : ms.length < 65537)
    (R : Except Sp.Flt (List Sp.Mk × Nat)) (hR : (Sp.text 60 false p (((L s).drop p).length + 1) p ((L s).drop p) [] 0).map (fun r => (Sp.tell r.1 p, r.2)) = R) :
    Calls Tryz.prog 94 #[.pointer (some ⟨g, 0, none⟩)] w (PieceEnd g s p out ms B R w) := by
  rw [List.length_drop, L_length] at hR
  have hc := text_lines s g p p out w hG hr hs hp
  cases ht : Sp.text 60 false p (s.size - p + 1) p ((L s).drop p) [] 0 with
  | error f =>
    rw [ht] at hR hc
    have hR : Except.error f = R := hR
    subst hR
    have HC := Lib.hid hc
    clear ht hc
    go_enter Tryz.func94, Tryz.ntmps94
    go_wp2_with fail
    refine HC.out.mono ?_
    rintro e w' ⟨ho, he⟩
    have he : e = pan f := he
    unfold pan at he
    subst he
    go_wp2_with fail
    exact ⟨rfl, rfl, Keep.of_only ho _⟩
  | ok r =>
    obtain ⟨t, n⟩ := r
    rw [ht] at hR hc
    have hR : Except.ok (Sp.tell t p, n) = R := hR
    subst hR
    have HC := Lib.hid hc
    have HM := Lib.hid hms
    clear ht hc hms
    go_enter Tryz.func94, Tryz.ntmps94
    go_wp2_with fail
    refine HC.out.mono ?_
    rintro e w1 ⟨ho, he⟩
    have he : (if false = false then e = .returned (.string ⟨t.toArray⟩) ∧ Rd w1 g s (p + n) p out else _) := he
    rw [if_pos rfl] at he
    obtain ⟨rfl, hr2⟩ := he
    have HM2 := Lib.hid (HM.out.only hr ho)
    have HO := Lib.hid ho
    have HR2 := Lib.hid hr2
    clear ho hr2
    go_wp2_with fail
    refine (put_tells s _ _ (L_mk _) g _ p out ms B _ HR2.out (Nat.le_trans hB HO.out.size) HM2.out hn).mono ?_
    rintro e w3 ⟨rfl, v, h1, h2, h3⟩
    go_wp2_with fail
    go_end0
    exact ⟨rfl, v, h1, h2, (Keep.of_only HO.out _).trans h3⟩
end Go.Proofs.YtokdclmikllepaaGreatDoor
namespace Go.Proofs.YtokdclmikllepaaGreatDoor
open Go.RowKit
set_option linter.unusedVariables false
set_option linter.unusedSimpArgs false

theorem head_cons {l : List UInt8} {c : UInt8} (h : l.head? = some c) : ∃ t, l = c :: t := by
  cases l with
  | nil => cases h
  | cons a t => exact ⟨t, by injection h with h; rw [h]⟩
theorem head_at {s : ByteArray} {u : Nat} {c : UInt8} (h : ((L s).drop u).head? = some c) : ∃ hl : u < s.size, s[u] = c := by
  by_cases hl : u < s.size
  · rw [L_drop s u hl] at h
    exact ⟨hl, by injection h⟩
  · rw [List.drop_eq_nil_of_le (by rw [L_length]; omega)] at h
    cases h
theorem closing_match (p : Nat) (l : List UInt8) (x : Sp.Mk × Nat) (f : Sp.Flt) : (l.head? = some 62 → (match l with | 62 :: _ => Except.ok x | _ => Except.error f) = .ok x) ∧ (l.head? ≠ some 62 → (match l with | 62 :: _ => Except.ok x | _ => Except.error f) = .error f) := by
  constructor
  · intro h
    obtain ⟨t, rfl⟩ := head_cons h
    rfl
  · intro h
    split
    · exact absurd rfl h
    · rfl

theorem closing_calls (s : ByteArray) (g p : Nat) (out : Value) (ms : List Sp.Mk) (B : Nat) (w : World) (hr : Rd w g s p p out) (hs : s.size ≤ 65536) (hp : p + 2 ≤ s.size) (hB : B ≤ w.heap.size) (hms : MksAt B w out ms) (hn : ms.length < 65537)
    (R : Except Sp.Flt (List Sp.Mk × Nat)) (hR : (Sp.closing p ((L s).drop p)).map (fun r => ([r.1], r.2)) = R) :
    Calls Tryz.prog 92 #[.pointer (some ⟨g, 0, none⟩)] w (PieceEnd g s p out ms B R w) := by
  have hl1 : ((L s).drop p).drop 2 = (L s).drop (p + 2) := List.drop_drop ..
  have hlen : ((L s).drop (p + 2)).length = s.size - (p + 2) := by rw [List.length_drop, L_length]
  unfold Sp.closing at hR
  simp only [hl1, hlen] at hR
  obtain ⟨n, hnn⟩ : ∃ n, Sp.nameN (s.size - (p + 2) + 1) true ((L s).drop (p + 2)) = n := ⟨_, rfl⟩
  have hnm : nm (s.size - (p + 2) + 1) true s (p + 2) = p + 2 + n := by unfold nm; rw [hnn]
  rw [hnn] at hR
  by_cases h0 : n = 0
  · subst h0
    rw [if_pos rfl] at hR
    have hR : Except.error _ = R := hR
    subst hR
    exact (closing_noname s g p out w hr hs hp hnm).mono fun e w' ⟨he, ho⟩ => ⟨he, Keep.of_only ho _⟩
  · rw [if_neg h0] at hR
    have hd : ((L s).drop (p + 2)).drop n = (L s).drop (p + 2 + n) := List.drop_drop ..
    obtain ⟨b, hb⟩ : ∃ b, Sp.blanksN ((L s).drop (p + 2 + n)) = b := ⟨_, rfl⟩
    have hbl : bl s (p + 2 + n) = p + 2 + n + b := by unfold bl; rw [hb]
    rw [hd, hb, List.drop_drop] at hR
    have hm := closing_match p ((L s).drop (p + 2 + n + b)) (⟨2, ((L s).drop (p + 2)).take n, [], false, [], p⟩, 2 + n + b + 1) (Sp.stop p (p + 2 + n + b) ((L s).drop (p + 2 + n + b)))
    by_cases hh : ((L s).drop (p + 2 + n + b)).head? = some 62
    · have := hm.1 hh
      obtain ⟨hul, hc⟩ := head_at hh
      have hR2 : Except.ok ([⟨2, ((L s).drop (p + 2)).take n, [], false, [], p⟩], 2 + n + b + 1) = R := by
        rw [← hR]
        show _ = Except.map _ (match (L s).drop (p + 2 + n + b) with | 62 :: _ => Except.ok _ | l2 => Except.error (Sp.stop p (p + 2 + n + b) l2))
        obtain ⟨t, ht⟩ := head_cons hh
        rw [ht]
        rfl
      subst hR2
      refine (closing_ok s g p out ms B _ w hr hs hB hms hn hp hnm (by omega) _ hbl hul hc).mono ?_
      rintro e w' ⟨rfl, v, h1, h2, h3⟩
      refine ⟨rfl, v, ?_, ?_, h3⟩
      · have : p + (2 + n + b + 1) = p + 2 + n + b + 1 := by omega
        rw [this]; exact h1
      · have : L (s.extract (p + 2) (p + 2 + n)) = ((L s).drop (p + 2)).take n := by rw [L_extract]; congr 1; omega
        rw [this] at h2
        exact h2
    · have hR2 : Except.error (Sp.stop p (p + 2 + n + b) ((L s).drop (p + 2 + n + b))) = R := by
        rw [← hR]
        show _ = Except.map _ (match (L s).drop (p + 2 + n + b) with | 62 :: _ => Except.ok _ | l2 => Except.error (Sp.stop p (p + 2 + n + b) l2))
        generalize (L s).drop (p + 2 + n + b) = l at hh
        split
        · exact absurd rfl hh
        · rfl
      subst hR2
      exact (closing_nowant s g p out _ w hr hs hp hnm (by omega) _ hbl hh).mono fun e w' ⟨he, ho⟩ => ⟨he, Keep.of_only ho _⟩
end Go.Proofs.YtokdclmikllepaaGreatDoor
