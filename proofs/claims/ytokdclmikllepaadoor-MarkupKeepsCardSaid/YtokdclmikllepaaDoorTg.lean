import Derived.Test.YtokdclmikllepaaDoorTf
import Derived.Test.YtokdclmikllepaaDoorMkE
namespace Go.Proofs.YtokdclmikllepaaDoor
open Go.RowKit
set_option linter.unusedVariables false
set_option linter.unusedSimpArgs false

theorem head_cons {l : List UInt8} {c : UInt8} (h : l.head? = some c) : ∃ t, l = c :: t := by
  cases l with
  | nil => cases h
  | cons a t => exact ⟨t, by injection h with h; rw [h]⟩
theorem head_at {s : ByteArray} {u : Nat} {c : UInt8} (h : ((L s).drop u).head? = some c) : ∃ hl : u < s.size, s[u] = c := by
  by_cases hl : u < s.size
  · rw [L_drop s u hl] at h
    exact ⟨hl, by injection h⟩
  · rw [List.drop_eq_nil_of_le (by rw [L_length]; omega)] at h
    cases h
theorem closing_match (p : Nat) (l : List UInt8) (x : Sp.Mk × Nat) (f : Sp.Flt) : (l.head? = some 62 → (match l with | 62 :: _ => Except.ok x | _ => Except.error f) = .ok x) ∧ (l.head? ≠ some 62 → (match l with | 62 :: _ => Except.ok x | _ => Except.error f) = .error f) := by
  constructor
  · intro h
    obtain ⟨t, rfl⟩ := head_cons h
    rfl
  · intro h
    split
    · exact absurd rfl h
    · rfl

theorem closing_calls (s : ByteArray) (g p : Nat) (out : Value) (ms : List Sp.Mk) (B : Nat) (w : World) (hr : Rd w g s p p out) (hs : s.size ≤ 65536) (hp : p + 2 ≤ s.size) (hB : B ≤ w.heap.size) (hms : MksAt B w out ms) (hn : ms.length < 65537)
    (R : Except Sp.Flt (List Sp.Mk × Nat)) (hR : (Sp.closing p ((L s).drop p)).map (fun r => ([r.1], r.2)) = R) :
    Calls Tryd.prog 20 #[.pointer (some ⟨g, 0, none⟩)] w (PieceEnd g s p out ms B R w) := by
  have hl1 : ((L s).drop p).drop 2 = (L s).drop (p + 2) := List.drop_drop ..
  have hlen : ((L s).drop (p + 2)).length = s.size - (p + 2) := by rw [List.length_drop, L_length]
  unfold Sp.closing at hR
  simp only [hl1, hlen] at hR
  obtain ⟨n, hnn⟩ : ∃ n, Sp.nameN (s.size - (p + 2) + 1) true ((L s).drop (p + 2)) = n := ⟨_, rfl⟩
  have hnm : nm (s.size - (p + 2) + 1) true s (p + 2) = p + 2 + n := by unfold nm; rw [hnn]
  rw [hnn] at hR
  by_cases h0 : n = 0
  · subst h0
    rw [if_pos rfl] at hR
    have hR : Except.error _ = R := hR
    subst hR
    exact (closing_noname s g p out w hr hs hp hnm).mono fun e w' ⟨he, ho⟩ => ⟨he, Keep.of_only ho _⟩
  · rw [if_neg h0] at hR
    have hd : ((L s).drop (p + 2)).drop n = (L s).drop (p + 2 + n) := List.drop_drop ..
    obtain ⟨b, hb⟩ : ∃ b, Sp.blanksN ((L s).drop (p + 2 + n)) = b := ⟨_, rfl⟩
    have hbl : bl s (p + 2 + n) = p + 2 + n + b := by unfold bl; rw [hb]
    rw [hd, hb, List.drop_drop] at hR
    have hm := closing_match p ((L s).drop (p + 2 + n + b)) (⟨2, ((L s).drop (p + 2)).take n, [], false, [], p⟩, 2 + n + b + 1) (Sp.stop p (p + 2 + n + b) ((L s).drop (p + 2 + n + b)))
    by_cases hh : ((L s).drop (p + 2 + n + b)).head? = some 62
    · have := hm.1 hh
      obtain ⟨hul, hc⟩ := head_at hh
      have hR2 : Except.ok ([⟨2, ((L s).drop (p + 2)).take n, [], false, [], p⟩], 2 + n + b + 1) = R := by
        rw [← hR]
        show _ = Except.map _ (match (L s).drop (p + 2 + n + b) with | 62 :: _ => Except.ok _ | l2 => Except.error (Sp.stop p (p + 2 + n + b) l2))
        obtain ⟨t, ht⟩ := head_cons hh
        rw [ht]
        rfl
      subst hR2
      refine (closing_ok s g p out ms B _ w hr hs hB hms hn hp hnm (by omega) _ hbl hul hc).mono ?_
      rintro e w' ⟨rfl, v, h1, h2, h3⟩
      refine ⟨rfl, v, ?_, ?_, h3⟩
      · have : p + (2 + n + b + 1) = p + 2 + n + b + 1 := by omega
        rw [this]; exact h1
      · have : L (s.extract (p + 2) (p + 2 + n)) = ((L s).drop (p + 2)).take n := by rw [L_extract]; congr 1; omega
        rw [this] at h2
        exact h2
    · have hR2 : Except.error (Sp.stop p (p + 2 + n + b) ((L s).drop (p + 2 + n + b))) = R := by
        rw [← hR]
        show _ = Except.map _ (match (L s).drop (p + 2 + n + b) with | 62 :: _ => Except.ok _ | l2 => Except.error (Sp.stop p (p + 2 + n + b) l2))
        generalize (L s).drop (p + 2 + n + b) = l at hh
        split
        · exact absurd rfl hh
        · rfl
      subst hR2
      exact (closing_nowant s g p out _ w hr hs hp hnm (by omega) _ hbl hh).mono fun e w' ⟨he, ho⟩ => ⟨he, Keep.of_only ho _⟩
end Go.Proofs.YtokdclmikllepaaDoor
