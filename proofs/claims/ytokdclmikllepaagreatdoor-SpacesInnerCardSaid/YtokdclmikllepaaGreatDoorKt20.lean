import Derived.Test.YtokdclmikllepaaGreatDoorKt19
namespace Go.Proofs.YtokdclmikllepaaGreatDoor
open Go.RowKit
set_option linter.unusedVariables false
set_option linter.unusedSimpArgs false

theorem opening_calls (s : ByteArray) (g p : Nat) (out : Value) (ms : List Sp.Mk) (B : Nat) (w : World) (hG : Gl w) (hr : Rd w g s p p out) (hs : s.size ≤ 65536) (hp : p + 1 ≤ s.size) (hB : B ≤ w.heap.size) (hms : MksAt B w out ms) (hn : ms.length < 65537) (hU : U8 (L s))
    (R : Except Sp.Flt (List Sp.Mk × Nat)) (hR : (Sp.opening p ((L s).drop p)).map (fun r => ([r.1], r.2)) = R) :
    Calls Tryz.prog 93 #[.pointer (some ⟨g, 0, none⟩)] w (PieceEnd g s p out ms B R w) := by
  have hl1 : ((L s).drop p).drop 1 = (L s).drop (p + 1) := List.drop_drop ..
  have hlen : ((L s).drop (p + 1)).length = s.size - (p + 1) := by rw [List.length_drop, L_length]
  have hlen0 : ((L s).drop p).length = s.size - p := by rw [List.length_drop, L_length]
  unfold Sp.opening at hR
  simp only [hl1, hlen, hlen0] at hR
  obtain ⟨n, hnn⟩ : ∃ n, Sp.nameN (s.size - (p + 1) + 1) true ((L s).drop (p + 1)) = n := ⟨_, rfl⟩
  have hnm : nm (s.size - (p + 1) + 1) true s (p + 1) = p + 1 + n := by unfold nm; rw [hnn]
  rw [hnn] at hR
  by_cases h0 : n = 0
  · subst h0
    rw [if_pos rfl] at hR
    have hR : Except.error _ = R := hR
    subst hR
    exact (opening_noname s g p out w hr hs hp hnm).mono fun e w' ⟨he, ho⟩ => ⟨he, Keep.of_only ho _⟩
  · rw [if_neg h0] at hR
    have hd : ((L s).drop (p + 1)).drop n = (L s).drop (p + 1 + n) := List.drop_drop ..
    rw [hd] at hR
    obtain ⟨RA, hRA⟩ : ∃ x, Sp.attrs p (s.size - p + 1) (p + 1 + n) ((L s).drop (p + 1 + n)) [] (1 + n) = x := ⟨_, rfl⟩
    rw [hRA] at hR
    refine opening_named s g p out ms B w hG hr hs hp hB hms hn hU (p + 1 + n) hnm (by omega) RA (s.size - p + 1) (by omega) (by rw [show p + 1 + n - p = 1 + n by omega]; exact hRA) R ?_
    have hx : L (s.extract (p + 1) (p + 1 + n)) = ((L s).drop (p + 1)).take n := by rw [L_extract]; congr 1; omega
    rw [hx, ← hR]
    cases RA <;> rfl
end Go.Proofs.YtokdclmikllepaaGreatDoor
namespace Go.Proofs.YtokdclmikllepaaGreatDoor
open Go.RowKit
set_option linter.unusedVariables false
set_option linter.unusedSimpArgs false

/-- The table of kinds. -/
def kindCells : Array Value := #[.string ⟨#[60, 33, 45, 45]⟩, .func (.func 90) #[] #[], .string ⟨#[60, 33, 91, 67, 68, 65, 84, 65, 91]⟩, .func (.func 91) #[] #[],
  .string ⟨#[60, 47]⟩, .func (.func 92) #[] #[], .string ⟨#[60]⟩, .func (.func 93) #[] #[], .string ⟨#[]⟩, .func (.func 94) #[] #[]]
structure AInv (g : Nat) (s : ByteArray) (w : World) (kb p fr : Nat) (v : Value) (ms : List Sp.Mk) (W : World) : Prop where
  only : Only g w W
  rd : Rd W g s p fr v
  mks : MksAt w.heap.size W v ms
  tb : W.heap[kb]? = some (.cells kindCells 132 (0, 0))
  le : w.heap.size ≤ kb
  lt : g < w.heap.size

theorem MksAt.own {B : Nat} {w : World} {v : Value} {ms : List Sp.Mk} (h : MksAt B w v ms) : ∃ n xs, w.ownsRow B 40 6 v n xs := by
  obtain ⟨ps, _, _, h, _⟩ := h
  exact ⟨_, _, h⟩
section
variable {g : Nat} {s : ByteArray} {w : World} {kb p fr q : Nat} {v v' : Value} {ms ms' : List Sp.Mk} {W W2 : World}
theorem AInv.kb_lt (h : AInv g s w kb p fr v ms W) : kb < W.heap.size := (Array.getElem?_eq_some_iff.1 h.tb).1
theorem AInv.ne (h : AInv g s w kb p fr v ms W) : kb ≠ g := by have := h.lt; have := h.le; omega
theorem AInv.goes (h : AInv g s w kb p fr v ms W) (ho : Only g W W2) (hr : Rd W2 g s q fr v) : AInv g s w kb q fr v ms W2 :=
  ⟨h.only.trans ho, hr, h.mks.only h.rd ho, (ho.block kb h.kb_lt (fun e => by injection e with e; exact h.ne e)).trans h.tb, h.le, h.lt⟩
theorem AInv.drewN (h : AInv g s w kb p fr v ms W) (n : Nat) : AInv g s w kb p fr v ms (W.drewN n) := ⟨h.only.drewN n, h.rd.drewN n, h.mks, h.tb, h.le, h.lt⟩
theorem AInv.alloc (h : AInv g s w kb p fr v ms W) (o : Obj) : AInv g s w kb p fr v ms (W.alloc o) := h.goes ((Only.refl g W).alloc o) (h.rd.alloc o)
theorem AInv.from_ (h : AInv g s w kb p fr v ms W) (q : Nat) : AInv g s w kb p q v ms (W.setCell ⟨g, 2, none⟩ (.int .i64 q)) :=
  have ho := (Only.refl g W).set 2 (.int .i64 q)
  ⟨h.only.trans ho, h.rd.set2 q, h.mks.only h.rd ho, (ho.block kb h.kb_lt (fun e => by injection e with e; exact h.ne e)).trans h.tb, h.le, h.lt⟩
theorem AInv.keeps (h : AInv g s w kb p fr v ms W) (hk : Keep g v.ownBlock W W2) : Only g w W2 := by
  obtain ⟨n, xs, hown⟩ := h.mks.own
  exact ⟨hk.os.trans h.only.os, hk.tape.trans h.only.tape, hk.output.trans h.only.output, Nat.le_trans h.only.size hk.size, fun i hi hg =>
    (hk.block i (Nat.lt_of_lt_of_le hi h.only.size) (fun e => hg (by rw [e])) (fun e => by have := (World.ownsRow.lt hown i e.symm).1; omega)).trans (h.only.block i hi hg)⟩
theorem AInv.pieced (h : AInv g s w kb p p v ms W) (hp : Pieced g s p q v ms' w.heap.size W W2) : ∃ v', AInv g s w kb q p v' ms' W2 := by
  obtain ⟨v', h1, h2, h3⟩ := hp
  obtain ⟨n, xs, hown⟩ := h.mks.own
  exact ⟨v', h.keeps h3, h1, h2, (h3.block kb h.kb_lt h.ne (fun e => own_ne hown h.tb (by decide) e.symm)).trans h.tb, h.le, h.lt⟩
theorem AInv.cell (h : AInv g s w kb p fr v ms W) (i : Nat) (u : Value) (hu : kindCells[i]? = some u) : W.cell? ⟨kb, i, none⟩ = some u := by
  have := h.tb
  simp [World.cell?, this]
  exact hu
end

theorem pro_short {l : List UInt8} (h : l.length ≤ 5) : Sp.prolog l = .ok 0 := by
  unfold Sp.prolog
  rw [List.drop_eq_nil_of_le h]
theorem pro_no {l : List UInt8} (h : Sp.xml5.isPrefixOf l = false) : Sp.prolog l = .ok 0 := by
  unfold Sp.prolog
  split
  · rw [if_neg (by rw [h]; simp)]
  · rfl
theorem pro_nw {l : List UInt8} {c : UInt8} {t : List UInt8} (hd : l.drop 5 = c :: t) (h : Sp.white c = false) : Sp.prolog l = .ok 0 := by
  unfold Sp.prolog
  rw [hd]
  simp only
  rw [if_neg (by rw [h]; simp)]
theorem pro_yes {l : List UInt8} {c : UInt8} {t : List UInt8} (hd : l.drop 5 = c :: t) (hp : Sp.xml5.isPrefixOf l = true) (h : Sp.white c = true) :
    Sp.prolog l = match Sp.find [63, 62] (l.drop 5) with | none => .error (0, 84) | some i => .ok (5 + i + 2) := by
  unfold Sp.prolog
  rw [hd]
  simp only
  rw [if_pos ⟨hp, h⟩]
  rfl

set_option maxHeartbeats 4000000 in
set_option maxRecDepth 100000 in
theorem all_prolog_fails (s : ByteArray) (g : Nat) (w : World) (hG : Gl w) (hr : Rd w g s 0 0 (.slice none 0 0)) (hs : s.size ≤ 65536) (f : Sp.Flt) (hf : Sp.prolog (L s) = .error f) :
    Calls Tryz.prog 50 #[.pointer (some ⟨g, 0, none⟩)] w fun e w' => e = pan f ∧ Only g w w' := by
  obtain ⟨m, hm⟩ := hG.mx
  have h5 : 5 < s.size := by
    rcases Nat.lt_or_ge 5 s.size with h | h
    · exact h
    · rw [pro_short (by rw [L_length]; exact h)] at hf; cases hf
  have hd := L_drop s 5 h5
  cases hp : Sp.xml5.isPrefixOf (L s) with
  | false => rw [pro_no hp] at hf; cases hf
  | true =>
    cases hw : Sp.white s[5] with
    | false => rw [pro_nw hd hw] at hf; cases hf
    | true =>
      rw [pro_yes hd hp hw] at hf
      cases hfi : Sp.find [63, 62] ((L s).drop 5) with
      | some i => rw [hfi] at hf; cases hf
      | none =>
        rw [hfi] at hf
        injection hf with hf
        subst hf
        have HP := Lib.hid hp
        have HW := Lib.hid hw
        have HF := Lib.hid hfi
        have HR := Lib.hid hr
        have h0 := hr.c0
        have hlt : (5 : Int) < s.size := by omega
        have hgt : decide ((s.size : Int) > 5) = true := by simp; omega
        have hgt2 : decide ((5 : Int) < s.size) = true := by simp; omega
        clear hp hw hfi hd hr
        go_enter Tryz.func50, Tryz.ntmps50
        go_wp2_with fail
        refine (has_calls s ⟨#[60, 63, 120, 109, 108]⟩ g 0 0 _ _ HR.out (by omega) (by omega)).mono ?_
        rintro e w1 ⟨he, n1, rfl⟩
        rw [show (L ⟨#[60, 63, 120, 109, 108]⟩).isPrefixOf ((L s).drop 0) = true from HP.out] at he
        subst he
        go_wp2_with fail
        refine (white_is s[5] true _ HW.out).mono ?_
        rintro e w2 ⟨rfl, rfl⟩
        go_wp2_with fail
        refine (until_miss s ⟨#[63, 62]⟩ 5 g 0 0 _ (w.drewN n1) m hm (HR.out.drewN _) hs (by omega) HF.out).mono ?_
        rintro e w' ⟨he, n, rfl⟩
        unfold pan at he
        subst he
        go_wp2_with fail
        exact ⟨rfl, rfl, (Only.refl g w).drewN _⟩
end Go.Proofs.YtokdclmikllepaaGreatDoor
