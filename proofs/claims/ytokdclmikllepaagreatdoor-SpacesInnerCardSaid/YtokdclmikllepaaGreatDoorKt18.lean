import Derived.Test.YtokdclmikllepaaGreatDoorKt16
import Derived.Test.YtokdclmikllepaaGreatDoorKt12
import Derived.Test.YtokdclmikllepaaGreatDoorKt17
import Derived.RegionDies
namespace Go.Proofs.YtokdclmikllepaaGreatDoor
open Go.RowKit
set_option linter.unusedVariables false
set_option linter.unusedSimpArgs false

theorem U8.behind {s : ByteArray} {p v : Nat} (h : U8 ((L s).drop p)) (hpv : p ≤ v) (hv : v < s.size) (hc : s[v].toNat < 128) : U8 ((L s).drop (v + 1)) := by
  refine (h.at_ascii (((L s).drop p).take (v - p)) _ s[v] ?_ hc).2
  rw [← L_drop s v hv]
  have := List.take_append_drop (v - p) ((L s).drop p)
  rw [List.drop_drop, show p + (v - p) = v by omega] at this
  exact this.symm
theorem pre1 (a c : UInt8) (t : List UInt8) : ([a] : List UInt8).isPrefixOf (c :: t) = (a == c) := by simp [List.isPrefixOf]
theorem extract_take (s : ByteArray) (p n : Nat) : s.extract p (p + n) = ⟨(((L s).drop p).take n).toArray⟩ := by
  rw [← bs_L (s.extract p (p + n)), L_extract, show p + n - p = n by omega]

theorem attr_end {g : Nat} {s : ByteArray} {p fr : Nat} {out : Value} {n b b2 : Nat} {c : UInt8} {w w' : World} {e : Ending} {R : Except Sp.Flt (Sp.At × Nat)} (hv : p + n + b + 1 + b2 < s.size) (hc : c = 34 ∨ c = 39)
    (hR : attrTail fr p n (n + b + 1 + b2) (((L s).drop p).take n) (p + n + b + 1 + b2) (c :: (L s).drop (p + n + b + 1 + b2 + 1)) = R) 
    (h : AttrMid g s p fr out (p + n) (p + n + b + 1 + b2) (Sp.text c true fr (s.size - (p + n + b + 1 + b2 + 1) + 1) (p + n + b + 1 + b2 + 1) ((L s).drop (p + n + b + 1 + b2 + 1)) [] 0) w e w') : AttrEnd g s p fr out R w e w' := by
  refine ⟨h.1, ?_⟩
  have h := h.2
  have hlen : ((L s).drop (p + n + b + 1 + b2 + 1)).length = s.size - (p + n + b + 1 + b2 + 1) := by rw [List.length_drop, L_length]
  have hR : (if c = 34 ∨ c = 39 then _ else _) = R := hR
  rw [if_pos hc, hlen] at hR
  generalize Sp.text c true fr _ _ _ _ _ = T at h hR
  cases T with
  | error f =>
    subst hR
    exact h
  | ok r =>
    obtain ⟨t, m⟩ := r
    have h : (if _ then _ else _) := h
    have hR : (if _ then _ else _) = R := hR
    by_cases hlt : p + n + b + 1 + b2 + 1 + m < s.size
    · rw [if_pos hlt] at h
      rw [if_neg ?_] at hR
      · subst hR
        rw [extract_take] at h
        refine ⟨h.1, ?_⟩
        have := h.2
        rwa [show p + (n + b + 1 + b2 + 1 + m + 1) = p + n + b + 1 + b2 + 1 + m + 1 by omega]
      · rw [List.drop_drop]
        exact drop_ne s _ hlt
    · rw [if_neg hlt] at h
      rw [if_pos ?_] at hR
      · subst hR
        exact h
      · rw [List.drop_drop]
        exact List.drop_eq_nil_of_le (by rw [L_length]; omega)

theorem attr_calls (s : ByteArray) (g p fr : Nat) (out : Value) (w : World) (hG : Gl w) (hr : Rd w g s p fr out) (hs : s.size ≤ 65536) (hp : p ≤ s.size) (hU : U8 ((L s).drop p))
    (R : Except Sp.Flt (Sp.At × Nat)) (hR : Sp.attr fr p ((L s).drop p) = R) :
    Calls Tryz.prog 126 #[.pointer (some ⟨g, 0, none⟩)] w (AttrEnd g s p fr out R w) := by
  have hlen : ((L s).drop p).length = s.size - p := by rw [List.length_drop, L_length]
  obtain ⟨n, hnn⟩ : ∃ n, Sp.nameN (((L s).drop p).length + 1) true ((L s).drop p) = n := ⟨_, rfl⟩
  have hnm : nm (s.size - p + 1) true s p = p + n := by unfold nm; rw [← hlen, hnn]
  have hnle := nm_le (s.size - p + 1) true s p hp
  rw [hnm] at hnle
  by_cases h0 : n = 0
  · subst h0
    rw [attr_zero hnn] at hR
    subst hR
    exact (attr_noname s g p fr out w hr hs hp hnm).mono fun e w' ⟨he, ho⟩ => ⟨ho, he⟩
  obtain ⟨b, hb⟩ : ∃ b, Sp.blanksN ((L s).drop (p + n)) = b := ⟨_, rfl⟩
  have hu : bl s (p + n) = p + n + b := by unfold bl; rw [hb]
  have hd1 : ((L s).drop p).drop n = (L s).drop (p + n) := List.drop_drop ..
  have hd2 : (((L s).drop p).drop n).drop b = (L s).drop (p + n + b) := by rw [hd1, List.drop_drop]
  have hne : p < p + n := by omega
  by_cases hh : ((L s).drop (p + n + b)).head? = some 61
  · obtain ⟨hul, hc⟩ := head_at hh
    have hdu : (((L s).drop p).drop n).drop b = 61 :: (L s).drop (p + n + b + 1) := by rw [hd2, L_drop s _ hul, hc]
    obtain ⟨b2, hb2⟩ : ∃ x, Sp.blanksN ((L s).drop (p + n + b + 1)) = x := ⟨_, rfl⟩
    have hv : bl s (p + n + b + 1) = p + n + b + 1 + b2 := by unfold bl; rw [hb2]
    have hd4 : ((L s).drop (p + n + b + 1)).drop b2 = (L s).drop (p + n + b + 1 + b2) := List.drop_drop ..
    rw [attr_more hnn h0 (by rw [hd1]; exact hb) hdu hb2 hd4] at hR
    by_cases hvl : p + n + b + 1 + b2 < s.size
    · have hdv := L_drop s _ hvl
      rw [hdv] at hR
      have hm34 : ([34] : List UInt8).isPrefixOf ((L s).drop (p + n + b + 1 + b2)) = ((34 : UInt8) == s[p + n + b + 1 + b2]) := by rw [hdv, pre1]
      have hm39 : ([39] : List UInt8).isPrefixOf ((L s).drop (p + n + b + 1 + b2)) = ((39 : UInt8) == s[p + n + b + 1 + b2]) := by rw [hdv, pre1]
      by_cases hq : s[p + n + b + 1 + b2] = 34
      · rw [hq] at hm34 hR
        exact (attr_text34 s g p fr out w hG hr hs hp _ hnm hne _ hu hul hc _ hv hm34 hvl 34 hq rfl (hU.behind (by omega) hvl (by rw [hq]; decide)) _ rfl).mono fun e w' h => attr_end hvl (.inl rfl) hR h
      · by_cases hq2 : s[p + n + b + 1 + b2] = 39
        · rw [hq2] at hm34 hm39 hR
          exact (attr_text39 s g p fr out w hG hr hs hp _ hnm hne _ hu hul hc _ hv hm34 hm39 hvl 39 hq2 rfl (hU.behind (by omega) hvl (by rw [hq2]; decide)) _ rfl).mono fun e w' h => attr_end hvl (.inr rfl) hR h
        · have hR : (if _ then _ else _) = R := hR
          rw [if_neg (fun h => h.elim hq hq2)] at hR
          subst hR
          refine (attr_noquote s g p fr out w hG hr hs hp _ hnm hne _ hu hul hc _ hv (hm34.trans ?_) (hm39.trans ?_)).mono fun e w' ⟨he, ho⟩ => ⟨ho, ?_⟩
          · rw [beq_eq_false_iff_ne]; exact fun h => hq h.symm
          · rw [beq_eq_false_iff_ne]; exact fun h => hq2 h.symm
          · rw [Sp.stop, if_neg (drop_ne s _ hvl)] at he
            exact he
    · have hnil : (L s).drop (p + n + b + 1 + b2) = [] := List.drop_eq_nil_of_le (by rw [L_length]; omega)
      rw [hnil] at hR
      subst hR
      refine (attr_noquote s g p fr out w hG hr hs hp _ hnm hne _ hu hul hc _ hv (by rw [hnil]; rfl) (by rw [hnil]; rfl)).mono fun e w' ⟨he, ho⟩ => ⟨ho, ?_⟩
      rw [Sp.stop, if_pos hnil] at he
      exact he
  · rw [attr_none hnn h0 (by rw [hd1]; exact hb) hd2 hh] at hR
    subst hR
    exact (attr_nowant s g p fr out w hr hs hp _ hnm hne _ hu hh).mono fun e w' ⟨he, ho⟩ => ⟨ho, he⟩

/-- White stands right ahead of where it ends. -/
theorem white_before (s : ByteArray) : ∀ (k p : Nat), s.size - p ≤ k → p < bl s p → ∃ h : bl s p - 1 < s.size, Sp.white s[bl s p - 1] = true := by
  intro k
  induction k with
  | zero => intro p hk hlt; rw [bl_end s p (by omega)] at hlt; omega
  | succ k ih =>
    intro p hk hlt
    by_cases hp : p < s.size
    · cases hw : Sp.white s[p] with
      | false => rw [bl_not s p hp hw] at hlt; omega
      | true =>
        have hb := bl_white s p hp hw
        have hle := bl_le s (p + 1) (by omega)
        rw [hb]
        rcases Nat.lt_or_ge (p + 1) (bl s (p + 1)) with h | h
        · exact ih (p + 1) (by omega) h
        · have : bl s (p + 1) = p + 1 := by omega
          simp only [this, Nat.add_sub_cancel]
          exact ⟨hp, hw⟩
    · rw [bl_end s p (by omega)] at hlt; omega
theorem white_lt {c : UInt8} (h : Sp.white c = true) : c.toNat < 128 := by
  simp [Sp.white] at h; omega
theorem U8.blanks {s : ByteArray} {p : Nat} (h : U8 (L s)) (hlt : p < bl s p) : U8 ((L s).drop (bl s p)) := by
  obtain ⟨h1, h2⟩ := white_before s _ p (Nat.le_refl _) hlt
  have := U8.behind (p := 0) h (Nat.zero_le _) h1 (white_lt h2)
  rwa [show bl s p - 1 + 1 = bl s p by omega] at this
end Go.Proofs.YtokdclmikllepaaGreatDoor
namespace Go.Proofs.YtokdclmikllepaaGreatDoor
open Go.RowKit
set_option linter.unusedVariables false
set_option linter.unusedSimpArgs false

theorem AtsAt.le {B B' : Nat} {w : World} {v : Value} {l : List Sp.At} (h : AtsAt B' w v l) (hb : B ≤ B') : AtsAt B w v l := by
  refine ⟨h.1, ?_⟩
  rcases h.2 with hn | ⟨g, cap, cur, rfl, hbg, rest⟩
  · exact .inl hn
  · exact .inr ⟨g, cap, cur, rfl, Nat.le_trans hb hbg, rest⟩

theorem infoAttr : (Tryz.prog.info? 42).map (fun i => (i.zero, i.size, i.bytes)) = some (some (.agg #[.string ⟨#[]⟩, .string ⟨#[]⟩, .int .i64 0]), 3, 40) := by kernel_rfl

/-- The mark at work (block b), its attributes so far. -/
structure OLoc (g : Nat) (s : ByteArray) (p : Nat) (out : Value) (w : World) (q b : Nat) (nm : ByteArray) (em : Bool) (av : Value) (acc : List Sp.At) (W : World) : Prop where
  only : Only g w W
  rd : Rd W g s q p out
  lt : g < w.heap.size
  le : w.heap.size ≤ b
  box : W.heap[b]? = some (.cells #[.int .i64 1, .string nm, av, .bool em, .string ⟨#[]⟩, .int .i64 p] 40 (0, 0))
  ats : AtsAt w.heap.size W av acc
section
variable {g : Nat} {s : ByteArray} {p : Nat} {out : Value} {w : World} {q q' b : Nat} {nm : ByteArray} {em : Bool} {av : Value} {acc : List Sp.At} {W W2 : World}
theorem OLoc.drewN (h : OLoc g s p out w q b nm em av acc W) (n : Nat) : OLoc g s p out w q b nm em av acc (W.drewN n) := ⟨h.only.drewN n, h.rd.drewN n, h.lt, h.le, h.box, h.ats⟩
theorem OLoc.blt (h : OLoc g s p out w q b nm em av acc W) : b < W.heap.size := (Array.getElem?_eq_some_iff.1 h.box).1
theorem OLoc.ne (h : OLoc g s p out w q b nm em av acc W) : b ≠ g := by have := h.lt; have := h.le; omega
theorem OLoc.fz (h : OLoc g s p out w q b nm em av acc W) (i : Nat) : W.frozen? ⟨b, i, none⟩ = false := by
  have h2 := h.box; simp [World.frozen?, h2]
theorem OLoc.c0 (h : OLoc g s p out w q b nm em av acc W) : W.cell? ⟨b, 0, none⟩ = some (.int .i64 1) := cell_of_row W b 0 _ _ _ h.box
theorem OLoc.c1 (h : OLoc g s p out w q b nm em av acc W) : W.cell? ⟨b, 1, none⟩ = some (.string nm) := cell_of_row W b 1 _ _ _ h.box
theorem OLoc.c2 (h : OLoc g s p out w q b nm em av acc W) : W.cell? ⟨b, 2, none⟩ = some av := cell_of_row W b 2 _ _ _ h.box
theorem OLoc.c3 (h : OLoc g s p out w q b nm em av acc W) : W.cell? ⟨b, 3, none⟩ = some (.bool em) := cell_of_row W b 3 _ _ _ h.box
theorem OLoc.c4 (h : OLoc g s p out w q b nm em av acc W) : W.cell? ⟨b, 4, none⟩ = some (.string ⟨#[]⟩) := cell_of_row W b 4 _ _ _ h.box
theorem OLoc.c5 (h : OLoc g s p out w q b nm em av acc W) : W.cell? ⟨b, 5, none⟩ = some (.int .i64 p) := cell_of_row W b 5 _ _ _ h.box
theorem OLoc.goes (h : OLoc g s p out w q b nm em av acc W) (ho : Only g W W2) (hr : Rd W2 g s q' p out) : OLoc g s p out w q' b nm em av acc W2 :=
  ⟨h.only.trans ho, hr, h.lt, h.le, (ho.block b h.blt (fun e => by injection e with e; exact h.ne e)).trans h.box, h.ats.kept ho (.inr (h.rd.row h.ats (by decide)))⟩
theorem OLoc.alloc (h : OLoc g s p out w q b nm em av acc W) (o : Obj) : OLoc g s p out w q b nm em av acc (W.alloc o) := h.goes ((Only.refl g W).alloc o) (h.rd.alloc o)
theorem OLoc.set1 (h : OLoc g s p out w q b nm em av acc W) (q' : Nat) : OLoc g s p out w q' b nm em av acc (W.setCell ⟨g, 1, none⟩ (.int .i64 q')) := h.goes ((Only.refl g W).set 1 _) (h.rd.set1 q')
theorem OLoc.setEm (h : OLoc g s p out w q b nm em av acc W) : OLoc g s p out w q b nm true av acc (W.setCell ⟨b, 3, none⟩ (.bool true)) :=
  ⟨h.only.trans_set h.le _, h.rd.set_other h.ne _, h.lt, h.le, heap_set _ _ 3 _ _ _ _ h.box,
   h.ats.kept ((Only.refl b W).set 3 _) (.inr (own_ne h.ats h.box (by decide)))⟩
theorem OLoc.more {W1 : World} {v' : Value} {a : Sp.At} (h : OLoc g s p out w q b nm em av acc W) (hgr : W.grownBy W1 av.ownBlock) (hown : W1.ownsRow w.heap.size 42 3 v' (acc.length + 1) (acc.flatMap atCells ++ atCells a)) :
    OLoc g s p out w q b nm em v' (acc ++ [a]) (W1.setCell ⟨b, 2, none⟩ v') := by
  have hne : some b ≠ av.ownBlock := fun e => own_ne h.ats h.box (by decide) e.symm
  have hbox : W1.heap[b]? = some (.cells #[.int .i64 1, .string nm, av, .bool em, .string ⟨#[]⟩, .int .i64 p] 40 (0, 0)) := (hgr.block b h.blt hne).trans h.box
  have hrd := h.rd.grown hgr (h.rd.row h.ats (by decide))
  have honly : Only g w W1 := ⟨hgr.os.trans h.only.os, hgr.tape.trans h.only.tape, hgr.output.trans h.only.output, Nat.le_trans h.only.size hgr.size, fun i hi hg =>
    (hgr.block i (Nat.lt_of_lt_of_le hi h.only.size) (fun e => by have := (World.ownsRow.lt h.ats i e.symm).1; omega)).trans (h.only.block i hi hg)⟩
  refine ⟨honly.trans_set h.le _, hrd.set_other h.ne _, h.lt, h.le, heap_set _ _ 2 _ _ _ _ hbox, ?_⟩
  have := World.ownsRow.kept hown ((Only.refl b W1).set 2 v') (.inr (own_ne hown hbox (by decide)))
  unfold AtsAt
  rw [List.length_append, List.flatMap_append]
  simpa using this
theorem OLoc.start {nv : ByteArray} (ho : Only g w W) (hr : Rd W g s q p out) (hlt : g < w.heap.size) : OLoc g s p out w q W.heap.size nv false (.slice none 0 0) [] (W.alloc (.cells #[.int .i64 1, .string nv, .slice none 0 0, .bool false, .string ⟨#[]⟩, .int .i64 p] 40)) :=
  ⟨ho.alloc _, hr.alloc _, hlt, ho.size, heap_alloc_new _ _, AtsAt.nil _ _⟩
end

set_option maxHeartbeats 8000000 in
set_option maxRecDepth 100000 in
theorem opening_noname (s : ByteArray) (g p : Nat) (out : Value) (w : World) (hr : Rd w g s p p out) (hs : s.size ≤ 65536) (hp : p + 1 ≤ s.size) (hq : nm (s.size - (p + 1) + 1) true s (p + 1) = p + 1) :
    Calls Tryz.prog 93 #[.pointer (some ⟨g, 0, none⟩)] w fun e w' => e = pan (Sp.stop p (p + 1) ((L s).drop (p + 1))) ∧ Only g w w' := by
  have h1 := hr.c1
  have hf1 := hr.fz 1
  have hglt := hr.lt
  have HQ := Lib.hid hq
  clear hq
  have HR1 : Hid (Only g w (w.setCell ⟨g, 1, none⟩ (.int .i64 ((p : Int) + 1))) ∧ Rd (w.setCell ⟨g, 1, none⟩ (.int .i64 ((p : Int) + 1))) g s (p + 1) p out) := ⟨(Only.refl g w).set 1 _, hr.set1 (p + 1)⟩
  have h2 := hr.c2
  go_enter Tryz.func93, Tryz.ntmps93
  go_wp2_with fail
  go_region_dies
  all_goals
    refine (name_none s g (p + 1) p out _ ?_ (by omega) hp HQ.out).mono ?_
    · first | exact HR1.out.2 | exact HR1.out.2.alloc _
    rintro e w1 ⟨he, hb⟩
    unfold pan at he
    subst he
    go_wp2_with fail
    refine ⟨rfl, rfl, ?_⟩
    first | exact HR1.out.1.drew.below hb | exact (HR1.out.1.alloc _).drew.below hb
end Go.Proofs.YtokdclmikllepaaGreatDoor
