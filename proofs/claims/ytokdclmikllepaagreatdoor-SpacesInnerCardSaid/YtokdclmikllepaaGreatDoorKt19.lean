import Derived.Test.YtokdclmikllepaaGreatDoorKt18
import Derived.Deep.DeepCutAuto
namespace Go.Proofs.YtokdclmikllepaaGreatDoor
open Go.RowKit
set_option linter.unusedVariables false
set_option linter.unusedSimpArgs false

/-- What an attribute has of bytes at least: one. -/
theorem attr_pos (fr p : Nat) (l : List UInt8) (a : Sp.At) (m : Nat) (h : Sp.attr fr p l = .ok (a, m)) : 1 ≤ m := by
  by_cases h0 : Sp.nameN (l.length + 1) true l = 0
  · rw [attr_zero h0] at h; cases h
  · by_cases hh : ((l.drop (Sp.nameN (l.length + 1) true l)).drop (Sp.blanksN (l.drop (Sp.nameN (l.length + 1) true l)))).head? = some 61
    · obtain ⟨l3, h3⟩ := sp_head_cons hh
      rw [attr_more rfl h0 rfl h3 rfl rfl] at h
      unfold attrTail at h
      split at h
      · split at h
        · split at h
          · cases h
          · split at h
            · cases h
            · injection h with h; injection h with h1 h2; omega
        · cases h
      · cases h
    · rw [attr_none rfl h0 rfl rfl hh] at h; cases h

/-- How opening ends. -/
theorem opened {g : Nat} {s : ByteArray} {p : Nat} {out : Value} {ms : List Sp.Mk} {B : Nat} {w w0 w1 : World} {q b : Nat} {nm : ByteArray} {em : Bool} {av v' : Value} {acc : List Sp.At} {ps : List (Sp.Mk × Value)}
    (hL : OLoc g s p out w q b nm em av acc w0) (hB : B ≤ w.heap.size) (hr : Rd w g s p p out) (hps : ps.map Prod.fst = ms) (hat : ∀ x ∈ ps, AtsAt B w x.2 x.1.attrs) (hown : w.ownsRow B 40 6 out ps.length (ps.flatMap fun x => mkCells x.1 x.2)) (hap : ps.Pairwise RowsApart)
    (hgr : w0.grownBy w1 out.ownBlock) (hown1 : w1.ownsRow B 40 6 v' (ps.length + 1) ((ps.flatMap fun x => mkCells x.1 x.2) ++ [.int .i64 1, .string nm, av, .bool em, .string ⟨#[]⟩, .int .i64 p])) :
    Pieced g s p q out (ms ++ [⟨1, L nm, acc, em, [], p⟩]) B w (w1.setCell ⟨g, 3, none⟩ v') := by
  have := told (w := w) (m := ⟨1, L nm, acc, em, [], p⟩) (av := av) hL.rd hps (fun x hx => (hat x hx).kept hL.only (.inr (hr.row (hat x hx) (by decide)))) (hL.ats.le hB) (hown.kept hL.only (.inr (hr.row hown (by decide)))) hL.only hgr hap (fun x hx => by
    cases hb : x.2.ownBlock with
    | none => exact .inl hb
    | some k =>
      refine .inr fun e => ?_
      have h1 := (World.ownsRow.lt (hat x hx) k hb).2
      have h2 := (World.ownsRow.lt hL.ats k (e ▸ hb)).1
      omega) (by rw [mkCells, bs_L]; exact hown1)
  exact ⟨v', this.1, this.2.1, this.2.2⟩

theorem OLoc.start2 {g : Nat} {s : ByteArray} {p : Nat} {out : Value} {w W : World} {q : Nat} {nv : ByteArray} (ho : Only g w W) (hr : Rd W g s q p out) (hlt : g < w.heap.size)
    (hb : W.heap[w.heap.size]? = some (.cells #[.int .i64 0, .string ⟨#[]⟩, .slice none 0 0, .bool false, .string ⟨#[]⟩, .int .i64 0] 40 (0, 0))) :
    OLoc g s p out w q w.heap.size nv false (.slice none 0 0) [] ((((((W.setCell ⟨w.heap.size, 0, none⟩ (.int .i64 1)).setCell ⟨w.heap.size, 1, none⟩ (.string nv)).setCell ⟨w.heap.size, 2, none⟩ (.slice none 0 0)).setCell ⟨w.heap.size, 3, none⟩ (.bool false)).setCell ⟨w.heap.size, 4, none⟩ (.string ⟨#[]⟩)).setCell ⟨w.heap.size, 5, none⟩ (.int .i64 p)) :=
  have hng : w.heap.size ≠ g := by omega
  ⟨(((((ho.trans_set (Nat.le_refl _) _).trans_set (Nat.le_refl _) _).trans_set (Nat.le_refl _) _).trans_set (Nat.le_refl _) _).trans_set (Nat.le_refl _) _).trans_set (Nat.le_refl _) _,
   (((((hr.set_other (x := ⟨w.heap.size, 0, none⟩) hng _).set_other (x := ⟨w.heap.size, 1, none⟩) hng _).set_other (x := ⟨w.heap.size, 2, none⟩) hng _).set_other (x := ⟨w.heap.size, 3, none⟩) hng _).set_other (x := ⟨w.heap.size, 4, none⟩) hng _).set_other (x := ⟨w.heap.size, 5, none⟩) hng _,
   hlt, Nat.le_refl _, heap_set _ _ 5 _ _ _ _ (heap_set _ _ 4 _ _ _ _ (heap_set _ _ 3 _ _ _ _ (heap_set _ _ 2 _ _ _ _ (heap_set _ _ 1 _ _ _ _ (heap_set _ _ 0 _ _ _ _ hb))))), AtsAt.nil _ _⟩
theorem OLoc.drew {g : Nat} {s : ByteArray} {p : Nat} {out : Value} {w W : World} {q b : Nat} {nm : ByteArray} {em : Bool} {av : Value} {acc : List Sp.At} (h : OLoc g s p out w q b nm em av acc W) : OLoc g s p out w q b nm em av acc W.drew := h.drewN 1
theorem six_one {av : Value} (x : Value) (n t : ByteArray) (em : Bool) (p k : Int) (h : av.oneCell' = true) : ∀ u ∈ ([.int .i64 k, .string n, av, .bool em, .string t, .int .i64 p] : List Value), u.oneCell' = true := by
  intro u hu
  simp only [List.mem_cons, List.not_mem_nil, or_false] at hu
  rcases hu with rfl | rfl | rfl | rfl | rfl | rfl <;> first | exact h | rfl
theorem OLoc.one {g : Nat} {s : ByteArray} {p : Nat} {out : Value} {w W : World} {q b : Nat} {nm : ByteArray} {em : Bool} {av : Value} {acc : List Sp.At} (h : OLoc g s p out w q b nm em av acc W) : av.oneCell' = true := by
  rcases h.ats.2 with ⟨rfl, _⟩ | ⟨g', cap, cur, rfl, _⟩ <;> rfl

def attrsK (p k u n : Nat) (l : List UInt8) (acc : List Sp.At) : Except Sp.Flt (Sp.At × Nat) → Except Sp.Flt (List Sp.At × Bool × Nat)
  | .error f => .error f
  | .ok (a, m) => Sp.attrs p k (u + m) (l.drop m) (acc ++ [a]) (n + m)
theorem OLoc.kept2 {g : Nat} {s : ByteArray} {p : Nat} {out : Value} {w W W1 : World} {q b : Nat} {nm : ByteArray} {em : Bool} {av : Value} {acc : List Sp.At} (h : OLoc g s p out w q b nm em av acc W) (hgr : W.grownBy W1 av.ownBlock) :
    W1.cell? ⟨b, 2, none⟩ = some av ∧ W1.frozen? ⟨b, 2, none⟩ = false := by
  have hne : some b ≠ av.ownBlock := fun e => own_ne h.ats h.box (by decide) e.symm
  have hbox : W1.heap[b]? = some (.cells #[.int .i64 1, .string nm, av, .bool em, .string ⟨#[]⟩, .int .i64 p] 40 (0, 0)) := (hgr.block b h.blt hne).trans h.box
  exact ⟨cell_of_row W1 b 2 _ _ _ hbox, by simp [World.frozen?, hbox]⟩

/-- What opening makes of its attributes. -/
def openR (p : Nat) (x : List UInt8) : Except Sp.Flt (List Sp.At × Bool × Nat) → Except Sp.Flt (List Sp.Mk × Nat)
  | .error f => .error f
  | .ok (az, e, m) => .ok ([⟨1, x, az, e, [], p⟩], m)

set_option maxHeartbeats 16000000 in
set_option maxRecDepth 100000 in
theorem opening_named (s : ByteArray) (g p : Nat) (out : Value) (ms : List Sp.Mk) (B : Nat) (w : World) (hG : Gl w) (hr : Rd w g s p p out) (hs : s.size ≤ 65536) (hp : p + 1 ≤ s.size) (hB : B ≤ w.heap.size) (hms : MksAt B w out ms) (hn : ms.length < 65537) (hU : U8 (L s))
    (q : Nat) (hq : nm (s.size - (p + 1) + 1) true s (p + 1) = q) (hne : p + 1 < q) (RA : Except Sp.Flt (List Sp.At × Bool × Nat)) (K0 : Nat) (hK0 : s.size - q < K0) (hRA : Sp.attrs p K0 q ((L s).drop q) [] (q - p) = RA)
    (R : Except Sp.Flt (List Sp.Mk × Nat)) (hR : openR p (L (s.extract (p + 1) q)) RA = R) :
    Calls Tryz.prog 93 #[.pointer (some ⟨g, 0, none⟩)] w (PieceEnd g s p out ms B R w) := by
  have hqs := nm_le (s.size - (p + 1) + 1) true s (p + 1) hp
  rw [hq] at hqs
  have hqs2 := hqs.2
  obtain ⟨ps, hps, hat, hown, hap⟩ := hms
  have hpl : ps.length = ms.length := by rw [← hps, List.length_map]
  have hpb : ps.length < 65537 := by omega
  clear hpl hn hqs
  have HEND : Hid (∀ {w0 w1 : World} {q b : Nat} {nm : ByteArray} {em : Bool} {av v' : Value} {acc : List Sp.At}, OLoc g s p out w q b nm em av acc w0 → w0.grownBy w1 out.ownBlock → w1.ownsRow B 40 6 v' (ps.length + 1) ((ps.flatMap fun x => mkCells x.1 x.2) ++ [.int .i64 1, .string nm, av, .bool em, .string ⟨#[]⟩, .int .i64 p]) → Pieced g s p q out (ms ++ [⟨1, L nm, acc, em, [], p⟩]) B w (w1.setCell ⟨g, 3, none⟩ v')) :=
    fun hL hgr hown1 => opened hL hB hr hps hat hown hap hgr hown1
  have HOUT : Hid (∀ {W : World}, Only g w W → W.ownsRow B 40 6 out ps.length (ps.flatMap fun x => mkCells x.1 x.2)) := fun ho => hown.kept ho (.inr (hr.row hown (by decide)))
  have hglt := hr.lt
  have HQ := Lib.hid hq
  have HG := Lib.hid hG
  have hg8 := hr.1
  have HU := Lib.hid hU
  have HRA := Lib.hid hRA
  have HR := Lib.hid hR
  clear hq hG hU hRA hR hat hps hown hap
  have h1 := hr.c1
  have h2 := hr.c2
  have hf1 := hr.fz 1
  have HR1 : Hid (Only g w (w.setCell ⟨g, 1, none⟩ (.int .i64 ((p : Int) + 1))) ∧ Rd (w.setCell ⟨g, 1, none⟩ (.int .i64 ((p : Int) + 1))) g s (p + 1) p out) := ⟨(Only.refl g w).set 1 _, hr.set1 (p + 1)⟩
  clear hr
  go_enter Tryz.func93, Tryz.ntmps93
  have HA : Hid (∀ w1, Only g ((w.setCell ⟨g, 1, none⟩ (.int .i64 ((p : Int) + 1))).alloc (.cells #[.int .i64 0, .string ⟨#[]⟩, .slice none 0 0, .bool false, .string ⟨#[]⟩, .int .i64 0] 40)).drew w1 → w1.heap[w.heap.size]? = some (.cells #[.int .i64 0, .string ⟨#[]⟩, .slice none 0 0, .bool false, .string ⟨#[]⟩, .int .i64 0] 40 (0, 0))) := fun w1 ho => by
    have hsz : (w.setCell ⟨g, 1, none⟩ (.int .i64 ((p : Int) + 1))).heap.size = w.heap.size := by simp [World.setCell]
    have := heap_alloc_new (w.setCell ⟨g, 1, none⟩ (.int .i64 ((p : Int) + 1))) (.cells #[.int .i64 0, .string ⟨#[]⟩, .slice none 0 0, .bool false, .string ⟨#[]⟩, .int .i64 0] 40)
    rw [hsz] at this
    exact (ho.block _ (by show w.heap.size < (World.alloc _ _).heap.size; rw [sz_alloc, hsz]; omega) (fun e => by injection e with e; omega)).trans this
  have k2 := HR1.out.2.c2
  have kd2 : (World.drew (w.setCell ⟨g, 1, none⟩ (.int .i64 ((p : Int) + 1)))).cell? ⟨g, 2, none⟩ = some (.int .i64 p) := k2
  have ka2 : ∀ o, ((w.setCell ⟨g, 1, none⟩ (.int .i64 ((p : Int) + 1))).alloc o).cell? ⟨g, 2, none⟩ = some (.int .i64 p) := fun o => (HR1.out.2.alloc o).c2
  have kb2 : ∀ o, (World.drew ((w.setCell ⟨g, 1, none⟩ (.int .i64 ((p : Int) + 1))).alloc o)).cell? ⟨g, 2, none⟩ = some (.int .i64 p) := fun o => (HR1.out.2.alloc o).c2
  go_upto_region 1 with fail
  go_cut [2] (fun s2 wx => ∃ b, s2 = .pointer (some ⟨b, 0, none⟩) ∧ Hid (OLoc g s p out w q b (s.extract (p + 1) q) false (.slice none 0 0) [] wx))
  case first =>
    go_region_held3 (fun w' => w'.cell? ⟨g, 2, none⟩ = some (.int .i64 p)) (first | with_reducible exact k2 | with_reducible exact kd2 | with_reducible exact ka2 _ | with_reducible exact kb2 _ | with_reducible exact kc2 | with_reducible exact kc3 _ | with_reducible exact kc4 _ _ _ _ _ _) (first
      | (go_at_call 122
         refine (name_calls s g (p + 1) p out _ (show Rd (World.drew (World.setCell _ _ _)) g s (p + 1) p out from HR1.out.2) (by omega) hp q HQ.out hne).mono ?_
         rintro e w1 ⟨rfl, ho, hr2⟩
         have HW : Hid (Only g w w1 ∧ Rd w1 g s q p out) := ⟨HR1.out.1.drew.trans ho, hr2⟩
         have kc2 := hr2.c2
         have kc3 : ∀ o, (w1.alloc o).cell? ⟨g, 2, none⟩ = some (.int .i64 p) := fun o => (hr2.alloc o).c2
         clear ho hr2)
      | (go_at_call 122
         refine (name_calls s g (p + 1) p out _ (show Rd (World.drew (World.alloc _ _)) g s (p + 1) p out from HR1.out.2.alloc _) (by omega) hp q HQ.out hne).mono ?_
         rintro e w1 ⟨rfl, ho, hr2⟩
         have HW : Hid (Only g w w1 ∧ Rd w1 g s q p out) := ⟨(HR1.out.1.alloc _).drew.trans ho, hr2⟩
         have hb := HA.out w1 ho
         have y0 := cell_of_row w1 w.heap.size 0 _ _ _ hb
         have y1 := cell_of_row w1 w.heap.size 1 _ _ _ hb
         have y2 := cell_of_row w1 w.heap.size 2 _ _ _ hb
         have y3 := cell_of_row w1 w.heap.size 3 _ _ _ hb
         have y4 := cell_of_row w1 w.heap.size 4 _ _ _ hb
         have y5 := cell_of_row w1 w.heap.size 5 _ _ _ hb
         have z : ∀ i, w1.frozen? ⟨w.heap.size, i, none⟩ = false := fun i => by simp [World.frozen?, hb]
         have z0 := z 0
         have z1 := z 1
         have z2 := z 2
         have z3 := z 3
         have z4 := z 4
         have z5 := z 5
         have hng : w.heap.size ≠ g := by omega
         have kc2 := hr2.c2
         have kc4 : ∀ v0 v1 v2 v3 v4 v5, ((((((w1.setCell ⟨w.heap.size, 0, none⟩ v0).setCell ⟨w.heap.size, 1, none⟩ v1).setCell ⟨w.heap.size, 2, none⟩ v2).setCell ⟨w.heap.size, 3, none⟩ v3).setCell ⟨w.heap.size, 4, none⟩ v4).setCell ⟨w.heap.size, 5, none⟩ v5).cell? ⟨g, 2, none⟩ = some (.int .i64 p) :=
           fun v0 v1 v2 v3 v4 v5 => ((((((hr2.set_other (x := ⟨w.heap.size, 0, none⟩) hng v0).set_other (x := ⟨w.heap.size, 1, none⟩) hng v1).set_other (x := ⟨w.heap.size, 2, none⟩) hng v2).set_other (x := ⟨w.heap.size, 3, none⟩) hng v3).set_other (x := ⟨w.heap.size, 4, none⟩) hng v4).set_other (x := ⟨w.heap.size, 5, none⟩) hng v5).c2
         have HB := Lib.hid hb
         clear z hb ho hr2))
    all_goals
      go_wp2_with fail
      go_meet
      first
        | exact ⟨_, rfl, Lib.hid (OLoc.start HW.out.1 HW.out.2 hglt)⟩
        | exact ⟨_, rfl, Lib.hid (OLoc.start2 HW.out.1 HW.out.2 hglt HB.out)⟩
  case rest =>
  obtain ⟨b, rfl, HL⟩ := hcut
  clear HA k2 kd2 ka2 kb2 HR1 h1 h2 hf1
  have hK1 : s.size - q < K0 := hK0
  go_wp2_with fail
  go_loopg [3] K0 (fun k _ wr => ∃ p' av acc, p + 1 < p' ∧ p' ≤ s.size ∧ s.size - p' < k ∧ acc.length ≤ p' ∧ Hid (Sp.attrs p k p' ((L s).drop p') acc (p' - p) = RA) ∧ Hid (OLoc g s p out w p' b (s.extract (p + 1) q) false av acc wr))
  case atStart => exact ⟨q, _, [], hne, hqs2, hK1, Nat.zero_le _, HRA, HL⟩
  case round =>
    clear HRA HL hK0 hK1 hqs2 hne
    obtain ⟨p', av, acc, hpp, hps, hk, hal, HA, HL⟩ := hrel
    obtain ⟨k', rfl⟩ : ∃ m, gk = m + 1 := ⟨gk - 1, by omega⟩
    have hble := bl_le s p' hps
    obtain ⟨u, hu⟩ : ∃ u, bl s p' = u := ⟨_, rfl⟩
    rw [hu] at hble
    have hu1 := hble.1
    have hu2 := hble.2
    have HBL := Lib.hid hu
    have HIN : Hid (attrsIn p k' p' ((L s).drop p') acc (p' - p) (u - p') ((L s).drop u) = RA) := by
      have h := HA.out
      rw [attrs_in] at h
      have hb : Sp.blanksN ((L s).drop p') = u - p' := by have := hu; unfold bl at this; omega
      rw [hb, List.drop_drop, show p' + (u - p') = u by omega] at h
      exact h
    clear hu hble HA
    by_cases h62 : ((L s).drop u).head? = some 62
    · -- the end
      obtain ⟨hul, hc⟩ := head_at h62
      have hD := L_drop s u hul
      rw [hc] at hD
      have HRR : Hid (R = .ok ([⟨1, L (s.extract (p + 1) q), acc, false, [], p⟩], u + 1 - p)) := by
        have h := HIN.out
        rw [hD, in_gt] at h
        have h2 := HR.out
        rw [← h] at h2
        rw [← h2]
        show Except.ok (_, p' - p + (u - p') + 1) = _
        rw [show p' - p + (u - p') + 1 = u + 1 - p by omega]
      have H62 : Hid (([62] : List UInt8).isPrefixOf ((L s).drop u) = true) := by
        show _ = true
        rw [hD, pre1]; rfl
      have H47 : Hid (([47] : List UInt8).isPrefixOf ((L s).drop u) = false) := by
        show _ = false
        rw [hD, pre1]; rfl
      have HC := Lib.hid hc
      clear h62 hc hD HIN
      have hR2 := HRR.out
      clear HRR HR
      subst hR2
      go_wp2_with fail
      refine (blanks_calls s g p' p out _ HL.out.rd (by omega) hps).mono ?_
      rintro e w1 ⟨rfl, ho, hr1⟩
      rw [HBL.out] at hr1
      have HL1 := Lib.hid (HL.out.goes ho hr1)
      clear ho hr1 HL
      go_wp2_with fail
      refine (has_calls s ⟨#[62]⟩ g u p out _ HL1.out.rd (by omega) hu2).mono ?_
      rintro e w5 ⟨he, n5, rfl⟩
      rw [show (L ⟨#[62]⟩).isPrefixOf ((L s).drop u) = true from H62.out] at he
      subst he
      go_wp2_with fail
      refine (has_calls s ⟨#[47]⟩ g u p out _ (HL1.out.drewN _).rd (by omega) hu2).mono ?_
      rintro e w6 ⟨he, n6, rfl⟩
      rw [show (L ⟨#[47]⟩).isPrefixOf ((L s).drop u) = false from H47.out] at he
      subst he
      go_wp2_with fail
      refine (want_is s 62 62 rfl g u p out _ (HL1.out.drewN _).rd (by omega) hul HC.out).mono ?_
      rintro e w9 ⟨rfl, ho, hr9⟩
      have HL9 := Lib.hid ((HL1.out.drewN (n5 + n6)).goes ho hr9)
      clear ho hr9 HL1
      · have hown := HOUT.out HL9.out.only
        have h3 := HL9.out.rd.c3
        have hf3 := HL9.out.rd.fz 3
        have y0 := HL9.out.c0
        have y1 := HL9.out.c1
        have y2 := HL9.out.c2
        have y3 := HL9.out.c3
        have y4 := HL9.out.c4
        have y5 := HL9.out.c5
        have hav1 := HL9.out.one
        have k3 := (HL9.out.rd.alloc (.cells #[.int .i64 1, .string (s.extract (p + 1) q), av, .bool false, .string ⟨#[]⟩, .int .i64 p] 40)).drew.c3
        have hB9 : B ≤ w9.heap.size := Nat.le_trans hB HL9.out.only.size
        have hglt9 := HL9.out.rd.lt
        obtain ⟨i0, hi, hz0, hz1, hz2⟩ := info_parts infoMark
        go_wp2_with fail
        go_region_law (first | (refine step_append_lies _ rfl (.tmp 53) (.tmp 55) 22 rfl B 40 i0 _ 6 80 Tryz.underlying22 hi hz0 hz1 hz2 rfl (by decide) out ps.length (ps.flatMap fun x => mkCells x.1 x.2) (by simp [Act.eval, Act.put]) ?_ ⟨w9.heap.size, 0, none⟩ 1 1 [.int .i64 1, .string (s.extract (p + 1) q), av, .bool false, .string ⟨#[]⟩, .int .i64 p] (by simp [Act.eval, Act.put]) rfl ?_ ?_ ?_ ?_ ?_ ?_ _ rfl ?_; (· exact (hown.alloc _).drew); (· exact World.news_of_block (cs := #[.int .i64 1, .string (s.extract (p + 1) q), av, .bool false, .string ⟨#[]⟩, .int .i64 p]) (heap_alloc_new w9 _)); (· exact six_one av _ _ _ _ _ hav1); (· omega); (· unfold maxLen; omega); (· omega); (· simp; omega); (intro g' cap w1 hown1 hgrow hat1 hlt; have hrd1 := ((HL9.out.rd.alloc _).drew).grown hgrow (HL9.out.rd.row hown (by decide)); have k4 := hrd1.c3; have kf := hrd1.fz 3)))
        all_goals
          go_wp2
          go_end0
          have hE := HEND.out (HL9.out.alloc _).drew hgrow hown1
          rw [show u + 1 = p + (u + 1 - p) by omega] at hE
          exact ⟨rfl, hE⟩
    · by_cases h47 : ((L s).drop u).head? = some 47
      · obtain ⟨hul, hc⟩ := head_at h47
        have hD := L_drop s u hul
        rw [hc] at hD
        have H62 : Hid (([62] : List UInt8).isPrefixOf ((L s).drop u) = false) := by
          show _ = false
          rw [hD, pre1]; rfl
        have H47 : Hid (([47] : List UInt8).isPrefixOf ((L s).drop u) = true) := by
          show _ = true
          rw [hD, pre1]; rfl
        clear h62 h47 hc
        by_cases hh : ((L s).drop (u + 1)).head? = some 62
        · obtain ⟨hvl, hc⟩ := head_at hh
          have HRR : Hid (R = .ok ([⟨1, L (s.extract (p + 1) q), acc, true, [], p⟩], u + 2 - p)) := by
            have h := HIN.out
            have hD2 := L_drop s (u + 1) hvl
            rw [hc] at hD2
            rw [hD, hD2, in_sl_gt] at h
            have h2 := HR.out
            rw [← h] at h2
            rw [← h2]
            show Except.ok (_, p' - p + (u - p') + 2) = _
            rw [show p' - p + (u - p') + 2 = u + 2 - p by omega]
          have HC := Lib.hid hc
          clear hh hc hD HIN
          have hR2 := HRR.out
          clear HRR HR
          subst hR2
          go_wp2_with fail
          refine (blanks_calls s g p' p out _ HL.out.rd (by omega) hps).mono ?_
          rintro e w1 ⟨rfl, ho, hr1⟩
          rw [HBL.out] at hr1
          have HL1 := Lib.hid (HL.out.goes ho hr1)
          clear ho hr1 HL
          go_wp2_with fail
          refine (has_calls s ⟨#[62]⟩ g u p out _ HL1.out.rd (by omega) hu2).mono ?_
          rintro e w5 ⟨he, n5, rfl⟩
          rw [show (L ⟨#[62]⟩).isPrefixOf ((L s).drop u) = false from H62.out] at he
          subst he
          go_wp2_with fail
          refine (has_calls s ⟨#[47]⟩ g u p out _ (HL1.out.drewN _).rd (by omega) hu2).mono ?_
          rintro e w6 ⟨he, n6, rfl⟩
          rw [show (L ⟨#[47]⟩).isPrefixOf ((L s).drop u) = true from H47.out] at he
          subst he
          go_wp2_with fail
          refine (has_calls s ⟨#[47]⟩ g u p out _ (HL1.out.drewN _).rd (by omega) hu2).mono ?_
          rintro e w7 ⟨he, n7, rfl⟩
          rw [show (L ⟨#[47]⟩).isPrefixOf ((L s).drop u) = true from H47.out] at he
          subst he
          have h1 := HL1.out.rd.c1
          have hf1 := HL1.out.rd.fz 1
          have y3 := HL1.out.c3
          have z3 := HL1.out.fz 3
          have hbg := HL1.out.ne
          go_wp2_with fail
          have HL2 : ∀ z, Hid (OLoc g s p out w (u + 1) b (s.extract (p + 1) q) true av acc (((w1.drewN z).setCell ⟨g, 1, none⟩ (.int .i64 ((u : Int) + 1))).setCell ⟨b, 3, none⟩ (.bool true))) := fun z => Lib.hid ((HL1.out.drewN z).set1 (u + 1)).setEm
          clear h1 hf1 y3 z3 HL1
          refine (want_is s 62 62 rfl g (u + 1) p out _ (HL2 _).out.rd (by omega) hvl HC.out).mono ?_
          rintro e w9 ⟨rfl, ho, hr9⟩
          have HL9 := Lib.hid ((HL2 _).out.goes ho hr9)
          clear ho hr9 HL2
          · have hown := HOUT.out HL9.out.only
            have h3 := HL9.out.rd.c3
            have hf3 := HL9.out.rd.fz 3
            have y0 := HL9.out.c0
            have y1 := HL9.out.c1
            have y2 := HL9.out.c2
            have y3 := HL9.out.c3
            have y4 := HL9.out.c4
            have y5 := HL9.out.c5
            have hav1 := HL9.out.one
            have k3 := (HL9.out.rd.alloc (.cells #[.int .i64 1, .string (s.extract (p + 1) q), av, .bool true, .string ⟨#[]⟩, .int .i64 p] 40)).drew.c3
            have hB9 : B ≤ w9.heap.size := Nat.le_trans hB HL9.out.only.size
            have hglt9 := HL9.out.rd.lt
            obtain ⟨i0, hi, hz0, hz1, hz2⟩ := info_parts infoMark
            go_wp2_with fail
            go_region_law (first | (refine step_append_lies _ rfl (.tmp 53) (.tmp 55) 22 rfl B 40 i0 _ 6 80 Tryz.underlying22 hi hz0 hz1 hz2 rfl (by decide) out ps.length (ps.flatMap fun x => mkCells x.1 x.2) (by simp [Act.eval, Act.put]) ?_ ⟨w9.heap.size, 0, none⟩ 1 1 [.int .i64 1, .string (s.extract (p + 1) q), av, .bool true, .string ⟨#[]⟩, .int .i64 p] (by simp [Act.eval, Act.put]) rfl ?_ ?_ ?_ ?_ ?_ ?_ _ rfl ?_; (· exact (hown.alloc _).drew); (· exact World.news_of_block (cs := #[.int .i64 1, .string (s.extract (p + 1) q), av, .bool true, .string ⟨#[]⟩, .int .i64 p]) (heap_alloc_new w9 _)); (· exact six_one av _ _ _ _ _ hav1); (· omega); (· unfold maxLen; omega); (· omega); (· simp; omega); (intro g' cap w1 hown1 hgrow hat1 hlt; have hrd1 := ((HL9.out.rd.alloc _).drew).grown hgrow (HL9.out.rd.row hown (by decide)); have k4 := hrd1.c3; have kf := hrd1.fz 3)))
            all_goals
              go_wp2
              go_end0
              have hE := HEND.out (HL9.out.alloc _).drew hgrow hown1
              rw [show u + 2 = p + (u + 2 - p) by omega] at hE
              exact ⟨rfl, hE⟩
        · have HRR : Hid (R = .error (Sp.stop p (u + 1) ((L s).drop (u + 1)))) := by
            have h := HIN.out
            rw [hD, in_sl_no _ _ _ _ _ _ _ _ hh] at h
            have h2 := HR.out
            rw [← h] at h2
            rw [← h2]
            show Except.error (Sp.stop p (p' + (u - p') + 1) _) = _
            rw [show p' + (u - p') + 1 = u + 1 by omega]
          have HC := Lib.hid hh
          clear hh hD HIN
          have hR2 := HRR.out
          clear HRR HR
          subst hR2
          go_wp2_with fail
          refine (blanks_calls s g p' p out _ HL.out.rd (by omega) hps).mono ?_
          rintro e w1 ⟨rfl, ho, hr1⟩
          rw [HBL.out] at hr1
          have HL1 := Lib.hid (HL.out.goes ho hr1)
          clear ho hr1 HL
          go_wp2_with fail
          refine (has_calls s ⟨#[62]⟩ g u p out _ HL1.out.rd (by omega) hu2).mono ?_
          rintro e w5 ⟨he, n5, rfl⟩
          rw [show (L ⟨#[62]⟩).isPrefixOf ((L s).drop u) = false from H62.out] at he
          subst he
          go_wp2_with fail
          refine (has_calls s ⟨#[47]⟩ g u p out _ (HL1.out.drewN _).rd (by omega) hu2).mono ?_
          rintro e w6 ⟨he, n6, rfl⟩
          rw [show (L ⟨#[47]⟩).isPrefixOf ((L s).drop u) = true from H47.out] at he
          subst he
          go_wp2_with fail
          refine (has_calls s ⟨#[47]⟩ g u p out _ (HL1.out.drewN _).rd (by omega) hu2).mono ?_
          rintro e w7 ⟨he, n7, rfl⟩
          rw [show (L ⟨#[47]⟩).isPrefixOf ((L s).drop u) = true from H47.out] at he
          subst he
          have h1 := HL1.out.rd.c1
          have hf1 := HL1.out.rd.fz 1
          have y3 := HL1.out.c3
          have z3 := HL1.out.fz 3
          have hbg := HL1.out.ne
          go_wp2_with fail
          have HL2 : ∀ z, Hid (OLoc g s p out w (u + 1) b (s.extract (p + 1) q) true av acc (((w1.drewN z).setCell ⟨g, 1, none⟩ (.int .i64 ((u : Int) + 1))).setCell ⟨b, 3, none⟩ (.bool true))) := fun z => Lib.hid ((HL1.out.drewN z).set1 (u + 1)).setEm
          clear h1 hf1 y3 z3 HL1
          refine (want_fails s 62 62 rfl g (u + 1) p out _ (HL2 _).out.rd (by omega) HC.out).mono ?_
          rintro e w8 ⟨he, n8, rfl⟩
          unfold pan at he
          subst he
          go_wp2_with fail
          exact ⟨rfl, rfl, Keep.of_only ((HL2 _).out.drewN n8).only _⟩
      · have H62 : Hid (([62] : List UInt8).isPrefixOf ((L s).drop u) = false) := by
          show _ = false
          cases hd : (L s).drop u with
          | nil => rfl
          | cons c t =>
            rw [pre1, beq_eq_false_iff_ne]
            rw [hd] at h62
            exact fun e => h62 (by rw [e]; rfl)
        have H47 : Hid (([47] : List UInt8).isPrefixOf ((L s).drop u) = false) := by
          show _ = false
          cases hd : (L s).drop u with
          | nil => rfl
          | cons c t =>
            rw [pre1, beq_eq_false_iff_ne]
            rw [hd] at h47
            exact fun e => h47 (by rw [e]; rfl)
        by_cases hgap : u = p'
        · have HRR : Hid (R = .error (Sp.stop p u ((L s).drop u))) := by
            have h := HIN.out
            rw [show u - p' = 0 by omega, in_gap _ _ _ _ _ _ _ h62 h47] at h
            have h2 := HR.out
            rw [← h] at h2
            rw [← h2, hgap]
            rfl
          have hgd : decide (p' < u) = false := by rw [decide_eq_false_iff_not]; omega
          have hR2 := HRR.out
          clear HRR HR HIN h62 h47 hgap
          subst hR2
          go_wp2_with fail
          refine (blanks_calls s g p' p out _ HL.out.rd (by omega) hps).mono ?_
          rintro e w1 ⟨he, ho, hr1⟩
          rw [HBL.out] at hr1 he
          rw [hgd] at he
          subst he
          have HL1 := Lib.hid (HL.out.goes ho hr1)
          clear ho hr1 HL
          go_wp2_with fail
          refine (has_calls s ⟨#[62]⟩ g u p out _ HL1.out.rd (by omega) hu2).mono ?_
          rintro e w5 ⟨he, n5, rfl⟩
          rw [show (L ⟨#[62]⟩).isPrefixOf ((L s).drop u) = false from H62.out] at he
          subst he
          go_wp2_with fail
          refine (has_calls s ⟨#[47]⟩ g u p out _ (HL1.out.drewN _).rd (by omega) hu2).mono ?_
          rintro e w6 ⟨he, n6, rfl⟩
          rw [show (L ⟨#[47]⟩).isPrefixOf ((L s).drop u) = false from H47.out] at he
          subst he
          go_wp2_with fail
          refine (stop_calls s g u p out _ (HL1.out.drewN _).rd (by omega)).mono ?_
          rintro e w7 ⟨he, n7, rfl⟩
          have ho := (HL1.out.drewN (n5 + n6 + n7)).only
          unfold pan at he
          subst he
          go_wp2_with fail
          exact ⟨rfl, rfl, Keep.of_only ho _⟩
        · have hgd : decide (p' < u) = true := by rw [decide_eq_true_iff]; omega
          have hub : u - p' ≠ 0 := by omega
          obtain ⟨RT, hRT⟩ : ∃ x, Sp.attr p u ((L s).drop u) = x := ⟨_, rfl⟩
          have HIN2 : Hid (attrsK p k' u (u - p) ((L s).drop u) acc RT = RA) := by
            have h := HIN.out
            rw [in_attr _ _ _ _ _ _ _ _ h62 h47 hub, show p' + (u - p') = u by omega, hRT, show p' - p + (u - p') = u - p by omega] at h
            rw [← h]
            cases RT <;> rfl
          have hU8 : U8 ((L s).drop u) := by
            have := HU.out.blanks (s := s) (p := p') (by rw [HBL.out]; omega)
            rwa [HBL.out] at this
          have HT : Hid (∀ W, Gl W → Rd W g s u p out → Calls Tryz.prog 126 #[.pointer (some ⟨g, 0, none⟩)] W (AttrEnd g s u p out RT W)) := fun W h1 h2 => attr_calls s g u p out W h1 h2 hs hu2 hU8 RT hRT
          have hmle : ∀ a m, RT = .ok (a, m) → u + m ≤ s.size ∧ 1 ≤ m := fun a m h => by
            have h1 := attr_le p u _ a m (hRT.trans h)
            rw [List.length_drop, L_length] at h1
            exact ⟨by omega, attr_pos p u _ a m (hRT.trans h)⟩
          clear hRT hU8 HIN h62 h47 hub
          go_wp2_with fail
          refine (blanks_calls s g p' p out _ HL.out.rd (by omega) hps).mono ?_
          rintro e w1 ⟨he, ho, hr1⟩
          rw [HBL.out] at hr1 he
          rw [hgd] at he
          subst he
          have HL1 := Lib.hid (HL.out.goes ho hr1)
          clear ho hr1 HL
          go_wp2_with fail
          refine (has_calls s ⟨#[62]⟩ g u p out _ HL1.out.rd (by omega) hu2).mono ?_
          rintro e w5 ⟨he, n5, rfl⟩
          rw [show (L ⟨#[62]⟩).isPrefixOf ((L s).drop u) = false from H62.out] at he
          subst he
          go_wp2_with fail
          refine (has_calls s ⟨#[47]⟩ g u p out _ (HL1.out.drewN _).rd (by omega) hu2).mono ?_
          rintro e w6 ⟨he, n6, rfl⟩
          rw [show (L ⟨#[47]⟩).isPrefixOf ((L s).drop u) = false from H47.out] at he
          subst he
          have x2 := HL1.out.c2
          go_wp2_with fail
          cases RT with
          | error f =>
            have hRA : RA = .error f := HIN2.out.symm
            have hR2 : R = .error f := by rw [← HR.out, hRA]; rfl
            clear HIN2 HR hRA
            subst hR2
            go_region_dies
            all_goals
              refine (HT.out _ (HG.out.only hg8 (HL1.out.drewN _).drew.only) (HL1.out.drewN _).drew.rd).mono ?_
              rintro e w8 ⟨ho, he⟩
              have he : e = pan f := he
              unfold pan at he
              subst he
              go_wp2_with fail
              exact ⟨rfl, rfl, Keep.of_only ((HL1.out.drewN _).drew.only.trans ho) _⟩
          | ok r =>
            obtain ⟨a, m⟩ := r
            have hm := hmle a m rfl
            have hm1 := hm.1
            have hm2 := hm.2
            have HIN3 : Hid (Sp.attrs p k' (u + m) ((L s).drop (u + m)) (acc ++ [a]) (u + m - p) = RA) := by
              have h := HIN2.out
              have h : Sp.attrs p k' (u + m) (((L s).drop u).drop m) (acc ++ [a]) (u - p + m) = RA := h
              rw [List.drop_drop, show u - p + m = u + m - p by omega] at h
              exact h
            clear hmle hm HIN2
            obtain ⟨i0, hi, hz0, hz1, hz2⟩ := info_parts infoAttr
            go_region_law (first
              | (refine step_append_lies _ rfl (.tmp 31) (.tmp 34) 38 rfl w.heap.size 42 i0 _ 3 40 Tryz.underlying38 hi hz0 hz1 hz2 rfl (by decide) av acc.length (acc.flatMap atCells) (by simp [Act.eval, Act.put]) ?_ ⟨w8.heap.size, 0, none⟩ 1 1 [.string ⟨a.name.toArray⟩, .string ⟨a.value.toArray⟩, .int .i64 a.at_] (by simp [Act.eval, Act.put]) rfl ?_ ?_ ?_ ?_ ?_ ?_ _ rfl ?_; (· exact (HL8.out.alloc _).ats); (· exact World.news_of_block (cs := #[.string ⟨a.name.toArray⟩, .string ⟨a.value.toArray⟩, .int .i64 a.at_]) (heap_alloc_new w8 _)); (· simp [Value.oneCell']); (· omega); (· unfold maxLen; omega); (· omega); (· simp; omega); (intro g' cap w10 hown1 hgrow hat1 hlt; have hk10 := (HL8.out.alloc _).kept2 hgrow; have x10 := hk10.1; have f10 := hk10.2; clear hk10))
              | (go_simp; go_at_call 126; refine (HT.out _ ?_ ?_).mono ?_; (· exact HG.out.only hg8 (HL1.out.drewN _).drew.only); (· exact (HL1.out.drewN _).drew.rd); (rintro e w8 ⟨ho, he⟩; have he : e = .returned (.agg #[.string ⟨a.name.toArray⟩, .string ⟨a.value.toArray⟩, .int .i64 a.at_]) ∧ Rd w8 g s (u + m) p out := he; obtain ⟨rfl, hr8⟩ := he; have HL8 := Lib.hid ((HL1.out.drewN _).drew.goes ho hr8); have x8 := HL8.out.c2; have x8a := fun o => (HL8.out.alloc o).c2; have hB8 := HL8.out.only.size; clear ho hr8; go_wp2_with fail)))
            all_goals
              go_wp2
              go_roundg k'
              case measure => omega
              case rel => exact ⟨u + m, _, acc ++ [a], by omega, hm1, by omega, by rw [List.length_append, List.length_singleton]; omega, HIN3, Lib.hid ((HL8.out.alloc _).more hgrow hown1)⟩
end Go.Proofs.YtokdclmikllepaaGreatDoor
