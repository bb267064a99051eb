import Derived.Test.YtokdclmikllepaaGreatDoorKt35
namespace Go.Proofs.YtokdclmikllepaaGreatDoor
open Go.RowKit Go.Maps
set_option linter.unusedVariables false
set_option linter.unusedSimpArgs false

/-- Elements that the call owns from block B on. -/
def ElsAt (B : Nat) (w : World) (v : Value) (l : List Sp.EE) : Prop :=
  ∃ ps : List (Sp.EE × Value), ps.map Prod.fst = l ∧ (∀ x ∈ ps, EasAt B w x.2 x.1.attrs) ∧ w.ownsRow B 53 5 v ps.length (ps.flatMap fun x => eeCells x.1 x.2)
theorem ElsAt.toR {B : Nat} {w : World} {v : Value} {l : List Sp.EE} (h : ElsAt B w v l) : ElsR w v l := by
  obtain ⟨ps, hps, hat, hown⟩ := h
  have hpl : ps.length = l.length := by rw [← hps, List.length_map]
  by_cases h0 : ps.length = 0
  · obtain ⟨a, c, rfl⟩ := own_len hown
    exact ⟨a, c, by rw [hpl], fun h => by omega⟩
  · obtain ⟨g, cap, rfl, hb, hlt, hc⟩ := ownsRow_cells hown (by omega)
    refine ⟨_, _, by rw [hpl], fun _ => ⟨g, 0, rfl, hlt, fun i x hx => ?_⟩⟩
    rw [← hps, List.getElem?_map] at hx
    obtain ⟨y, hy, rfl⟩ := Option.map_eq_some_iff.1 hx
    have hf := fun k hk => flat_get (fun x : Sp.EE × Value => eeCells x.1 x.2) 5 (fun _ => rfl) ps i k hk
    refine ⟨y.2, (hat y (List.mem_of_getElem? hy)).toR, ?_⟩
    rw [Nat.zero_add]
    refine ⟨hc _ _ ?_, hc _ _ ?_, hc _ _ ?_, hc _ _ ?_, hc _ _ ?_⟩
    · rw [show i * 5 = i * 5 + 0 from rfl, hf 0 (by omega), hy]; rfl
    · rw [hf 1 (by omega), hy]; rfl
    · rw [hf 2 (by omega), hy]; rfl
    · rw [hf 3 (by omega), hy]; rfl
    · rw [hf 4 (by omega), hy]; rfl
theorem ElsAt.below {B : Nat} {w w' : World} {v : Value} {l : List Sp.EE} (h : ElsAt B w v l) (hb : Below w.heap.size w w') : ElsAt B w' v l := by
  obtain ⟨ps, h1, h2, h3⟩ := h
  exact ⟨ps, h1, fun x hx => own_below (h2 x hx) hb, own_below h3 hb⟩
/-- How Parse ends. -/
def ParseEnd (R : Except Sp.Flt (List Sp.EE)) (w : World) (e : Ending) (w' : World) : Prop :=
  Below w.heap.size w w' ∧ match R with
  | .error f => e = .returned (.tuple #[.slice none 0 0, .int .i64 f.1, .int .i64 f.2])
  | .ok l => ∃ v, e = .returned (.tuple #[v, .int .i64 0, .int .i64 0]) ∧ ElsAt w.heap.size w' v l
theorem marks_code0 (l : List UInt8) (f : Sp.Flt) (h : Sp.marks l = .error f) : f.2 ≠ 0 := by
  unfold Sp.marks at h
  split at h
  · injection h with h; subst h; simp
  · split at h
    · injection h with h; subst h; simp
    · split at h
      · injection h with h; subst h; simp
      · split at h
        · rename_i f0 hp
          injection h with h
          subst h
          have := ((prolog_fd l).1 _ hp).1
          subst this; simp
        · have := (pieces_fd _ _ _ _ _ h).2.2
          omega
def parse2 (n : Nat) : Except Sp.Flt Sp.Bd → Except Sp.Flt (List Sp.EE)
  | .error f => .error f
  | .ok b => Sp.endOf n b
theorem parse_is2 {l : List UInt8} {ms : List Sp.Mk} (h : Sp.marks l = .ok ms) : Sp.parse l = parse2 l.length (Sp.runB ([], []) ms) := by
  unfold Sp.parse
  rw [h]
  simp only
  cases Sp.runB ([], []) ms <;> rfl
theorem runB_cons {b : Sp.Bd} {m : Sp.Mk} {t : List Sp.Mk} : Sp.runB b (m :: t) = match Sp.stepB b m with | .error f => .error f | .ok b' => Sp.runB b' t := rfl

set_option maxHeartbeats 2000000 in
set_option maxRecDepth 100000 in
theorem parse_err (s : ByteArray) (w : World) (hG : Gl w) (hs : s.size ≤ 140737488351232) (f : Sp.Flt) (hM : Sp.marks (L s) = .error f) :
    Calls Tryz.prog 37 #[.string s] w (ParseEnd (.error f) w) := by
  obtain ⟨p, c⟩ := f
  have hc := marks_code0 _ _ hM
  simp only at hc
  have hcz : ((c : Int) != 0) = true := by rw [bne_iff_ne]; omega
  have HM := Lib.hid hM
  have HG := Lib.hid hG
  clear hM hG hc
  go_enter Tryz.func37, Tryz.ntmps37
  go_wp2_with fail
  refine (marks_err s _ HG.out hs p c HM.out).mono ?_
  rintro e w1 ⟨rfl, hb1⟩
  go_wp2_with fail
  go_ret3
  exact ⟨hb1, rfl⟩

set_option maxHeartbeats 8000000 in
set_option maxRecDepth 100000 in
theorem parse_ok_calls (s : ByteArray) (w : World) (hG : Gl w) (hs : s.size ≤ 140737488351232) (ms : List Sp.Mk) (hM : Sp.marks (L s) = .ok ms) :
    Calls Tryz.prog 37 #[.string s] w (ParseEnd (Sp.parse (L s)) w) := by
  have hP := parse_is2 hM
  obtain ⟨RB, hRB⟩ : ∃ R, Sp.runB ([], []) ms = R := ⟨_, rfl⟩
  rw [hRB, L_length] at hP
  obtain ⟨RP, hRP⟩ : ∃ R, Sp.parse (L s) = R := ⟨_, rfl⟩
  rw [hRP] at hP ⊢
  obtain ⟨hbd1, hbd2, hbd3⟩ := marks_bd _ _ hM
  have hwt := marks_wt _ _ hM
  rw [L_length] at hbd2 hbd3 hwt
  have HBN0 : Hid (Bnd ([], []) ms) := ⟨Nat.zero_le _, Nat.zero_le _, fun k hk => (nomatch hk), fun x hx => (nomatch hx), fun x hx => (nomatch hx), by omega⟩
  have HM := Lib.hid hM
  have HG := Lib.hid hG
  have HP := Lib.hid hP
  have HRB := Lib.hid hRB
  obtain ⟨n, hn⟩ : ∃ n, ms.length = n := ⟨_, rfl⟩
  have hn1 : n ≤ 65536 := by omega
  have HN := Lib.hid hn
  clear hM hG hP hRB hbd1 hbd2 hwt hRP hn
  go_enter Tryz.func37, Tryz.ntmps37
  go_wp2_with fail
  refine (marks_is s _ HG.out hs _ HM.out).mono ?_
  rintro e w1 ⟨hb1, v, rfl, hm⟩
  have HB1 := Lib.hid hb1
  obtain ⟨va, vc, hv⟩ := hm.len
  rw [HN.out] at hv
  subst hv
  have HMS := Lib.hid hm
  clear hm hb1
  go_wp2_with fail
  have HBD0 : Hid (BdAt w.heap.size w1 w1.heap.size ([], []) (w1.alloc (.cells #[.slice none 0 0, .slice none 0 0] 108))) :=
    ⟨.slice none 0 0, .slice none 0 0, [], heap_alloc_new w1 _, World.ownsRow_nil _ _ _ _, rfl, World.ownsRow_nil _ _ _ _, fun x hx => (nomatch hx), (Below.refl _ _).alloc (Nat.le_refl _) _, Nat.le_refl _⟩
  have HC : Hid (∀ j, j < n → ∃ (gm : Nat) (m : Sp.Mk) (av : Value), va = some ⟨gm, 0, none⟩ ∧ ms.drop j = m :: ms.drop (j + 1) ∧ EasAt w.heap.size w1 av (m.attrs.map Sp.At.ea) ∧ ∀ W, Below w1.heap.size w1 W →
      W.cell? ⟨gm, j * 6, none⟩ = some (.int .i64 m.kind) ∧ W.cell? ⟨gm, j * 6 + 1, none⟩ = some (.string ⟨m.name.toArray⟩) ∧ W.cell? ⟨gm, j * 6 + 2, none⟩ = some av ∧ W.cell? ⟨gm, j * 6 + 3, none⟩ = some (.bool m.empty) ∧ W.cell? ⟨gm, j * 6 + 4, none⟩ = some (.string ⟨m.text.toArray⟩) ∧ W.cell? ⟨gm, j * 6 + 5, none⟩ = some (.int .i64 m.at_)) := fun j hj => by
    have hl := HN.out
    obtain ⟨gm, cap, hv, _, hg, hc⟩ := HMS.out.cell (by omega)
    injection hv with hv _ _
    obtain ⟨m, hm⟩ : ∃ m, ms[j]? = some m := ⟨ms[j]'(by omega), List.getElem?_eq_getElem (by omega)⟩
    obtain ⟨av, h1, h2⟩ := hc j m hm
    refine ⟨gm, m, av, hv, ?_, h1.eas, fun W hW => ?_⟩
    · rw [List.drop_eq_getElem_cons (by omega)]
      congr 1
      rw [List.getElem?_eq_getElem (by omega)] at hm
      injection hm
    · have e : ∀ i, W.cell? ⟨gm, i, none⟩ = w1.cell? ⟨gm, i, none⟩ := fun i => World.cell?_of_block (hW.block gm hg)
      simp only [e]
      exact h2
  have HRB0 : Hid (Sp.runB ([], []) (ms.drop 0) = RB) := HRB.out
  have HBN1 : Hid (Bnd ([], []) (ms.drop 0)) := HBN0.out
  go_loopg [24] (n + 1) (fun k i wr => ∃ (j : Nat) (b : Sp.Bd), i = .int .i64 j ∧ j ≤ n ∧ n - j < k ∧ Hid (BdAt w.heap.size w1 w1.heap.size b wr) ∧ Hid (Bnd b (ms.drop j)) ∧ Hid (Sp.runB b (ms.drop j) = RB))
  case atStart => exact ⟨0, ([], []), rfl, Nat.zero_le _, by omega, HBD0, HBN1, HRB0⟩
  case round =>
    clear HBD0 HBN1 HRB0 HBN0
    obtain ⟨j, b, rfl, hj, hk, HBD, HBN, HRJ⟩ := hrel
    by_cases hlt : j < n
    · have hd : decide ((j : Int) < n) = true := by simp; omega
      have hx0 : (0 : Int) ≤ j := by omega
      have hx1 : (j : Int) < n := by omega
      obtain ⟨gm, m, av, hva, hdr, hat, hcell⟩ := HC.out j hlt
      subst hva
      have hbel : Below w1.heap.size w1 wr := by
        obtain ⟨_, _, _, _, _, _, _, _, h, _⟩ := HBD.out
        exact h
      obtain ⟨y0, y1, y2, y3, y4, y5⟩ := hcell wr hbel
      obtain ⟨asx, asz, hav⟩ := own_len hat
      have hbn := HBN.out
      rw [hdr] at hbn
      have hrj := HRJ.out
      rw [hdr, runB_cons] at hrj
      have HV : mkV m av = .agg #[.int .i64 m.kind, .string ⟨m.name.toArray⟩, av, .bool m.empty, .string ⟨m.text.toArray⟩, .int .i64 m.at_] := rfl
      have hbx := fun o => HBD.out.below ((Below.refl _ _).alloc (Nat.le_refl _) o)
      have hs1 := fun o (h : m.kind = 1) => step1_calls w.heap.size w1 w1.heap.size b m _ av (wr.alloc o) (hbx o) hbn h hat
      have hs2 := fun o (h : m.kind = 2) => step2_calls w.heap.size w1 w1.heap.size b m _ av (wr.alloc o) (hbx o) hbn h hat
      have hs3 := fun o (h : m.kind ≠ 1) (h2 : m.kind ≠ 2) => step3_calls w.heap.size w1 w1.heap.size b m _ av (wr.alloc o) (hbx o) hbn h h2 hat
      rw [HV, hav] at hs1 hs2 hs3
      rw [hav] at y2
      obtain ⟨nm, hnm⟩ : ∃ s : ByteArray, (⟨m.name.toArray⟩ : ByteArray) = s := ⟨_, rfl⟩
      obtain ⟨tx, htx⟩ : ∃ s : ByteArray, (⟨m.text.toArray⟩ : ByteArray) = s := ⟨_, rfl⟩
      obtain ⟨kd, hkd⟩ : ∃ s : Nat, m.kind = s := ⟨_, rfl⟩
      obtain ⟨pl, hpl⟩ : ∃ s : Nat, m.at_ = s := ⟨_, rfl⟩
      obtain ⟨em, hem⟩ : ∃ s : Bool, m.empty = s := ⟨_, rfl⟩
      obtain ⟨na, hna⟩ : ∃ s : Nat, (m.attrs.map Sp.At.ea).length = s := ⟨_, rfl⟩
      rw [hna] at y2
      rw [hnm, htx, hkd, hpl, hem, hna] at hs1 hs2 hs3
      rw [hnm] at y1
      rw [htx] at y4
      rw [hkd] at y0
      rw [hpl] at y5
      rw [hem] at y3
      obtain ⟨RS, hRS⟩ : ∃ R, Sp.stepB b m = R := ⟨_, rfl⟩
      rw [hRS] at hs1 hs2 hs3 hrj
      have hcode : ∀ f, RS = .error f → f.2 ≠ 0 := fun f hf => stepB_code (hRS.trans hf)
      have hnext : ∀ b', RS = .ok b' → Bnd b' (ms.drop (j + 1)) := fun b' hb' => hbn.step (hRS.trans hb')
      have HRS := Lib.hid hrj
      have HCODE := Lib.hid hcode
      have HNEXT := Lib.hid hnext
      have HS1 := Lib.hid hs1
      have HS2 := Lib.hid hs2
      have HS3 := Lib.hid hs3
      clear hs1 hs2 hs3 hrj hcode hnext hRS hnm htx hkd hpl hem hna hbx HV hbn hat hcell hdr hav hbel
      have hkk : (Hid (kd = 1) ∧ ((kd : Int) == 1) = true) ∨ (Hid (kd = 2) ∧ ((kd : Int) == 1) = false ∧ ((kd : Int) == 2) = true) ∨ (Hid (kd ≠ 1 ∧ kd ≠ 2) ∧ ((kd : Int) == 1) = false ∧ ((kd : Int) == 2) = false) := by
        by_cases h1 : kd = 1
        · exact .inl ⟨h1, by rw [h1]; rfl⟩
        · by_cases h2 : kd = 2
          · exact .inr (.inl ⟨h2, by rw [h2]; rfl, by rw [h2]; rfl⟩)
          · refine .inr (.inr ⟨⟨h1, h2⟩, ?_, ?_⟩) <;> (rw [beq_eq_false_iff_ne]; omega)
      cases RS with
      | error f =>
        obtain ⟨fp, fc⟩ := f
        have hfc : ((fc : Int) != 0) = true := by
          have := HCODE.out _ rfl
          simp only at this
          rw [bne_iff_ne]; omega
        have hRP : RP = .error (fp, fc) := by
          have h1 : RB = .error (fp, fc) := HRS.out.symm
          rw [HP.out, h1]; rfl
        subst hRP
        rcases hkk with ⟨hk1, hq1⟩ | ⟨hk1, hq1, hq2⟩ | ⟨hk1, hq1, hq2⟩
        · go_wp2_with fail
          (with_reducible refine (HS1.out _ hk1.out).mono ?_)
          rintro e w2 ⟨rfl, hb2⟩
          go_wp2_with fail
          go_ret3
          exact ⟨below_then HB1.out hb2, rfl⟩
        · go_wp2_with fail
          (with_reducible refine (HS2.out _ hk1.out).mono ?_)
          rintro e w2 ⟨rfl, hb2⟩
          go_wp2_with fail
          go_ret3
          exact ⟨below_then HB1.out hb2, rfl⟩
        · go_wp2_with fail
          (with_reducible refine (HS3.out _ hk1.out.1 hk1.out.2).mono ?_)
          rintro e w2 ⟨rfl, hb2⟩
          go_wp2_with fail
          go_ret3
          exact ⟨below_then HB1.out hb2, rfl⟩
      | ok b' =>
        have hn2 := HNEXT.out b' rfl
        rcases hkk with ⟨hk1, hq1⟩ | ⟨hk1, hq1, hq2⟩ | ⟨hk1, hq1, hq2⟩
        · go_wp2_with fail
          (with_reducible refine (HS1.out _ hk1.out).mono ?_)
          rintro e w2 ⟨rfl, hb2⟩
          have HB2 := Lib.hid hb2
          clear hb2 y0 y1 y2 y3 y4 y5
          go_wp2_with fail
          go_roundg (gk - 1)
          case measure => omega
          case rel => exact ⟨j + 1, b', by simp, by omega, by omega, HB2, hn2, HRS⟩
        · go_wp2_with fail
          (with_reducible refine (HS2.out _ hk1.out).mono ?_)
          rintro e w2 ⟨rfl, hb2⟩
          have HB2 := Lib.hid hb2
          clear hb2 y0 y1 y2 y3 y4 y5
          go_wp2_with fail
          go_roundg (gk - 1)
          case measure => omega
          case rel => exact ⟨j + 1, b', by simp, by omega, by omega, HB2, hn2, HRS⟩
        · go_wp2_with fail
          (with_reducible refine (HS3.out _ hk1.out.1 hk1.out.2).mono ?_)
          rintro e w2 ⟨rfl, hb2⟩
          have HB2 := Lib.hid hb2
          clear hb2 y0 y1 y2 y3 y4 y5
          go_wp2_with fail
          go_roundg (gk - 1)
          case measure => omega
          case rel => exact ⟨j + 1, b', by simp, by omega, by omega, HB2, hn2, HRS⟩
    · have hj' : j = n := by omega
      subst hj'
      have hd : decide ((j : Int) < j) = false := by simp
      have hbn := HBN.out
      have hrj := HRJ.out
      rw [List.drop_eq_nil_of_le (by have := HN.out; omega)] at hbn hrj
      have hRP : RP = Sp.endOf s.size b := by rw [HP.out, ← hrj]; rfl
      obtain ⟨E, op⟩ := b
      obtain ⟨outv, openv, ps, hbu, hopa, hps, hown, hat, hbel, hg⟩ := HBD.out
      obtain ⟨h1, h2, h3, h4, h5, h6⟩ := hbn
      simp only at h1 h2 h3 h4 h5 hopa hps
      have hpl' : ps.length = E.length := by rw [← hps, List.length_map]
      have HBU := Lib.hid hbu
      have HOP := Lib.hid hopa
      have HBL := Lib.hid (below_then HB1.out hbel)
      have HL := Lib.hid (show op.length < 100 by omega)
      by_cases h0 : op = []
      · subst h0
        have hup : Sp.upOf [] = -1 := rfl
        by_cases hE : E = []
        · subst hE
          have hRP2 : RP = .error (s.size, 95) := by rw [hRP]; rfl
          subst hRP2
          obtain rfl : ps = [] := List.map_eq_nil_iff.1 hps
          obtain ⟨ea, ec, rfl⟩ := own_len hown
          have c0 := fun m => (hbu.drewN m).c0
          clear hrj hRP h1 h2 h3 h4 h5 h6 hopa hps hown hat hbel hpl' hbu
          go_wp2_with fail
          refine (up_calls _ _ _ _ [] _ HBU.out HOP.out HL.out).mono ?_
          rw [hup]
          rintro e w2 ⟨rfl, q, rfl⟩
          go_wp2_with fail
          go_ret3
          exact ⟨below_drewN HBL.out _, rfl⟩
        · have hRP2 : RP = .ok E := by
            rw [hRP]
            unfold Sp.endOf
            simp only [List.getLast?_nil]
            rw [if_neg hE]
          subst hRP2
          obtain ⟨ea, ec, rfl⟩ := own_len hown
          have hne : ((ps.length : Int) == 0) = false := by
            have := List.length_pos_iff.2 hE
            rw [beq_eq_false_iff_ne]; omega
          have HPOST : Hid (∀ m, ElsAt w.heap.size (wr.drewN m) (.slice ea ps.length ec) E) := fun m =>
            ⟨ps, hps, fun x hx => own_below (hat x hx) (below_drewN hbel m), own_below (ownsRow_le hown HB1.out.size) (below_drewN (Below.refl _ _) m)⟩
          generalize ps.length = k at *
          clear hrj hRP h1 h2 h3 h4 h5 h6 hopa hps hown hat hbel hpl' hbu hE
          have c0 := fun m => (HBU.out.drewN m).c0
          go_wp2_with fail
          refine (up_calls _ _ _ _ [] _ HBU.out HOP.out HL.out).mono ?_
          rw [hup]
          rintro e w2 ⟨rfl, q, rfl⟩
          go_wp2_with fail
          go_ret3
          exact ⟨below_drewN HBL.out _, _, rfl, HPOST.out _⟩
      · obtain ⟨op, i, rfl⟩ : ∃ o k, op = o ++ [k] := by
          rcases List.eq_nil_or_concat op with h | ⟨o, k, h⟩
          · exact absurd h h0
          · exact ⟨o, k, by simpa using h⟩
        have hi : i < E.length := h3 i (by simp)
        obtain ⟨x, hx⟩ : ∃ x, ps[i]? = some x := ⟨_, List.getElem?_eq_getElem (by omega)⟩
        have hEx : E[i]? = some x.1 := by rw [← hps, List.getElem?_map, hx]; rfl
        have hxp := h5 x.1 (List.mem_of_getElem? hEx)
        obtain ⟨pl, hpl⟩ : ∃ pl : Nat, x.1.at_ = (pl : Int) := ⟨x.1.at_.toNat, by omega⟩
        obtain ⟨q, qc, rfl, hq1, hq2, hq3⟩ := ownsRow_cells hown (by omega)
        have hcx := hq3 (i * 5 + 4) (.int .i64 (pl : Int)) (by
          rw [flat_get (fun x : Sp.EE × Value => eeCells x.1 x.2) 5 (fun _ => rfl) ps i 4 (by omega), hx, ← hpl]; rfl)
        have hRP2 : RP = .error (pl, 84) := by
          rw [hRP]
          unfold Sp.endOf
          simp only [List.getLast?_concat]
          rw [List.getD_eq_getElem?_getD, List.getElem?_map, hEx]
          show Except.error (x.1.at_.toNat, 84) = _
          rw [hpl]
          simp
        subst hRP2
        have hb0 : (0 : Int) ≤ (i : Int) := by omega
        have hb1 : (i : Int) < (ps.length : Int) := by omega
        have hge : decide ((0 : Int) ≤ (i : Int)) = true := by simp
        generalize ps.length = k at *
        clear hrj hRP h1 h2 h3 h4 h5 h6 hopa hps hown hat hbel hpl' hbu h0 hi hx hEx hxp hpl hq3
        have c0 := fun m => (HBU.out.drewN m).c0
        have cx : ∀ m, (wr.drewN m).cell? ⟨q, i * 5 + 4, none⟩ = some (.int .i64 (pl : Int)) := fun m => hcx
        go_wp2_with fail
        refine (up_calls _ _ _ _ (op ++ [i]) _ HBU.out HOP.out HL.out).mono ?_
        rw [upOf_snoc]
        rintro e w2 ⟨rfl, qq, rfl⟩
        go_wp2_with fail
        go_quiet (fail)
        go_wp2_with fail
        go_ret3
        exact ⟨below_drewN (below_drewN HBL.out _) _, rfl⟩
theorem parse_calls (s : ByteArray) (w : World) (hG : Gl w) (hs : s.size ≤ 140737488351232) :
    Calls Tryz.prog 37 #[.string s] w (ParseEnd (Sp.parse (L s)) w) := by
  cases hM : Sp.marks (L s) with
  | error f =>
    have : Sp.parse (L s) = .error f := by unfold Sp.parse; rw [hM]
    rw [this]
    exact parse_err s w hG hs f hM
  | ok ms => exact parse_ok_calls s w hG hs ms hM
theorem parse_is (s : ByteArray) (w : World) (hG : Gl w) (hs : s.size ≤ 140737488351232) (R : Except Sp.Flt (List Sp.EE)) (hR : Sp.parse (L s) = R) :
    Calls Tryz.prog 37 #[.string s] w (ParseEnd R w) := hR ▸ parse_calls s w hG hs
end Go.Proofs.YtokdclmikllepaaGreatDoor
