import Derived.Test.YtokdclmikllepaaGreatDoorKt13
import Derived.StillTailTactics
namespace Go.Proofs.YtokdclmikllepaaGreatDoor
open Go.RowKit
set_option linter.unusedVariables false
set_option linter.unusedSimpArgs false

theorem find59 : ∀ (l : List UInt8) (e : Nat), Sp.find [59] l = some e → ∃ a b, l = a ++ 59 :: b ∧ a.length = e
  | [], e, h => by simp [Sp.find] at h
  | c :: t, e, h => by
    rw [Sp.find] at h
    split at h
    · rename_i hp
      injection h with h
      subst h
      have : 59 = c := by simpa [List.isPrefixOf] using hp
      exact ⟨[], t, by rw [this]; rfl, rfl⟩
    · cases hf : Sp.find [59] t with
      | none => rw [hf] at h; cases h
      | some j =>
        rw [hf] at h
        injection h with h
        obtain ⟨a, b, hab, hl⟩ := find59 t j hf
        exact ⟨c :: a, b, by rw [hab]; rfl, by rw [← h]; simp [hl]⟩
theorem reference_u8 (p : Nat) (l x : List UInt8) (m : Nat) (hh : l.head? = some 38) (h : Sp.reference p l = .ok (x, m)) (hU : U8 l) : U8 (l.drop m) := by
  unfold Sp.reference at h
  cases hf : Sp.find [59] (l.take 12) with
  | none => rw [hf] at h; cases h
  | some e =>
    rw [hf] at h
    simp only at h
    obtain ⟨a, b, hab, hl⟩ := find59 _ _ hf
    have hl2 : l = a ++ 59 :: (b ++ l.drop 12) := by
      have : l = (a ++ 59 :: b) ++ l.drop 12 := by rw [← hab]; exact (List.take_append_drop 12 l).symm
      rwa [List.append_assoc] at this
    have hb := (hU.at_ascii a _ 59 hl2 (by decide)).2
    cases hr : Sp.refText ((l.drop 1).take (e - 1)) with
    | none => rw [hr] at h; cases h
    | some t =>
      rw [hr] at h
      injection h with h
      injection h with h1 h2
      have e2 : l.drop m = b ++ l.drop 12 := by
        rw [← h2, ← hl]
        conv => lhs; rw [hl2]
        rw [show a ++ 59 :: (b ++ l.drop 12) = (a ++ [59]) ++ (b ++ l.drop 12) by simp]
        exact List.drop_left' (by simp)
      rw [e2]; exact hb

set_option maxHeartbeats 16000000 in
set_option maxRecDepth 100000 in
theorem text_flat (s : ByteArray) (e : UInt8) (ke : Int) (hke : (e.toNat : Int) = ke) (he38 : e ≠ 38) (he60 : e ≠ 60) (g p fr : Nat) (out : Value) (w : World) (hG : Gl w) (hr : Rd w g s p fr out) (hs : s.size ≤ 65536) (hp : p ≤ s.size) (he128 : e.toNat < 128) (hU : U8 ((L s).drop p)) :
    Calls Tryz.prog 127 #[.pointer (some ⟨g, 0, none⟩), .int .u8 ke, .bool true, .func (.func 148) #[] #[]] w
      (TextEnd true g s p fr out (Sp.text e true fr (s.size - p + 1) p ((L s).drop p) [] 0) w) := by
  obtain ⟨R, hR⟩ : ∃ R, Sp.text e true fr (s.size - p + 1) p ((L s).drop p) [] 0 = R := ⟨_, rfl⟩
  rw [hR]
  have HR := Lib.hid hR
  have hglt := hr.lt
  clear hR
  have HG : Hid (∀ wr, Only g w wr → Gl wr) := fun wr ho => hG.only hr.1 ho
  have HS := TI.start hr
  have HU0 := Lib.hid hU
  clear hU
  have HS2 : Hid (TI g s fr out w p [] (w.alloc (.cells #[.pointer none, .slice none 0 0] 115))) := HS
  clear HS hG hr
  go_enter Tryz.func127, Tryz.ntmps127
  go_wp2_with fail
  go_loopg [10] (s.size - p + 1) (fun k _ wr => ∃ (p' : Nat) (acc : List UInt8) (n : Nat), p ≤ p' ∧ p' ≤ s.size ∧ s.size - p' < k ∧ acc.length ≤ 4 * (p' - p) ∧ Hid (U8 ((L s).drop p')) ∧ Hid (p + n = p') ∧ Hid (Sp.text e true fr k p' ((L s).drop p') acc n = R) ∧ Hid (TI g s fr out w p' acc wr))
  case atStart => exact ⟨p, [], 0, Nat.le_refl _, hp, by omega, by simp, HU0, rfl, HR, HS2⟩
  case round =>
    obtain ⟨p', acc, n, hpp, hps, hk, hal, HU, HN, HT, HI⟩ := hrel
    obtain ⟨k, rfl⟩ : ∃ m, gk = m + 1 := ⟨gk - 1, by omega⟩
    have h0 := HI.out.2.1.c0
    have h1 := HI.out.2.1.c1
    have hf1 := HI.out.2.1.fz 1
    by_cases hlt : p' < s.size
    · have hd : decide ((p' : Int) < s.size) = true := by simp; omega
      have hx0 : (0 : Int) ≤ p' := by omega
      have hx1 : (p' : Int) < s.size := by omega
      have hcu : s[p'].toNat < 256 := s[p'].toNat_lt
      by_cases he : s[p'] = e
      · have hne : ((s[p'].toNat : Int) != ke) = false := by rw [he]; rw [hke]; simp
        have hRR : R = .ok (acc, n) := by
          have := HT.out
          rw [L_drop s p' hlt, he, text_end] at this
          exact this.symm
        have HE := Lib.hid he
        clear he
        subst hRR
        go_wp2_with fail
        go_quiet (fail)
        have HIn : ∀ q, Hid (TI g s fr out w p' acc (wr.drewN q)) := fun q => HI.out.drewN q
        go_wp2_with fail
        refine (want_is s e ke hke g p' fr out _ (HIn _).out.2.1 (by omega) hlt HE.out).mono ?_
        rintro e1 w2 ⟨rfl, ho, hr2⟩
        have HI2 : Hid (TI g s fr out w (p' + 1) acc w2) := (HIn _).out.only ho hr2
        have hsz2 : w.heap.size ≤ w2.heap.size := HI2.out.1.size
        clear ho hr2
        go_wp2_with fail
        refine (Tryz.Builder_String_any _ _ acc _ HI2.out.2.2 hsz2).mono ?_
        rintro e1 w3 ⟨rfl, hbl⟩
        go_wp2_with fail
        go_ret
        exact TextEnd.wantOk (HN.out ▸ hlt) (HI2.out.1.belowB hbl) (HN.out ▸ HI2.out.2.1.belowB hbl hglt)
      · have hne : ((s[p'].toNat : Int) != ke) = true := by rw [bne_iff_ne]; intro h; exact he (UInt8.toNat_inj.1 (by omega))
        by_cases h38 : s[p'] = 38
        · have hb38 : ((s[p'].toNat : Int) == 38) = true := by rw [h38]; rfl
          have hh : ((L s).drop p').head? = some 38 := by rw [L_drop s p' hlt, h38]; rfl
          have hstep := HT.out
          rw [L_drop s p' hlt, h38, text_ref _ _ _ _ _ _ _ _ he38, ← h38, ← L_drop s p' hlt] at hstep
          have HST := Lib.hid hstep
          have HH := Lib.hid hh
          have H3 := Lib.hid h38
          clear hstep hh h38 he
          go_wp2_with fail
          go_quiet (fail)
          go_wp2_with fail
          go_quiet (fail)
          go_wp2_with fail
          have HIn : ∀ q, Hid (TI g s fr out w p' acc (wr.drewN q)) := fun q => HI.out.drewN q
          cases hre : Sp.reference p' ((L s).drop p') with
          | error f =>
            have hRR : R = .error f := by
              have := HST.out
              rw [hre] at this
              exact this.symm
            have HRE := Lib.hid hre
            clear hre
            subst hRR
            refine ((reference_calls s g p' fr out _ (HG.out _ (HIn _).out.1) (HIn _).out.2.1 hs hlt HH.out).2 f HRE.out).mono ?_
            rintro e1 w2 ⟨he1, ho⟩
            unfold pan at he1
            subst he1
            go_wp2_with fail
            exact ⟨rfl, TextEnd.err ((HIn _).out.1.trans ho)⟩
          | ok r =>
            obtain ⟨x, m⟩ := r
            have hlen := reference_len p' _ x m HH.out hre
            rw [List.length_drop, L_length] at hlen
            have hl1 := hlen.1
            have hl2 := hlen.2.1
            have hl3 := hlen.2.2
            have hst2 : Sp.text e true fr k (p' + m) ((L s).drop (p' + m)) (acc ++ x) (n + m) = R := by
              have := HST.out
              rw [hre] at this
              simp only at this
              rw [List.drop_drop] at this
              exact this
            have HU2 := Lib.hid (reference_u8 p' _ x m HH.out hre HU.out)
            rw [List.drop_drop] at HU2
            have HRE := Lib.hid hre
            have HS3 := Lib.hid hst2
            clear hre hst2 hlen
            refine ((reference_calls s g p' fr out _ (HG.out _ (HIn _).out.1) (HIn _).out.2.1 hs hlt HH.out).1 x m HRE.out).mono ?_
            rintro e1 w2 ⟨rfl, ho, hr2⟩
            have HI2 : Hid (TI g s fr out w (p' + m) acc w2) := (HIn _).out.only ho hr2
            have hsz2 : w.heap.size ≤ w2.heap.size := HI2.out.1.size
            clear ho hr2
            go_wp2_with fail
            refine (Builder_WriteString _ _ _ ⟨x.toArray⟩ _ HI2.out.2.2 (by simp [Lib.byteCells, mk_len]; omega) hsz2).mono ?_
            rintro e1 w3 ⟨rfl, hbd, hbl⟩
            have HI3 : Hid (TI g s fr out w (p' + m) (acc ++ x) w3) := HI2.out.write hglt hbd hbl
            clear hbd hbl
            go_wp2_with fail
            go_roundg k
            case measure => omega
            case rel => exact ⟨p' + m, acc ++ x, n + m, by omega, by omega, by omega, by rw [List.length_append]; omega, HU2, by rw [← Nat.add_assoc, HN.out]; rfl, HS3, HI3⟩
        · have hb38 : ((s[p'].toNat : Int) == 38) = false := by rw [beq_eq_false_iff_ne]; intro h; exact h38 (UInt8.toNat_inj.1 (by show _ = 38; omega))
          by_cases h60 : s[p'] = 60
          · have hb60 : ((s[p'].toNat : Int) == 60) = true := by rw [h60]; rfl
            have hRR : R = .error (p', 82) := by
              have := HT.out
              rw [L_drop s p' hlt, h60, text_lt _ _ _ _ _ _ _ _ he60] at this
              exact this.symm
            have hst : Sp.stop fr p' ((L s).drop p') = (p', 82) := by rw [Sp.stop, if_neg (drop_ne s p' hlt)]
            have HST := Lib.hid hst
            clear h60 h38 he hst
            subst hRR
            go_wp2_with fail
            go_quiet (fail)
            go_wp2_with fail
            go_quiet (fail)
            go_wp2_with fail
            have HIn : ∀ q, Hid (TI g s fr out w p' acc (wr.drewN q)) := fun q => HI.out.drewN q
            refine (stop_calls s g p' fr out _ (HIn _).out.2.1 (by omega)).mono ?_
            rintro e1 w2 ⟨he1, q, rfl⟩
            rw [HST.out] at he1
            unfold pan at he1
            subst he1
            go_wp2_with fail
            exact ⟨rfl, TextEnd.err (HIn _).out.1⟩
          · have hb60 : ((s[p'].toNat : Int) == 60) = false := by rw [beq_eq_false_iff_ne]; intro h; exact h60 (UInt8.toNat_inj.1 (by show _ = 60; omega))
            have hpl := text_plain e true fr k p' s[p'] ((L s).drop (p' + 1)) acc n he h38 h60
            have hqb := pl_le e s p' hps
            obtain ⟨q, hq⟩ : ∃ q, pl e s p' = q := ⟨_, rfl⟩
            rw [hq] at hqb
            have hqs := hqb.2
            have hpb : Sp.plainB e s[p'] = true := by simp [Sp.plainB, he, h38, h60]
            have hqp : p' + 1 ≤ q := by rw [← hq, pl_step _ s p' hlt hpb]; exact (pl_le _ s (p' + 1) (by omega)).1
            have htx : L (s.extract p' q) = ((L s).drop p').takeWhile (Sp.plainB e) := by rw [← hq]; exact pl_text _ s p'
            have e1 : p' + (((L s).drop p').takeWhile (Sp.plainB e)).length = q := hq
            have hln : (L (s.extract p' q)).length = q - p' := by rw [htx]; omega
            have hstep : Sp.text e true fr k q ((L s).drop q) (acc ++ Sp.flat true (L (s.extract p' q))) (n + (q - p')) = R := by
              have h := HT.out
              rw [L_drop s p' hlt, hpl, ← L_drop s p' hlt, dropWhile_drop, List.drop_drop, e1, ← htx, hln] at h
              exact h
            have HU3 := Lib.hid (HU.out.while_ e (by first | exact he128 | decide))
            rw [dropWhile_drop, List.drop_drop, e1, ← htx] at HU3
            have HST := Lib.hid hstep
            have HQ := Lib.hid hq
            have HLN := Lib.hid hln
            have h60 := hb60
            clear hstep hpl hq hqb htx hpb hln he h38 e1
            go_wp2_with fail
            go_quiet (fail)
            go_wp2_with fail
            go_quiet (fail)
            go_wp2_with fail
            have HI1 : ∀ z, Hid (TI g s fr out w p' acc (wr.drewN z)) := fun z => HI.out.drewN z
            go_loopg [] (s.size - p' + 1) (fun k2 wr2 => ∃ j, p' ≤ j ∧ j ≤ q ∧ s.size - j < k2 ∧ Hid (pl e s j = q) ∧ Hid (TI g s fr out w j acc wr2))
            case atStart => exact ⟨p', Nat.le_refl _, by omega, by omega, HQ, HI1 _⟩
            case round =>
              clear h0 h1 hf1
              obtain ⟨j, hpj, hjq, hk2, HJ, HI4⟩ := hrel
              have h0 := HI4.out.2.1.c0
              have h1 := HI4.out.2.1.c1
              have hf1 := HI4.out.2.1.fz 1
              by_cases hj : j < s.size
              · have hd2 : decide ((j : Int) < s.size) = true := by simp; omega
                have hx2 : (0 : Int) ≤ j := by omega
                have hx3 : (j : Int) < s.size := by omega
                have hjc : s[j].toNat < 256 := s[j].toNat_lt
                by_cases je : s[j] = e
                · have hb1 : ((s[j].toNat : Int) != ke) = false := by rw [je]; rw [hke]; simp
                  have hjq2 : j = q := (pl_not e s j hj (by simp [Sp.plainB, je])).symm.trans HJ.out
                  subst hjq2
                  clear je hjc
                  go_wp2_with fail
                  go_quiet (fail)
                  go_wp2_with fail
                  have HI5 := fun z => Lib.hid (HI4.out.drewN z)
                  have hx4 : (p' : Int) ≤ j := by omega
                  have hx5 : (j : Int) ≤ s.size := by omega
                  clear hf1
                  have hsz : (s.extract p' j).size ≤ 65536 := by rw [← L_length, HLN.out]; omega
                  have hll := flat_len true (L (s.extract p' j))
                  rw [HLN.out] at hll
                  have hbs : (Lib.byteCells acc).length + (⟨(Sp.flat true (L (s.extract p' j))).toArray⟩ : ByteArray).size ≤ 140737488355328 := by simp [Lib.byteCells, mk_len]; omega
                  have hG0 := HG.out _ HI4.out.1
                  go_region_held3 (fun w' => w'.cell? ⟨g, 0, none⟩ = some (.string s) ∧ w'.cell? ⟨g, 1, none⟩ = some (.int .i64 j)) (first | exact ⟨h0, h1⟩) (first | (go_at_call 148; go_must (refine (flat_calls (s.extract p' j) _ (by exact HG.out _ (HI5 _).out.1) hsz HU3.out.1).mono ?_); rintro e w3 ⟨rfl, hbl⟩; clear h0 h1; have HI6 := Lib.hid ((HI5 _).out.below hbl); clear hbl; have h0 := HI6.out.2.1.c0; have h1 := HI6.out.2.1.c1) | (go_at_call 77; go_must (refine (Builder_WriteString _ _ _ ⟨(Sp.flat true (L (s.extract p' j))).toArray⟩ _ HI6.out.2.2 hbs HI6.out.1.size).mono ?_); rintro e w4 ⟨rfl, hbd, hbl4⟩; have HI7 := Lib.hid (HI6.out.write hglt hbd hbl4); clear hbd hbl4 HI6 h0 h1; have h0 := HI7.out.2.1.c0; have h1 := HI7.out.2.1.c1))
                  go_wp2_with fail
                  go_roundg k
                  case measure => omega
                  case rel => exact ⟨j, acc ++ Sp.flat true (L (s.extract p' j)), n + (j - p'), by omega, by omega, by omega, by rw [List.length_append]; omega, Lib.hid HU3.out.2, Lib.hid (by have := HN.out; omega), HST, HI7⟩
                · have hb1 : ((s[j].toNat : Int) != ke) = true := by rw [bne_iff_ne]; intro h; exact je (UInt8.toNat_inj.1 (by omega))
                  by_cases j38 : s[j] = 38
                  · have hb2 : ((s[j].toNat : Int) != 38) = false := by rw [j38]; rfl
                    have hk38 : ((38 : Int) != ke) = true := by rw [bne_iff_ne]; intro h; exact he38 (UInt8.toNat_inj.1 (by show _ = 38; omega))
                    have hjq2 : j = q := (pl_not e s j hj (by simp [Sp.plainB, j38])).symm.trans HJ.out
                    subst hjq2
                    clear je hjc
                    go_wp2_with fail
                    go_quiet (fail)
                    go_wp2_with fail
                    have HI5 := fun z => Lib.hid (HI4.out.drewN z)
                    have hx4 : (p' : Int) ≤ j := by omega
                    have hx5 : (j : Int) ≤ s.size := by omega
                    clear hf1
                    have hsz : (s.extract p' j).size ≤ 65536 := by rw [← L_length, HLN.out]; omega
                    have hll := flat_len true (L (s.extract p' j))
                    rw [HLN.out] at hll
                    have hbs : (Lib.byteCells acc).length + (⟨(Sp.flat true (L (s.extract p' j))).toArray⟩ : ByteArray).size ≤ 140737488355328 := by simp [Lib.byteCells, mk_len]; omega
                    have hG0 := HG.out _ HI4.out.1
                    go_region_held3 (fun w' => w'.cell? ⟨g, 0, none⟩ = some (.string s) ∧ w'.cell? ⟨g, 1, none⟩ = some (.int .i64 j)) (first | exact ⟨h0, h1⟩) (first | (go_at_call 148; go_must (refine (flat_calls (s.extract p' j) _ (by exact HG.out _ (HI5 _).out.1) hsz HU3.out.1).mono ?_); rintro e w3 ⟨rfl, hbl⟩; clear h0 h1; have HI6 := Lib.hid ((HI5 _).out.below hbl); clear hbl; have h0 := HI6.out.2.1.c0; have h1 := HI6.out.2.1.c1) | (go_at_call 77; go_must (refine (Builder_WriteString _ _ _ ⟨(Sp.flat true (L (s.extract p' j))).toArray⟩ _ HI6.out.2.2 hbs HI6.out.1.size).mono ?_); rintro e w4 ⟨rfl, hbd, hbl4⟩; have HI7 := Lib.hid (HI6.out.write hglt hbd hbl4); clear hbd hbl4 HI6 h0 h1; have h0 := HI7.out.2.1.c0; have h1 := HI7.out.2.1.c1))
                    go_wp2_with fail
                    go_roundg k
                    case measure => omega
                    case rel => exact ⟨j, acc ++ Sp.flat true (L (s.extract p' j)), n + (j - p'), by omega, by omega, by omega, by rw [List.length_append]; omega, Lib.hid HU3.out.2, Lib.hid (by have := HN.out; omega), HST, HI7⟩
                  · have hb2 : ((s[j].toNat : Int) != 38) = true := by rw [bne_iff_ne]; intro h; exact j38 (UInt8.toNat_inj.1 (by show _ = 38; omega))
                    by_cases j60 : s[j] = 60
                    · have hb3 : ((s[j].toNat : Int) != 60) = false := by rw [j60]; rfl
                      have hk60 : ((60 : Int) != ke) = true := by rw [bne_iff_ne]; intro h; exact he60 (UInt8.toNat_inj.1 (by show _ = 60; omega))
                      have hjq2 : j = q := (pl_not e s j hj (by simp [Sp.plainB, j60])).symm.trans HJ.out
                      subst hjq2
                      clear je hjc
                      go_wp2_with fail
                      go_quiet (fail)
                      go_wp2_with fail
                      have HI5 := fun z => Lib.hid (HI4.out.drewN z)
                      have hx4 : (p' : Int) ≤ j := by omega
                      have hx5 : (j : Int) ≤ s.size := by omega
                      clear hf1
                      have hsz : (s.extract p' j).size ≤ 65536 := by rw [← L_length, HLN.out]; omega
                      have hll := flat_len true (L (s.extract p' j))
                      rw [HLN.out] at hll
                      have hbs : (Lib.byteCells acc).length + (⟨(Sp.flat true (L (s.extract p' j))).toArray⟩ : ByteArray).size ≤ 140737488355328 := by simp [Lib.byteCells, mk_len]; omega
                      have hG0 := HG.out _ HI4.out.1
                      go_region_held3 (fun w' => w'.cell? ⟨g, 0, none⟩ = some (.string s) ∧ w'.cell? ⟨g, 1, none⟩ = some (.int .i64 j)) (first | exact ⟨h0, h1⟩) (first | (go_at_call 148; go_must (refine (flat_calls (s.extract p' j) _ (by exact HG.out _ (HI5 _).out.1) hsz HU3.out.1).mono ?_); rintro e w3 ⟨rfl, hbl⟩; clear h0 h1; have HI6 := Lib.hid ((HI5 _).out.below hbl); clear hbl; have h0 := HI6.out.2.1.c0; have h1 := HI6.out.2.1.c1) | (go_at_call 77; go_must (refine (Builder_WriteString _ _ _ ⟨(Sp.flat true (L (s.extract p' j))).toArray⟩ _ HI6.out.2.2 hbs HI6.out.1.size).mono ?_); rintro e w4 ⟨rfl, hbd, hbl4⟩; have HI7 := Lib.hid (HI6.out.write hglt hbd hbl4); clear hbd hbl4 HI6 h0 h1; have h0 := HI7.out.2.1.c0; have h1 := HI7.out.2.1.c1))
                      go_wp2_with fail
                      go_roundg k
                      case measure => omega
                      case rel => exact ⟨j, acc ++ Sp.flat true (L (s.extract p' j)), n + (j - p'), by omega, by omega, by omega, by rw [List.length_append]; omega, Lib.hid HU3.out.2, Lib.hid (by have := HN.out; omega), HST, HI7⟩
                    · have hb3 : ((s[j].toNat : Int) != 60) = true := by rw [bne_iff_ne]; intro h; exact j60 (UInt8.toNat_inj.1 (by show _ = 60; omega))
                      have hpb : Sp.plainB e s[j] = true := by simp [Sp.plainB, je, j38, j60]
                      have hstep2 := pl_step e s j hj hpb
                      rw [HJ.out] at hstep2
                      have hle2 := pl_le e s (j + 1) (by omega)
                      rw [← hstep2] at hle2
                      have hle3 := hle2.1
                      have HS4 := Lib.hid hstep2.symm
                      clear je j38 hpb hle2 hstep2 hjc j60
                      go_wp2_with fail
                      go_quiet (fail)
                      go_wp2_with fail
                      go_roundg (gk - 1)
                      case measure => omega
                      case rel => exact ⟨j + 1, by omega, by omega, by omega, HS4, (HI4.out.drewN _).move⟩
              · have hd2 : decide ((j : Int) < s.size) = false := by simp; omega
                have je := 0
                have hjc := 0
                have hjq2 : j = q := (pl_end e s j (by omega)).symm.trans HJ.out
                subst hjq2
                clear je hjc
                go_wp2_with fail
                go_quiet (fail)
                go_wp2_with fail
                have HI5 := fun z => Lib.hid (HI4.out.drewN z)
                have hx4 : (p' : Int) ≤ j := by omega
                have hx5 : (j : Int) ≤ s.size := by omega
                clear hf1
                have hsz : (s.extract p' j).size ≤ 65536 := by rw [← L_length, HLN.out]; omega
                have hll := flat_len true (L (s.extract p' j))
                rw [HLN.out] at hll
                have hbs : (Lib.byteCells acc).length + (⟨(Sp.flat true (L (s.extract p' j))).toArray⟩ : ByteArray).size ≤ 140737488355328 := by simp [Lib.byteCells, mk_len]; omega
                have hG0 := HG.out _ HI4.out.1
                go_region_held3 (fun w' => w'.cell? ⟨g, 0, none⟩ = some (.string s) ∧ w'.cell? ⟨g, 1, none⟩ = some (.int .i64 j)) (first | exact ⟨h0, h1⟩) (first | (go_at_call 148; go_must (refine (flat_calls (s.extract p' j) _ (by exact HG.out _ (HI5 _).out.1) hsz HU3.out.1).mono ?_); rintro e w3 ⟨rfl, hbl⟩; clear h0 h1; have HI6 := Lib.hid ((HI5 _).out.below hbl); clear hbl; have h0 := HI6.out.2.1.c0; have h1 := HI6.out.2.1.c1) | (go_at_call 77; go_must (refine (Builder_WriteString _ _ _ ⟨(Sp.flat true (L (s.extract p' j))).toArray⟩ _ HI6.out.2.2 hbs HI6.out.1.size).mono ?_); rintro e w4 ⟨rfl, hbd, hbl4⟩; have HI7 := Lib.hid (HI6.out.write hglt hbd hbl4); clear hbd hbl4 HI6 h0 h1; have h0 := HI7.out.2.1.c0; have h1 := HI7.out.2.1.c1))
                go_wp2_with fail
                go_roundg k
                case measure => omega
                case rel => exact ⟨j, acc ++ Sp.flat true (L (s.extract p' j)), n + (j - p'), by omega, by omega, by omega, by rw [List.length_append]; omega, Lib.hid HU3.out.2, Lib.hid (by have := HN.out; omega), HST, HI7⟩
    · have hps' : p' = s.size := by omega
      subst hps'
      have hd : decide ((s.size : Int) < s.size) = false := by simp
      have hnil : (L s).drop s.size = [] := List.drop_eq_nil_of_le (by rw [L_length]; exact Nat.le_refl _)
      have hRR : R = .ok (acc, n) := by
        have := HT.out
        rw [hnil, text_nil] at this
        exact this.symm
      subst hRR
      have HNL := Lib.hid hnil
      clear hnil
      go_wp2_with fail
      go_quiet (fail)
      go_wp2_with fail
      refine (want_fails s e ke hke g s.size fr out _ (HI.out.drewN _).2.1 (by omega) (by rw [HNL.out]; simp)).mono ?_
      rintro e1 w2 ⟨he1, q, rfl⟩
      rw [HNL.out, show Sp.stop fr s.size [] = (fr, 84) from rfl] at he1
      unfold pan at he1
      subst he1
      go_wp2_with fail
      exact ⟨rfl, TextEnd.wantEnd HN.out (HI.out.drewN _).1⟩

end Go.Proofs.YtokdclmikllepaaGreatDoor
