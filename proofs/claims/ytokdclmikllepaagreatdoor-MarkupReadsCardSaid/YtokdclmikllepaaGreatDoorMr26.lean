import Derived.Test.YtokdclmikllepaaGreatDoorMr18
import Derived.Test.YtokdclmikllepaaGreatDoorMr25
namespace Go.Proofs.YtokdclmikllepaaGreatDoor
open Go.RowKit
set_option linter.unusedVariables false
set_option linter.unusedSimpArgs false

/-- A fault, as the document's answer tells it. -/
def fltV (f : Sp.Flt) : Value := .agg #[.int .i64 f.1, .int .i64 f.2]
def okV : Value := .agg #[.int .i64 0, .int .i64 0]

/-- How the document's text ends. -/
def RTextEnd (p : Nat) (R : Except Sp.Flt (List UInt8 × Nat)) (w : World) (e : Ending) (w' : World) : Prop :=
  (match R with
    | .ok (t, n) => e = .returned (.tuple #[.string ⟨t.toArray⟩, .int .i64 ((p + n : Nat) : Int), okV])
    | .error f => e = .returned (.tuple #[.string ⟨#[]⟩, .int .i64 f.1, fltV f])) ∧ Below w.heap.size w w'

/-- What holds at the head of each round: the fault's cells, and the row of bytes. -/
structure TRow (w wr : World) (v : Value) (acc : List UInt8) : Prop where
  below : Below (w.heap.size + 1) (w.alloc (.cells #[.int .i64 0, .int .i64 0] 27)) wr
  own : OwnB (w.heap.size + 1) wr v acc

theorem TRow.size {w wr : World} {v : Value} {acc : List UInt8} (h : TRow w wr v acc) : w.heap.size + 1 ≤ wr.heap.size := by
  have := h.below.size
  have e : (w.alloc (.cells #[.int .i64 0, .int .i64 0] 27)).heap.size = w.heap.size + 1 := by simp
  rw [e] at this
  exact this
theorem TRow.blk {w wr : World} {v : Value} {acc : List UInt8} (h : TRow w wr v acc) : wr.heap[w.heap.size]? = some (.cells #[.int .i64 0, .int .i64 0] 27 (0, 0)) :=
  (h.below.block _ (Nat.lt_succ_self _)).trans (heap_alloc_new w _)
theorem TRow.c0 {w wr : World} {v : Value} {acc : List UInt8} (h : TRow w wr v acc) : wr.cell? ⟨w.heap.size, 0, none⟩ = some (.int .i64 0) := cell_of_row wr w.heap.size 0 _ _ _ h.blk
theorem TRow.c1 {w wr : World} {v : Value} {acc : List UInt8} (h : TRow w wr v acc) : wr.cell? ⟨w.heap.size, 1, none⟩ = some (.int .i64 0) := cell_of_row wr w.heap.size 1 _ _ _ h.blk
theorem TRow.fz {w wr : World} {v : Value} {acc : List UInt8} (h : TRow w wr v acc) (i : Nat) : wr.frozen? ⟨w.heap.size, i, none⟩ = false := by
  have := h.blk
  simp [World.frozen?, this]
theorem TRow.start (w : World) : TRow w (w.alloc (.cells #[.int .i64 0, .int .i64 0] 27)) (.slice none 0 0) [] := ⟨Below.refl _ _, OwnB.nil _ _⟩
theorem TRow.next {w wr w2 : World} {v : Value} {acc : List UInt8} (h : TRow w wr v acc) (hb : Below wr.heap.size wr w2) : TRow w w2 v acc :=
  ⟨h.below.trans (hb.mono h.size), h.own.below hb⟩
theorem TRow.grow {w wr w2 : World} {v v2 : Value} {acc acc2 : List UInt8} (h : TRow w wr v acc) (hb : Below (w.heap.size + 1) wr w2) (ho : OwnB (w.heap.size + 1) w2 v2 acc2) : TRow w w2 v2 acc2 :=
  ⟨h.below.trans hb, ho⟩
theorem TRow.only {w wr : World} {v : Value} {acc : List UInt8} (h : TRow w wr v acc) : Below w.heap.size w wr :=
  ((Below.refl _ _).alloc (Nat.le_refl _) _).trans (h.below.mono (Nat.le_succ _))

theorem below_set {B : Nat} {w : World} (i : Nat) (u : Value) : Below B w (w.setCell ⟨B, i, none⟩ u) :=
  ⟨rfl, rfl, rfl, by simp [World.setCell], fun k hk => Below.heap_setCell w _ u k (by show k ≠ B; omega)⟩

/-- The fault's cells, written. -/
theorem TRow.fin {w wr : World} {v : Value} {acc : List UInt8} (h : TRow w wr v acc) (x y : Value) {W' : World} (hW : ((wr.setCell ⟨w.heap.size, 0, none⟩ x).setCell ⟨w.heap.size, 1, none⟩ y) = W') :
    Below w.heap.size w W' ∧ W'.cell? ⟨w.heap.size, 0, none⟩ = some x ∧ W'.cell? ⟨w.heap.size, 1, none⟩ = some y := by
  subst hW
  have hb := heap_set _ _ 1 _ _ _ y (heap_set _ _ 0 _ _ _ x h.blk)
  exact ⟨h.only.trans ((below_set _ _).trans (below_set _ _)), cell_of_row _ _ 0 _ _ _ hb, cell_of_row _ _ 1 _ _ _ hb⟩

theorem reference_err {p : Nat} {l : List UInt8} {f : Sp.Flt} (h : Sp.reference p l = .error f) : f = (p, 83) := by
  unfold Sp.reference at h
  repeat' (split at h)
  all_goals first | (injection h with h; exact h.symm) | cases h

theorem refFlat_is (s : ByteArray) (b : Bool) (l : List UInt8) (w : World) (hs : s.size ≤ 65536) (hl : Sp.flat b (L s) = l) :
    Calls Tryz.prog 55 #[.string s, .bool b] w fun e w' => ∃ v, e = .returned v ∧ OwnB w.heap.size w' v l ∧ Below w.heap.size w w' := hl ▸ refFlat_calls s b w hs

theorem refReference_is (s : ByteArray) (p : Nat) (w : World) (hs : s.size ≤ 140737488351232) (hp : p < s.size) (h38 : s[p] = 38) (R : Except Sp.Flt (List UInt8 × Nat)) (hR : Sp.reference p ((L s).drop p) = R) :
    Calls Tryz.prog 101 #[.string s, .int .i64 p] w (RefEnd p R w) := hR ▸ refReference_calls s p w hs hp h38

set_option maxHeartbeats 16000000 in
set_option maxRecDepth 100000 in
theorem refText_calls (s : ByteArray) (p fr : Nat) (e : UInt8) (b : Bool) (w : World) (hs : s.size ≤ 65536) (hp : p ≤ s.size) (he38 : e ≠ 38) :
    Calls Tryz.prog 58 #[.string s, .int .i64 p, .int .u8 (e.toNat : Int), .bool b] w (RTextEnd p (Sp.text e b fr (s.size - p + 1) p ((L s).drop p) [] 0) w) := by
  obtain ⟨R, hR⟩ : ∃ R, Sp.text e b fr (s.size - p + 1) p ((L s).drop p) [] 0 = R := ⟨_, rfl⟩
  rw [hR]
  have HR := Lib.hid hR
  clear hR
  have HS := Lib.hid (TRow.start w)
  go_enter Tryz.func58, Tryz.ntmps58
  go_wp2_with fail
  go_loopg [1, 11, 12, 13, 14] (s.size - p + 1) (fun kk i v _ _ _ wr => ∃ (p' : Nat) (acc : List UInt8) (n : Nat) (vo : Value), vo = v ∧ i = .int .i64 p' ∧ p ≤ p' ∧ p' ≤ s.size ∧ s.size - p' < kk ∧ acc.length ≤ 4 * (p' - p) ∧ Hid (p + n = p') ∧ Hid (Sp.text e b fr kk p' ((L s).drop p') acc n = R) ∧ Hid (TRow w wr v acc))
  case atStart => exact ⟨p, [], 0, _, rfl, rfl, Nat.le_refl _, hp, by omega, by simp, rfl, HR, HS⟩
  case round =>
    obtain ⟨p', acc, n, v, rfl, rfl, hpp, hps, hk, hal, HN, HT, HI⟩ := hrel
    obtain ⟨k, rfl⟩ : ∃ m, gk = m + 1 := ⟨gk - 1, by omega⟩
    have hsz := HI.out.size
    have fc0 := HI.out.c0
    have fc1 := HI.out.c1
    have ff0 := HI.out.fz 0
    have ff1 := HI.out.fz 1
    by_cases hlt : p' < s.size
    · have hd : decide ((p' : Int) < s.size) = true := by simp; omega
      have hx0 : (0 : Int) ≤ p' := by omega
      have hx1 : (p' : Int) < s.size := by omega
      have hcu : s[p'].toNat < 256 := s[p'].toNat_lt
      by_cases he : s[p'] = e
      · have hne : ((s[p'].toNat : Int) != (e.toNat : Int)) = false := by rw [he]; simp
        have hRR : R = .ok (acc, n) := by
          have := HT.out
          rw [L_drop s p' hlt, he, text_end] at this
          exact this.symm
        clear he
        subst hRR
        have hconv := HI.out.own.conv
        go_wp2_with fail
        generalize hW : World.setCell (World.setCell _ _ _) _ _ = W'
        obtain ⟨f1, f2, f3⟩ := HI.out.fin _ _ hW
        clear hW
        refine bodyPost_ret (v := .tuple #[.string ⟨acc.toArray⟩, .int .i64 p', .agg #[(.int .i64 0), (.int .i64 0)]]) ?_ rfl ?_
        · simp [results, Tryz.f58, go_sem, f2, f3]
        · exact ⟨by rw [← HN.out]; rfl, f1⟩
      · have hne : ((s[p'].toNat : Int) != (e.toNat : Int)) = true := by rw [bne_iff_ne]; intro h; exact he (UInt8.toNat_inj.1 (by omega))
        by_cases h60 : s[p'] = 60
        · have hb60 : ((s[p'].toNat : Int) == 60) = true := by rw [h60]; rfl
          have hRR : R = .error (p', 82) := by
            have := HT.out
            rw [L_drop s p' hlt, h60, text_lt _ _ _ _ _ _ _ _ (fun h => he (by rw [h60, h]))] at this
            exact this.symm
          clear he h60
          subst hRR
          go_wp2_with fail
          generalize hW : World.setCell (World.setCell _ _ _) _ _ = W'
          obtain ⟨f1, f2, f3⟩ := HI.out.fin _ _ hW
          clear hW
          refine bodyPost_ret (v := .tuple #[.string ⟨#[]⟩, .int .i64 p', .agg #[(.int .i64 p'), (.int .i64 82)]]) ?_ rfl ?_
          · simp [results, Tryz.f58, go_sem, f2, f3]
          · exact ⟨rfl, f1⟩
        · have hb60 : ((s[p'].toNat : Int) == 60) = false := u8_ne (k := 60) 60 rfl h60
          by_cases h38 : s[p'] = 38
          · have hb38 : ((s[p'].toNat : Int) == 38) = true := by rw [h38]; rfl
            have hh : ((L s).drop p').head? = some 38 := by rw [L_drop s p' hlt, h38]; rfl
            have hstep := HT.out
            rw [L_drop s p' hlt, h38, text_ref _ _ _ _ _ _ _ _ he38, ← h38, ← L_drop s p' hlt] at hstep
            have HST := Lib.hid hstep
            have HH := Lib.hid hh
            have H3 := Lib.hid h38
            clear hstep hh h38 he h60
            cases hre : Sp.reference p' ((L s).drop p') with
            | error f =>
              have hf := reference_err hre
              subst hf
              have hRR : R = .error (p', 83) := by
                have := HST.out
                rw [hre] at this
                exact this.symm
              have HRE := Lib.hid hre
              clear hre
              subst hRR
              go_wp2_with (go_at_call 101; refine (refReference_is s p' _ (by omega) hlt H3.out _ HRE.out).mono ?_; rintro e1 w2 ⟨rfl, hb2⟩; have HI2 := Lib.hid (HI.out.next hb2); have fc0 := HI2.out.c0; have fc1 := HI2.out.c1; have ff0 := HI2.out.fz 0; have ff1 := HI2.out.fz 1)
              generalize hW : World.setCell (World.setCell _ _ _) _ _ = W'
              obtain ⟨f1, f2, f3⟩ := HI2.out.fin _ _ hW
              clear hW
              refine bodyPost_ret (v := .tuple #[.string ⟨#[]⟩, .int .i64 p', .agg #[(.int .i64 p'), (.int .i64 83)]]) ?_ rfl ?_
              · simp [results, Tryz.f58, go_sem, f2, f3]
              · exact ⟨rfl, f1⟩
            | ok r =>
              obtain ⟨x, m⟩ := r
              have hlen := reference_len p' _ x m HH.out hre
              rw [List.length_drop, L_length] at hlen
              have hl1 := hlen.1
              have hl2 := hlen.2.1
              have hl3 := hlen.2.2
              have HRE := Lib.hid hre
              have hstep : Sp.text e b fr k (p' + m) ((L s).drop (p' + m)) (acc ++ x) (n + m) = R := by
                have := HST.out
                rw [HRE.out] at this
                simp only [List.drop_drop] at this
                exact this
              have HS2 := Lib.hid hstep
              clear hre hlen hstep
              have hz : (((p' + m : Nat) : Int) == 0) = false := by rw [beq_eq_false_iff_ne]; omega
              have hz2 : ((p' : Int) + (m : Int) == 0) = false := by rw [beq_eq_false_iff_ne]; omega
              go_wp2_with (first
                | (go_at_call 101; refine (refReference_is s p' _ (by omega) hlt H3.out _ HRE.out).mono ?_; rintro e1 w2 ⟨rfl, hb2⟩; have HI2 := Lib.hid (HI.out.next hb2))
                | (at_builtin; refine wpList_appS rfl (.tmp 48) (.tmp 49) rfl (w.heap.size + 1) v acc ⟨x.toArray⟩ (by rfl) HI2.out.own (by rfl) (by simp [mk_len]; omega) HI2.out.size ?_; intro v' w3 ho3 hb3; have HI3 := Lib.hid (HI2.out.grow hb3 ho3)))
              go_roundg k
              case measure => omega
              case rel => exact ⟨p' + m, acc ++ x, n + m, v', rfl, by simp, by omega, by omega, by omega, by rw [List.length_append]; omega, Lib.hid (by have := HN.out; omega), HS2, HI3⟩
          · have hb38 : ((s[p'].toNat : Int) == 38) = false := u8_ne (k := 38) 38 rfl h38
            have hpb : Sp.plainB e s[p'] = true := by simp [Sp.plainB, he, h38, h60]
            have hql := pl_le e s p' hps
            have hq1 : p' + 1 ≤ pl e s p' := by rw [pl_step e s p' hlt hpb]; exact (pl_le e s (p' + 1) (by omega)).1
            have hpt := pl_text e s p'
            have hstep := HT.out
            rw [L_drop s p' hlt, text_plain _ _ _ _ _ _ _ _ _ he h38 h60, ← L_drop s p' hlt, ← hpt, dropWhile_drop, List.drop_drop] at hstep
            have hlen : (((L s).drop p').takeWhile (Sp.plainB e)).length = pl e s p' - p' := by unfold pl; omega
            have hlen2 : (L (s.extract p' (pl e s p'))).length = pl e s p' - p' := by rw [hpt, hlen]
            rw [hlen, hlen2] at hstep
            obtain ⟨q, hq⟩ : ∃ q, pl e s p' = q := ⟨_, rfl⟩
            rw [hq] at hql hq1 hstep hlen2
            have e5 : p' + (q - p') = q := by omega
            rw [e5] at hstep
            have HS2 := Lib.hid hstep
            have HQ := Lib.hid hq
            have HL2 := Lib.hid hlen2
            clear hstep hq hpt hlen hlen2 e5 hpb
            go_wp2_with fail
            go_loopg [1] (q - p' + 1) (fun kk i w5 => ∃ j : Nat, i = .int .i64 j ∧ p' ≤ j ∧ j ≤ q ∧ q - j < kk ∧ Hid (pl e s j = q) ∧ w5 = wr)
            case atStart => exact ⟨p', rfl, Nat.le_refl _, by omega, by omega, HQ, rfl⟩
            case round =>
              obtain ⟨j, rfl, hj1, hj2, hkj, HJ, hw5⟩ := hrel
              subst hw5
              by_cases jlt : j < s.size
              · have jd : decide ((j : Int) < s.size) = true := by simp; omega
                have hjx0 : (0 : Int) ≤ j := by omega
                have hjx1 : (j : Int) < s.size := by omega
                have hjc : s[j].toNat < 256 := s[j].toNat_lt
                by_cases je : s[j] = e
                · have jb : ((s[j].toNat : Int) != (e.toNat : Int)) = false := by rw [je]; simp
                  have hjq : j = q := (pl_not e s j jlt (by simp [Sp.plainB, je])).symm.trans HJ.out
                  clear je
                  subst hjq
                  have hy1 : (p' : Int) ≤ j := by omega
                  have hy2 : (j : Int) ≤ s.size := by omega
                  have hxs : (s.extract p' j).size ≤ 65536 := by rw [ByteArray.size_extract]; omega
                  have hfl := flat_len b (L (s.extract p' j))
                  have hl2' := HL2.out
                  go_wp2_with (first
                    | (go_at_call 55; refine (refFlat_is (s.extract p' j) b _ _ hxs rfl).mono ?_; rintro e1 w2 ⟨v2, rfl, ho2, hb2⟩; have HI2 := Lib.hid (HI.out.next hb2))
                    | (at_builtin; refine wpList_appB rfl (.tmp 78) (.tmp 84) rfl (w.heap.size + 1) _ v v2 acc (Sp.flat b (L (s.extract p' j))) (by rfl) HI2.out.own (by rfl) ho2 (by omega) HI2.out.size ?_; intro v' w3 ho3 hb3; have HI3 := Lib.hid (HI2.out.grow hb3 ho3)))
                  go_roundg k
                  case measure => omega
                  case rel => exact ⟨j, acc ++ Sp.flat b (L (s.extract p' j)), n + (j - p'), v', rfl, rfl, by omega, by omega, by omega, by rw [List.length_append]; omega, Lib.hid (by have := HN.out; omega), HS2, HI3⟩
                · have jb : ((s[j].toNat : Int) != (e.toNat : Int)) = true := by rw [bne_iff_ne]; intro h; exact je (UInt8.toNat_inj.1 (by omega))
                  by_cases j60 : s[j] = 60
                  · have jb60 : ((s[j].toNat : Int) != 60) = false := by rw [j60]; rfl
                    have hjq : j = q := (pl_not e s j jlt (by simp [Sp.plainB, j60])).symm.trans HJ.out
                    clear je j60
                    subst hjq
                    have hy1 : (p' : Int) ≤ j := by omega
                    have hy2 : (j : Int) ≤ s.size := by omega
                    have hxs : (s.extract p' j).size ≤ 65536 := by rw [ByteArray.size_extract]; omega
                    have hfl := flat_len b (L (s.extract p' j))
                    have hl2' := HL2.out
                    go_wp2_with (first
                      | (go_at_call 55; refine (refFlat_is (s.extract p' j) b _ _ hxs rfl).mono ?_; rintro e1 w2 ⟨v2, rfl, ho2, hb2⟩; have HI2 := Lib.hid (HI.out.next hb2))
                      | (at_builtin; refine wpList_appB rfl (.tmp 78) (.tmp 84) rfl (w.heap.size + 1) _ v v2 acc (Sp.flat b (L (s.extract p' j))) (by rfl) HI2.out.own (by rfl) ho2 (by omega) HI2.out.size ?_; intro v' w3 ho3 hb3; have HI3 := Lib.hid (HI2.out.grow hb3 ho3)))
                    go_roundg k
                    case measure => omega
                    case rel => exact ⟨j, acc ++ Sp.flat b (L (s.extract p' j)), n + (j - p'), v', rfl, rfl, by omega, by omega, by omega, by rw [List.length_append]; omega, Lib.hid (by have := HN.out; omega), HS2, HI3⟩
                  · have jb60 : ((s[j].toNat : Int) != 60) = true := by rw [bne_iff_ne]; intro h; exact j60 (UInt8.toNat_inj.1 (by show _ = 60; omega))
                    by_cases j38 : s[j] = 38
                    · have jb38 : ((s[j].toNat : Int) != 38) = false := by rw [j38]; rfl
                      have hjq : j = q := (pl_not e s j jlt (by simp [Sp.plainB, j38])).symm.trans HJ.out
                      clear je j60 j38
                      subst hjq
                      have hy1 : (p' : Int) ≤ j := by omega
                      have hy2 : (j : Int) ≤ s.size := by omega
                      have hxs : (s.extract p' j).size ≤ 65536 := by rw [ByteArray.size_extract]; omega
                      have hfl := flat_len b (L (s.extract p' j))
                      have hl2' := HL2.out
                      go_wp2_with (first
                        | (go_at_call 55; refine (refFlat_is (s.extract p' j) b _ _ hxs rfl).mono ?_; rintro e1 w2 ⟨v2, rfl, ho2, hb2⟩; have HI2 := Lib.hid (HI.out.next hb2))
                        | (at_builtin; refine wpList_appB rfl (.tmp 78) (.tmp 84) rfl (w.heap.size + 1) _ v v2 acc (Sp.flat b (L (s.extract p' j))) (by rfl) HI2.out.own (by rfl) ho2 (by omega) HI2.out.size ?_; intro v' w3 ho3 hb3; have HI3 := Lib.hid (HI2.out.grow hb3 ho3)))
                      go_roundg k
                      case measure => omega
                      case rel => exact ⟨j, acc ++ Sp.flat b (L (s.extract p' j)), n + (j - p'), v', rfl, rfl, by omega, by omega, by omega, by rw [List.length_append]; omega, Lib.hid (by have := HN.out; omega), HS2, HI3⟩
                    · have jb38 : ((s[j].toNat : Int) != 38) = true := by rw [bne_iff_ne]; intro h; exact j38 (UInt8.toNat_inj.1 (by show _ = 38; omega))
                      have jpb : Sp.plainB e s[j] = true := by simp [Sp.plainB, je, j38, j60]
                      have hstep2 := pl_step e s j jlt jpb
                      rw [HJ.out] at hstep2
                      have hle2 := pl_le e s (j + 1) (by omega)
                      rw [← hstep2] at hle2
                      clear je j60 j38 jpb
                      go_wp2_with fail
                      go_roundg (gk - 1)
                      case measure => omega
                      case rel => exact ⟨j + 1, by simp, by omega, hle2.1, by omega, hstep2.symm, rfl⟩
              · have jd : decide ((j : Int) < s.size) = false := by simp; omega
                have hjq : j = q := by omega
                subst hjq
                have hy1 : (p' : Int) ≤ j := by omega
                have hy2 : (j : Int) ≤ s.size := by omega
                have hxs : (s.extract p' j).size ≤ 65536 := by rw [ByteArray.size_extract]; omega
                have hfl := flat_len b (L (s.extract p' j))
                have hl2' := HL2.out
                go_wp2_with (first
                  | (go_at_call 55; refine (refFlat_is (s.extract p' j) b _ _ hxs rfl).mono ?_; rintro e1 w2 ⟨v2, rfl, ho2, hb2⟩; have HI2 := Lib.hid (HI.out.next hb2))
                  | (at_builtin; refine wpList_appB rfl (.tmp 78) (.tmp 84) rfl (w.heap.size + 1) _ v v2 acc (Sp.flat b (L (s.extract p' j))) (by rfl) HI2.out.own (by rfl) ho2 (by omega) HI2.out.size ?_; intro v' w3 ho3 hb3; have HI3 := Lib.hid (HI2.out.grow hb3 ho3)))
                go_roundg k
                case measure => omega
                case rel => exact ⟨j, acc ++ Sp.flat b (L (s.extract p' j)), n + (j - p'), v', rfl, rfl, by omega, by omega, by omega, by rw [List.length_append]; omega, Lib.hid (by have := HN.out; omega), HS2, HI3⟩
    · have hd : decide ((p' : Int) < s.size) = false := by simp; omega
      have hRR : R = .ok (acc, n) := by
        have := HT.out
        rw [List.drop_eq_nil_of_le (by rw [L_length]; omega), text_nil] at this
        exact this.symm
      subst hRR
      have hconv := HI.out.own.conv
      go_wp2_with fail
      generalize hW : World.setCell (World.setCell _ _ _) _ _ = W'
      obtain ⟨f1, f2, f3⟩ := HI.out.fin _ _ hW
      clear hW
      refine bodyPost_ret (v := .tuple #[.string ⟨acc.toArray⟩, .int .i64 p', .agg #[(.int .i64 0), (.int .i64 0)]]) ?_ rfl ?_
      · simp [results, Tryz.f58, go_sem, f2, f3]
      · exact ⟨by rw [← HN.out]; rfl, f1⟩
end Go.Proofs.YtokdclmikllepaaGreatDoor
