import Derived.Test.YtokdclmikllepaaGreatDoorKt20
import Derived.Test.YtokdclmikllepaaGreatDoorKt17
import Derived.Deep.DeepCutAuto
import Derived.Laws.EntriesVeiled
namespace Go.Proofs.YtokdclmikllepaaGreatDoor
open Go.RowKit
set_option linter.unusedVariables false
set_option linter.unusedSimpArgs false

theorem piece_at0 {p : Nat} {l : List UInt8} (h : ([60, 33, 45, 45] : List UInt8).isPrefixOf l = true) :
    Sp.piece p l = (match Sp.find [45, 45, 62] (l.drop 4) with | none => Except.error (p, 84) | some i => .ok ([], 4 + i + 3)) := by
  unfold Sp.piece; rw [if_pos h]; rfl
theorem piece_at1 {p : Nat} {l : List UInt8} (h0 : ([60, 33, 45, 45] : List UInt8).isPrefixOf l = false) (h : Sp.cdata9.isPrefixOf l = true) :
    Sp.piece p l = (match Sp.find [93, 93, 62] (l.drop 9) with | none => Except.error (p, 84) | some i => .ok (Sp.tell (Sp.lines ((l.drop 9).take i)) p, 9 + i + 3)) := by
  unfold Sp.piece; rw [if_neg (by rw [h0]; simp), if_pos h]; rfl
theorem piece_at2 {p : Nat} {l : List UInt8} (h0 : ([60, 33, 45, 45] : List UInt8).isPrefixOf l = false) (h1 : Sp.cdata9.isPrefixOf l = false) (h : ([60, 47] : List UInt8).isPrefixOf l = true) :
    Sp.piece p l = (Sp.closing p l).map fun r => ([r.1], r.2) := by
  unfold Sp.piece; rw [if_neg (by rw [h0]; simp), if_neg (by rw [h1]; simp), if_pos h]
theorem piece_at3 {p : Nat} {l : List UInt8} (h0 : ([60, 33, 45, 45] : List UInt8).isPrefixOf l = false) (h1 : Sp.cdata9.isPrefixOf l = false) (h2 : ([60, 47] : List UInt8).isPrefixOf l = false) (h : ([60] : List UInt8).isPrefixOf l = true) :
    Sp.piece p l = (Sp.opening p l).map fun r => ([r.1], r.2) := by
  unfold Sp.piece; rw [if_neg (by rw [h0]; simp), if_neg (by rw [h1]; simp), if_neg (by rw [h2]; simp), if_pos h]
theorem piece_at4 {p : Nat} {l : List UInt8} (h0 : ([60, 33, 45, 45] : List UInt8).isPrefixOf l = false) (h1 : Sp.cdata9.isPrefixOf l = false) (h2 : ([60, 47] : List UInt8).isPrefixOf l = false) (h3 : ([60] : List UInt8).isPrefixOf l = false) :
    Sp.piece p l = (Sp.text 60 false p (l.length + 1) p l [] 0).map fun r => (Sp.tell r.1 p, r.2) := by
  unfold Sp.piece; rw [if_neg (by rw [h0]; simp), if_neg (by rw [h1]; simp), if_neg (by rw [h2]; simp), if_neg (by rw [h3]; simp)]
theorem tell_len (t : List UInt8) (p : Nat) : (Sp.tell t p).length ≤ 1 := by
  unfold Sp.tell; split <;> simp
theorem piece_len {p : Nat} {l : List UInt8} {x : List Sp.Mk} {m : Nat} (h : Sp.piece p l = .ok (x, m)) : x.length ≤ 1 := by
  unfold Sp.piece at h
  split at h
  · split at h
    · cases h
    · injection h with h; injection h with h1 h2; rw [← h1]; simp
  · split at h
    · split at h
      · cases h
      · injection h with h; injection h with h1 h2; rw [← h1]; exact tell_len _ _
    · split at h
      · obtain ⟨y, h1, h2⟩ := map_ok h
        injection h2 with h2 h3; rw [← h2]; simp
      · split at h
        · obtain ⟨y, h1, h2⟩ := map_ok h
          injection h2 with h2 h3; rw [← h2]; simp
        · obtain ⟨y, h1, h2⟩ := map_ok h
          injection h2 with h2 h3; rw [← h2]; exact tell_len _ _
def piecesK (k p : Nat) (l : List UInt8) (acc : List Sp.Mk) : Except Sp.Flt (List Sp.Mk × Nat) → Except Sp.Flt (List Sp.Mk)
  | .error f => .error f
  | .ok (x, m) => Sp.pieces k (p + m) (l.drop m) (acc ++ x)
theorem pieces_in (k p : Nat) (c : UInt8) (t : List UInt8) (acc : List Sp.Mk) : Sp.pieces (k + 1) p (c :: t) acc = piecesK k p (c :: t) acc (Sp.piece p (c :: t)) := by
  unfold Sp.pieces
  cases Sp.piece p (c :: t) <;> rfl
theorem prefix_le {w l : List UInt8} (h : w.isPrefixOf l = true) : w.length ≤ l.length := (List.isPrefixOf_iff_prefix.1 h).length_le

/-- How all ends. -/
def AllEnd (g : Nat) (s : ByteArray) (R : Except Sp.Flt (List Sp.Mk)) (w : World) (e : Ending) (w' : World) : Prop :=
  Only g w w' ∧ match R with
  | .error f => e = pan f
  | .ok ms => e = .returned (.tuple #[]) ∧ ∃ v p fr, Rd w' g s p fr v ∧ MksAt w.heap.size w' v ms

set_option maxHeartbeats 16000000 in
set_option maxRecDepth 100000 in
theorem all_goes (s : ByteArray) (g : Nat) (w : World) (hG : Gl w) (hr : Rd w g s 0 0 (.slice none 0 0)) (hs : s.size ≤ 65536) (hU : U8 (L s)) (n : Nat) (hn : Sp.prolog (L s) = .ok n) (hns : n ≤ s.size)
    (RP : Except Sp.Flt (List Sp.Mk)) (hRP : Sp.pieces (s.size + 1) n ((L s).drop n) [] = RP) :
    Calls Tryz.prog 50 #[.pointer (some ⟨g, 0, none⟩)] w (AllEnd g s RP w) := by
  have hglt := hr.lt
  have hg8 := hr.1
  have HR := Lib.hid hr
  have HG := Lib.hid hG
  have HU := Lib.hid hU
  have HN := Lib.hid hn
  have HRP := Lib.hid hRP
  clear hG hU hn hRP
  have h0 := hr.c0
  clear hr
  go_enter Tryz.func50, Tryz.ntmps50
  go_step
  go_cut [] (fun wx => Hid (Only g w wx ∧ Rd wx g s n 0 (.slice none 0 0)))
  case first =>
    by_cases h5 : 5 < s.size
    · have hd := L_drop s 5 h5
      have hlt : (5 : Int) < s.size := by omega
      have hgt2 : decide ((5 : Int) < s.size) = true := by simp; omega
      cases hp : Sp.xml5.isPrefixOf (L s) with
      | false =>
        have hn0 : n = 0 := by have h := HN.out; rw [pro_no hp] at h; injection h with h; exact h.symm
        have HP := Lib.hid hp
        subst hn0
        clear hp hd
        go_wp2_with fail
        refine (has_calls s ⟨#[60, 63, 120, 109, 108]⟩ g 0 0 _ _ HR.out (by omega) (by omega)).mono ?_
        rintro e w1 ⟨he, n1, rfl⟩
        rw [show (L ⟨#[60, 63, 120, 109, 108]⟩).isPrefixOf ((L s).drop 0) = false from HP.out] at he
        subst he
        go_wp2_with fail
        go_meet
        exact ⟨(Only.refl g w).drewN _, HR.out.drewN _⟩
      | true =>
        cases hw : Sp.white s[5] with
        | false =>
          have hn0 : n = 0 := by have h := HN.out; rw [pro_nw hd hw] at h; injection h with h; exact h.symm
          have HP := Lib.hid hp
          have HW := Lib.hid hw
          subst hn0
          clear hp hw hd
          go_wp2_with fail
          refine (has_calls s ⟨#[60, 63, 120, 109, 108]⟩ g 0 0 _ _ HR.out (by omega) (by omega)).mono ?_
          rintro e w1 ⟨he, n1, rfl⟩
          rw [show (L ⟨#[60, 63, 120, 109, 108]⟩).isPrefixOf ((L s).drop 0) = true from HP.out] at he
          subst he
          go_wp2_with fail
          refine (white_is s[5] false _ HW.out).mono ?_
          rintro e w2 ⟨rfl, rfl⟩
          go_wp2_with fail
          go_meet
          exact ⟨(Only.refl g w).drewN _, HR.out.drewN _⟩
        | true =>
          have h := HN.out
          rw [pro_yes hd hp hw] at h
          cases hfi : Sp.find [63, 62] ((L s).drop 5) with
          | none => rw [hfi] at h; cases h
          | some i =>
            rw [hfi] at h
            injection h with h
            have h : 5 + i + 2 = n := h
            subst h
            have HP := Lib.hid hp
            have HW := Lib.hid hw
            have HF := Lib.hid hfi
            obtain ⟨m, hm⟩ := HG.out.mx
            clear hp hw hd hfi
            go_wp2_with fail
            refine (has_calls s ⟨#[60, 63, 120, 109, 108]⟩ g 0 0 _ _ HR.out (by omega) (by omega)).mono ?_
            rintro e w1 ⟨he, n1, rfl⟩
            rw [show (L ⟨#[60, 63, 120, 109, 108]⟩).isPrefixOf ((L s).drop 0) = true from HP.out] at he
            subst he
            go_wp2_with fail
            refine (white_is s[5] true _ HW.out).mono ?_
            rintro e w2 ⟨rfl, rfl⟩
            go_wp2_with fail
            refine (until_hit s ⟨#[63, 62]⟩ 5 i g 0 0 _ (w.drewN n1) m hm (HR.out.drewN _) hs (by omega) (by decide) HF.out).mono ?_
            rintro e w2 ⟨rfl, ho, hr2⟩
            have HR2 : Hid (Only g w w2 ∧ Rd w2 g s (5 + i + 2) 0 (.slice none 0 0)) := ⟨((Only.refl g w).drewN _).trans ho, by have := hr2; simp only [Nat.zero_add] at this; exact this⟩
            clear ho hr2
            go_wp2_with fail
            go_meet
            exact HR2
    · have hn0 : n = 0 := by have h := HN.out; rw [pro_short (by rw [L_length]; omega)] at h; injection h with h; exact h.symm
      have hgt2 : decide ((5 : Int) < s.size) = false := by simp; omega
      subst hn0
      go_wp2_with fail
      go_meet
      exact ⟨Only.refl g w, HR.out⟩
  case rest =>
  clear h0 HR HN
  obtain ⟨ho, hr⟩ := hcut.out
  have HI : Hid (AInv g s w wc.heap.size n 0 (.slice none 0 0) [] (wc.alloc (.cells kindCells 132))) := ⟨ho.alloc _, hr.alloc _, MksAt.nil _ _, heap_alloc_new _ _, ho.size, hglt⟩
  unfold kindCells at HI
  clear ho hr hcut
  go_wp2_with fail
  generalize wc.alloc _ = W at HI ⊢
  generalize wc.heap.size = kb at HI ⊢
  go_loopg [4] (s.size + 1) (fun k _ wr => ∃ p' fr v ms, p' ≤ s.size ∧ s.size - p' < k ∧ ms.length ≤ p' ∧ Hid (Sp.pieces k p' ((L s).drop p') ms = RP) ∧ Hid (AInv g s w kb p' fr v ms wr))
  case atStart => exact ⟨n, 0, _, [], hns, by omega, Nat.zero_le _, HRP, HI⟩
  case round =>
    clear HRP HI
    obtain ⟨p', fr, v, ms, hps, hk, hml, HS, HI⟩ := hrel
    obtain ⟨k', rfl⟩ : ∃ m, gk = m + 1 := ⟨gk - 1, by omega⟩
    have h0 := HI.out.rd.c0
    have h1 := HI.out.rd.c1
    have h2 := HI.out.rd.c2
    have hf2 := HI.out.rd.fz 2
    by_cases hlt : p' < s.size
    · have hd : decide ((p' : Int) < s.size) = true := by simp; omega
      have hDL := L_drop s p' hlt
      obtain ⟨RT, hRT⟩ : ∃ x, Sp.piece p' ((L s).drop p') = x := ⟨_, rfl⟩
      have hpl : ((L s).drop p').length = s.size - p' := by rw [List.length_drop, L_length]
      have HST : Hid (piecesK k' p' ((L s).drop p') ms RT = RP) := by
        have h := HS.out
        rw [hDL, pieces_in, ← hDL, hRT] at h
        exact h
      have hfar : ∀ x m, RT = .ok (x, m) → 1 ≤ m ∧ p' + m ≤ s.size ∧ x.length ≤ 1 := fun x m h => by
        have h1 := hRT.trans h
        have h3 := piece_len h1
        rw [hDL] at h1
        have h2 := ((piece_fd p' _ _).2 x m h1).1
        have h4 := sp_piece_pos _ _ _ _ _ h1
        rw [← hDL, hpl] at h2
        exact ⟨h4, (by omega), h3⟩
      have HRT := Lib.hid hRT
      have hkg := HI.out.ne
      clear HS hDL hRT
      go_wp2_with fail
      go_quiet (fail)
      go_upto_region 5 with fail
      generalize hW : World.setCell _ _ _ = W0
      have HI0 : Hid (AInv g s w kb p' p' v ms W0) := by
        show AInv g s w kb p' p' v ms W0
        rw [← hW]
        exact (HI.out.drewN _).from_ p'
      clear hW HI h0 h1 h2 hf2
      have c0 : W0.cell? ⟨kb, 0, none⟩ = some (.string ⟨#[60, 33, 45, 45]⟩) := HI0.out.cell 0 _ rfl
      have c1 : W0.cell? ⟨kb, 1, none⟩ = some (.func (.func 90) #[] #[]) := HI0.out.cell 1 _ rfl
      go_wp2_with fail
      refine wp_loop_rounds 5 ?_
      rw [rounds_succ]
      go_wp2_with fail
      refine (has_calls s ⟨#[60, 33, 45, 45]⟩ g p' p' v _ (HI0.out.alloc _).rd (by omega) hps).mono ?_
      rintro e wh1 ⟨he, nh, hw⟩
      have HI1 : Hid (AInv g s w kb p' p' v ms wh1) := by
        show AInv g s w kb p' p' v ms wh1
        rw [hw]
        exact (HI0.out.alloc _).drewN _
      have cf : wh1.cell? ⟨W0.heap.size, 1, none⟩ = some (.func (.func 90) #[] #[]) := by
        rw [hw]
        exact cell_of_row _ _ 1 _ _ _ (heap_alloc_new W0 (.cells #[.string ⟨#[60, 33, 45, 45]⟩, .func (.func 90) #[] #[]] 132))
      clear hw c0 c1 HI0
      cases hc : ([60, 33, 45, 45] : List UInt8).isPrefixOf ((L s).drop p') with
      | true =>
        rw [show (L ⟨#[60, 33, 45, 45]⟩).isPrefixOf ((L s).drop p') = true from hc] at he
        subst he
        have hpre := prefix_le hc
        rw [hpl] at hpre
        simp only [List.length_cons, List.length_nil] at hpre
        have HPC := Lib.hid ((piece_at0 hc).symm.trans HRT.out)
        clear hc HRT
        go_wp2_with fail
        refine (comment_calls s g p' v ms w.heap.size _ (HG.out.only hg8 HI1.out.only) HI1.out.rd hs (by omega) HI1.out.mks RT HPC.out).mono ?_
        rintro e w9 he
        cases RT with
        | error f =>
          obtain ⟨he, hk9⟩ : e = pan f ∧ Keep g v.ownBlock _ w9 := he
          have ho9 := HI1.out.keeps hk9
          have hRP : RP = .error f := HST.out.symm
          clear HST HPC
          subst hRP
          unfold pan at he
          subst he
          go_wp2_with fail
          exact ⟨rfl, ho9, rfl⟩
        | ok r =>
          obtain ⟨x, m⟩ := r
          obtain ⟨rfl, hp9⟩ : e = .returned (.tuple #[]) ∧ Pieced g s p' (p' + m) v (ms ++ x) w.heap.size _ w9 := he
          obtain ⟨v', hI9⟩ := HI1.out.pieced hp9
          have HI9 := Lib.hid hI9
          have hm := hfar x m rfl
          have hm1 := hm.1
          have hm2 := hm.2.1
          have hm3 := hm.2.2
          have HST2 : Hid (Sp.pieces k' (p' + m) ((L s).drop (p' + m)) (ms ++ x) = RP) := by
            have h := HST.out
            have h : Sp.pieces k' (p' + m) (((L s).drop p').drop m) (ms ++ x) = RP := h
            rw [List.drop_drop] at h
            exact h
          clear hm hp9 hI9 hfar HST HPC
          go_wp2_with fail
          go_roundg k'
          case measure => omega
          case rel => exact ⟨p' + m, p', v', ms ++ x, by omega, by omega, by rw [List.length_append]; omega, HST2, HI9⟩
      | false =>
        rw [show (L ⟨#[60, 33, 45, 45]⟩).isPrefixOf ((L s).drop p') = false from hc] at he
        subst he
        have h0 := Lib.hid hc
        clear hc
        have c0 : wh1.cell? ⟨kb, 2, none⟩ = some (.string ⟨#[60, 33, 91, 67, 68, 65, 84, 65, 91]⟩) := HI1.out.cell 2 _ rfl
        have c1 : wh1.cell? ⟨kb, 3, none⟩ = some (.func (.func 91) #[] #[]) := HI1.out.cell 3 _ rfl
        go_wp2_with fail
        rw [rounds_succ]
        go_wp2_with fail
        refine (has_calls s ⟨#[60, 33, 91, 67, 68, 65, 84, 65, 91]⟩ g p' p' v _ (HI1.out.alloc _).rd (by omega) hps).mono ?_
        rintro e wh2 ⟨he, nh, hw⟩
        have HI2 : Hid (AInv g s w kb p' p' v ms wh2) := by
          show AInv g s w kb p' p' v ms wh2
          rw [hw]
          exact (HI1.out.alloc _).drewN _
        have cf : wh2.cell? ⟨wh1.heap.size, 1, none⟩ = some (.func (.func 91) #[] #[]) := by
          rw [hw]
          exact cell_of_row _ _ 1 _ _ _ (heap_alloc_new wh1 (.cells #[.string ⟨#[60, 33, 91, 67, 68, 65, 84, 65, 91]⟩, .func (.func 91) #[] #[]] 132))
        clear hw c0 c1 HI1
        cases hc : Sp.cdata9.isPrefixOf ((L s).drop p') with
        | true =>
          rw [show (L ⟨#[60, 33, 91, 67, 68, 65, 84, 65, 91]⟩).isPrefixOf ((L s).drop p') = true from hc] at he
          subst he
          have hpre := prefix_le hc
          rw [hpl] at hpre
          simp only [List.length_cons, List.length_nil, Sp.cdata9] at hpre
          have HPC := Lib.hid ((piece_at1 h0.out hc).symm.trans HRT.out)
          clear hc HRT
          go_wp2_with fail
          refine (cdata_calls s g p' v ms w.heap.size _ (HG.out.only hg8 HI2.out.only) HI2.out.rd hs (by omega) HI2.out.only.size HI2.out.mks (by omega) RT HPC.out).mono ?_
          rintro e w9 he
          cases RT with
          | error f =>
            obtain ⟨he, hk9⟩ : e = pan f ∧ Keep g v.ownBlock _ w9 := he
            have ho9 := HI2.out.keeps hk9
            have hRP : RP = .error f := HST.out.symm
            clear HST HPC
            subst hRP
            unfold pan at he
            subst he
            go_wp2_with fail
            exact ⟨rfl, ho9, rfl⟩
          | ok r =>
            obtain ⟨x, m⟩ := r
            obtain ⟨rfl, hp9⟩ : e = .returned (.tuple #[]) ∧ Pieced g s p' (p' + m) v (ms ++ x) w.heap.size _ w9 := he
            obtain ⟨v', hI9⟩ := HI2.out.pieced hp9
            have HI9 := Lib.hid hI9
            have hm := hfar x m rfl
            have hm1 := hm.1
            have hm2 := hm.2.1
            have hm3 := hm.2.2
            have HST2 : Hid (Sp.pieces k' (p' + m) ((L s).drop (p' + m)) (ms ++ x) = RP) := by
              have h := HST.out
              have h : Sp.pieces k' (p' + m) (((L s).drop p').drop m) (ms ++ x) = RP := h
              rw [List.drop_drop] at h
              exact h
            clear hm hp9 hI9 hfar HST HPC
            go_wp2_with fail
            go_roundg k'
            case measure => omega
            case rel => exact ⟨p' + m, p', v', ms ++ x, by omega, by omega, by rw [List.length_append]; omega, HST2, HI9⟩
        | false =>
          rw [show (L ⟨#[60, 33, 91, 67, 68, 65, 84, 65, 91]⟩).isPrefixOf ((L s).drop p') = false from hc] at he
          subst he
          have h1 := Lib.hid hc
          clear hc
          have c0 : wh2.cell? ⟨kb, 4, none⟩ = some (.string ⟨#[60, 47]⟩) := HI2.out.cell 4 _ rfl
          have c1 : wh2.cell? ⟨kb, 5, none⟩ = some (.func (.func 92) #[] #[]) := HI2.out.cell 5 _ rfl
          go_wp2_with fail
          rw [rounds_succ]
          go_wp2_with fail
          refine (has_calls s ⟨#[60, 47]⟩ g p' p' v _ (HI2.out.alloc _).rd (by omega) hps).mono ?_
          rintro e wh3 ⟨he, nh, hw⟩
          have HI3 : Hid (AInv g s w kb p' p' v ms wh3) := by
            show AInv g s w kb p' p' v ms wh3
            rw [hw]
            exact (HI2.out.alloc _).drewN _
          have cf : wh3.cell? ⟨wh2.heap.size, 1, none⟩ = some (.func (.func 92) #[] #[]) := by
            rw [hw]
            exact cell_of_row _ _ 1 _ _ _ (heap_alloc_new wh2 (.cells #[.string ⟨#[60, 47]⟩, .func (.func 92) #[] #[]] 132))
          clear hw c0 c1 HI2
          cases hc : ([60, 47] : List UInt8).isPrefixOf ((L s).drop p') with
          | true =>
            rw [show (L ⟨#[60, 47]⟩).isPrefixOf ((L s).drop p') = true from hc] at he
            subst he
            have hpre := prefix_le hc
            rw [hpl] at hpre
            simp only [List.length_cons, List.length_nil, Sp.cdata9] at hpre
            have HPC := Lib.hid ((piece_at2 h0.out h1.out hc).symm.trans HRT.out)
            clear hc HRT
            go_wp2_with fail
            refine (closing_calls s g p' v ms w.heap.size _ HI3.out.rd hs (by omega) HI3.out.only.size HI3.out.mks (by omega) RT HPC.out).mono ?_
            rintro e w9 he
            cases RT with
            | error f =>
              obtain ⟨he, hk9⟩ : e = pan f ∧ Keep g v.ownBlock _ w9 := he
              have ho9 := HI3.out.keeps hk9
              have hRP : RP = .error f := HST.out.symm
              clear HST HPC
              subst hRP
              unfold pan at he
              subst he
              go_wp2_with fail
              exact ⟨rfl, ho9, rfl⟩
            | ok r =>
              obtain ⟨x, m⟩ := r
              obtain ⟨rfl, hp9⟩ : e = .returned (.tuple #[]) ∧ Pieced g s p' (p' + m) v (ms ++ x) w.heap.size _ w9 := he
              obtain ⟨v', hI9⟩ := HI3.out.pieced hp9
              have HI9 := Lib.hid hI9
              have hm := hfar x m rfl
              have hm1 := hm.1
              have hm2 := hm.2.1
              have hm3 := hm.2.2
              have HST2 : Hid (Sp.pieces k' (p' + m) ((L s).drop (p' + m)) (ms ++ x) = RP) := by
                have h := HST.out
                have h : Sp.pieces k' (p' + m) (((L s).drop p').drop m) (ms ++ x) = RP := h
                rw [List.drop_drop] at h
                exact h
              clear hm hp9 hI9 hfar HST HPC
              go_wp2_with fail
              go_roundg k'
              case measure => omega
              case rel => exact ⟨p' + m, p', v', ms ++ x, by omega, by omega, by rw [List.length_append]; omega, HST2, HI9⟩
          | false =>
            rw [show (L ⟨#[60, 47]⟩).isPrefixOf ((L s).drop p') = false from hc] at he
            subst he
            have h2 := Lib.hid hc
            clear hc
            have c0 : wh3.cell? ⟨kb, 6, none⟩ = some (.string ⟨#[60]⟩) := HI3.out.cell 6 _ rfl
            have c1 : wh3.cell? ⟨kb, 7, none⟩ = some (.func (.func 93) #[] #[]) := HI3.out.cell 7 _ rfl
            go_wp2_with fail
            rw [rounds_succ]
            go_wp2_with fail
            refine (has_calls s ⟨#[60]⟩ g p' p' v _ (HI3.out.alloc _).rd (by omega) hps).mono ?_
            rintro e wh4 ⟨he, nh, hw⟩
            have HI4 : Hid (AInv g s w kb p' p' v ms wh4) := by
              show AInv g s w kb p' p' v ms wh4
              rw [hw]
              exact (HI3.out.alloc _).drewN _
            have cf : wh4.cell? ⟨wh3.heap.size, 1, none⟩ = some (.func (.func 93) #[] #[]) := by
              rw [hw]
              exact cell_of_row _ _ 1 _ _ _ (heap_alloc_new wh3 (.cells #[.string ⟨#[60]⟩, .func (.func 93) #[] #[]] 132))
            clear hw c0 c1 HI3
            cases hc : ([60] : List UInt8).isPrefixOf ((L s).drop p') with
            | true =>
              rw [show (L ⟨#[60]⟩).isPrefixOf ((L s).drop p') = true from hc] at he
              subst he
              have hpre := prefix_le hc
              rw [hpl] at hpre
              simp only [List.length_cons, List.length_nil, Sp.cdata9] at hpre
              have HPC := Lib.hid ((piece_at3 h0.out h1.out h2.out hc).symm.trans HRT.out)
              clear hc HRT
              go_wp2_with fail
              refine (opening_calls s g p' v ms w.heap.size _ (HG.out.only hg8 HI4.out.only) HI4.out.rd hs (by omega) HI4.out.only.size HI4.out.mks (by omega) HU.out RT HPC.out).mono ?_
              rintro e w9 he
              cases RT with
              | error f =>
                obtain ⟨he, hk9⟩ : e = pan f ∧ Keep g v.ownBlock _ w9 := he
                have ho9 := HI4.out.keeps hk9
                have hRP : RP = .error f := HST.out.symm
                clear HST HPC
                subst hRP
                unfold pan at he
                subst he
                go_wp2_with fail
                exact ⟨rfl, ho9, rfl⟩
              | ok r =>
                obtain ⟨x, m⟩ := r
                obtain ⟨rfl, hp9⟩ : e = .returned (.tuple #[]) ∧ Pieced g s p' (p' + m) v (ms ++ x) w.heap.size _ w9 := he
                obtain ⟨v', hI9⟩ := HI4.out.pieced hp9
                have HI9 := Lib.hid hI9
                have hm := hfar x m rfl
                have hm1 := hm.1
                have hm2 := hm.2.1
                have hm3 := hm.2.2
                have HST2 : Hid (Sp.pieces k' (p' + m) ((L s).drop (p' + m)) (ms ++ x) = RP) := by
                  have h := HST.out
                  have h : Sp.pieces k' (p' + m) (((L s).drop p').drop m) (ms ++ x) = RP := h
                  rw [List.drop_drop] at h
                  exact h
                clear hm hp9 hI9 hfar HST HPC
                go_wp2_with fail
                go_roundg k'
                case measure => omega
                case rel => exact ⟨p' + m, p', v', ms ++ x, by omega, by omega, by rw [List.length_append]; omega, HST2, HI9⟩
            | false =>
              rw [show (L ⟨#[60]⟩).isPrefixOf ((L s).drop p') = false from hc] at he
              subst he
              have h3 := Lib.hid hc
              clear hc
              have c0 : wh4.cell? ⟨kb, 8, none⟩ = some (.string ⟨#[]⟩) := HI4.out.cell 8 _ rfl
              have c1 : wh4.cell? ⟨kb, 9, none⟩ = some (.func (.func 94) #[] #[]) := HI4.out.cell 9 _ rfl
              go_wp2_with fail
              rw [rounds_succ]
              go_wp2_with fail
              refine (has_calls s ⟨#[]⟩ g p' p' v _ (HI4.out.alloc _).rd (by omega) hps).mono ?_
              rintro e wh5 ⟨he, nh, hw⟩
              have HI5 : Hid (AInv g s w kb p' p' v ms wh5) := by
                show AInv g s w kb p' p' v ms wh5
                rw [hw]
                exact (HI4.out.alloc _).drewN _
              have cf : wh5.cell? ⟨wh4.heap.size, 1, none⟩ = some (.func (.func 94) #[] #[]) := by
                rw [hw]
                exact cell_of_row _ _ 1 _ _ _ (heap_alloc_new wh4 (.cells #[.string ⟨#[]⟩, .func (.func 94) #[] #[]] 132))
              clear hw c0 c1 HI4
              rw [show (L ⟨#[]⟩).isPrefixOf ((L s).drop p') = true from rfl] at he
              subst he
              have HPC := Lib.hid ((piece_at4 h0.out h1.out h2.out h3.out).symm.trans HRT.out)
              clear HRT
              go_wp2_with fail
              refine (plain_calls s g p' v ms w.heap.size _ (HG.out.only hg8 HI5.out.only) HI5.out.rd hs (by omega) HI5.out.only.size HI5.out.mks (by omega) RT HPC.out).mono ?_
              rintro e w9 he
              cases RT with
              | error f =>
                obtain ⟨he, hk9⟩ : e = pan f ∧ Keep g v.ownBlock _ w9 := he
                have ho9 := HI5.out.keeps hk9
                have hRP : RP = .error f := HST.out.symm
                clear HST HPC
                subst hRP
                unfold pan at he
                subst he
                go_wp2_with fail
                exact ⟨rfl, ho9, rfl⟩
              | ok r =>
                obtain ⟨x, m⟩ := r
                obtain ⟨rfl, hp9⟩ : e = .returned (.tuple #[]) ∧ Pieced g s p' (p' + m) v (ms ++ x) w.heap.size _ w9 := he
                obtain ⟨v', hI9⟩ := HI5.out.pieced hp9
                have HI9 := Lib.hid hI9
                have hm := hfar x m rfl
                have hm1 := hm.1
                have hm2 := hm.2.1
                have hm3 := hm.2.2
                have HST2 : Hid (Sp.pieces k' (p' + m) ((L s).drop (p' + m)) (ms ++ x) = RP) := by
                  have h := HST.out
                  have h : Sp.pieces k' (p' + m) (((L s).drop p').drop m) (ms ++ x) = RP := h
                  rw [List.drop_drop] at h
                  exact h
                clear hm hp9 hI9 hfar HST HPC
                go_wp2_with fail
                go_roundg k'
                case measure => omega
                case rel => exact ⟨p' + m, p', v', ms ++ x, by omega, by omega, by rw [List.length_append]; omega, HST2, HI9⟩
    · have hps' : p' = s.size := by omega
      subst hps'
      have hd : decide ((s.size : Int) < s.size) = false := by simp
      have hRP : RP = .ok ms := by
        have h := HS.out
        rw [List.drop_eq_nil_of_le (by rw [L_length]; exact Nat.le_refl _), pieces_nil] at h
        exact h.symm
      clear HS
      subst hRP
      go_wp2_with fail
      go_quiet (fail)
      go_wp2_with fail
      go_end0
      exact ⟨(HI.out.drewN _).only, rfl, v, s.size, fr, (HI.out.drewN _).rd, (HI.out.drewN _).mks⟩
end Go.Proofs.YtokdclmikllepaaGreatDoor
