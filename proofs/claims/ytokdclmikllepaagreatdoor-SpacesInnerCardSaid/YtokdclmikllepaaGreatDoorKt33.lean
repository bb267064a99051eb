import Derived.Test.YtokdclmikllepaaGreatDoorKt32
import Derived.BigQuiet
import Derived.Deep.DeepCutAuto
import Derived.Deep.RegionHeld3
namespace Go.Proofs.YtokdclmikllepaaGreatDoor
open Go.RowKit Go.Maps
set_option linter.unusedVariables false
set_option linter.unusedSimpArgs false

/-- How tree.Write ends. -/
def WEnd (R : Option Sp.Bs) (w : World) (e : Ending) (w' : World) : Prop :=
  match R with
  | none => e = .returned (.tuple #[.string ⟨#[]⟩, .int .i64 2]) ∧ Below w.heap.size w w'
  | some T => e = .returned (.tuple #[.string ⟨T.toArray⟩, .int .i64 0]) ∧ Below w.heap.size w w'
def Fin (l : List Sp.EE) (R0 : Option Sp.Wr) : Option Sp.Bs := R0.map fun s => s.1 ++ Sp.closes l s.2
/-- What holds where an element's place has been found. -/
def Mid (l : List Sp.EE) (R0 : Option Sp.Wr) (n : Nat) (w : World) (lv : Value) (i : Nat) (x : Sp.EE) (e : Nat) (cs : Array Value) (wx : World) : Prop :=
  ∃ s' : Sp.Wr, Sp.runW l (i + 1) (l.drop (i + 1)) (s'.1 ++ Sp.tag x ++ Sp.body l i x, s'.2) = R0 ∧ s'.1.length ≤ i * 50000000 + 3000000 ∧ i ≤ s'.1.length ∧ s'.2.length ≤ 16 ∧ (∀ k ∈ s'.2, k < n) ∧ WE w lv s'.1 s'.2 e cs wx
theorem WEnd.none {R : Option Sp.Bs} {w w' : World} (hR : R = .none) (h : Below w.heap.size w w') : WEnd R w (.returned (.tuple #[.string ⟨#[]⟩, .int .i64 2])) w' := by subst hR; exact ⟨rfl, h⟩
theorem mayC_is (w : World) (x : Sp.EE) (av v : Value) (hv : eeV x av = v) (hav : AtsR w av x.attrs) (hb : EEBd x) (b : Bool) (hm : Sp.may x = b) :
    Calls Tryz.prog 78 #[v] w fun e w' => e = .returned (.bool b) ∧ Below w.heap.size w w' := hv ▸ hm ▸ may_calls w x av hav hb
theorem WAt.start (w : World) (lv : Value) : WAt w lv [] [] (((w.alloc (.cells #[lv] 45)).alloc (.cells #[.pointer none, .slice none 0 0] 115)).alloc (.cells #[.slice none 0 0] 106)) := by
  have s1 : (w.alloc (.cells #[lv] 45)).heap.size = w.heap.size + 1 := sz_alloc _ _
  have s2 : ((w.alloc (.cells #[lv] 45)).alloc (.cells #[.pointer none, .slice none 0 0] 115)).heap.size = w.heap.size + 2 := by rw [sz_alloc, s1]
  refine ⟨?_, ?_, ⟨.slice none 0 0, ?_, ?_⟩, ?_⟩
  · refine Lib.IsBuilderF.alloc (.inl ⟨by omega, .slice none 0 0, ?_, World.ownsRowF_nil _ _ _ _, by simp [Value.ownBlock]⟩) _
    have := heap_alloc_new (w.alloc (.cells #[lv] 45)) (.cells #[.pointer none, .slice none 0 0] 115)
    rwa [s1] at this
  · rw [heap_alloc_old _ _ (by omega), heap_alloc_old _ _ (by omega)]
    exact heap_alloc_new w _
  · have := heap_alloc_new ((w.alloc (.cells #[lv] 45)).alloc (.cells #[.pointer none, .slice none 0 0] 115)) (.cells #[.slice none 0 0] 106)
    rwa [s2] at this
  · exact World.ownsRow_nil _ _ _ _
  · exact (((Below.refl _ _).alloc (Nat.le_refl _) _).alloc (by omega) _).alloc (by omega) _

theorem str_calls (W0 : World) (lv : Value) (bs : List UInt8) (op : List Nat) (w : World) (h : WAt W0 lv bs op w) (h0 : bs ≠ []) :
    Calls Tryz.prog 79 #[.pointer (some ⟨W0.heap.size + 1, 0, none⟩)] w fun e w' => e = .returned (.string ⟨bs.toArray⟩) ∧ Below W0.heap.size W0 w' := by
  refine (Any.Builder_String_k Tryz.lays169 Tryz.Builder_Extra_169 W0.heap.size (W0.heap.size + 1) bs w h.1 h0).mono ?_
  rintro e w' ⟨rfl, _, h2, _⟩
  exact ⟨rfl, h.2.2.2.trans h2⟩
theorem shut0_calls (W0 : World) (lv : Value) (l : List Sp.EE) (bs : List UInt8) (op : List Nat) (w : World) (hl : ElsR W0 lv l) (hL : l.length ≤ 4096) (hop : ∀ k ∈ op, k < l.length) (hn : ∀ k, (Sp.nameAt l k).length ≤ 100000) (hbs : bs.length ≤ 10000000000000) (ho17 : op.length ≤ 17)
    (h : WAt W0 lv bs op w) :
    Calls Tryz.prog 76 #[.int .i64 0, .pointer (some ⟨W0.heap.size + 2, 0, none⟩), .pointer (some ⟨W0.heap.size + 1, 0, none⟩), .pointer (some ⟨W0.heap.size, 0, none⟩)] w
      fun e w' => e = .returned (.tuple #[]) ∧ WAt W0 lv (bs ++ Sp.closes l op) [] w' := by
  have := shut_calls W0 lv l bs op 0 w hl hL hop (fun k => by have := hn k; omega) hbs ho17 (Nat.zero_le _) h
  rw [List.drop_zero, List.take_zero] at this
  refine this.mono ?_
  rintro e w' ⟨h1, h2, _⟩
  exact ⟨h1, h2⟩
theorem stepW_may {l : List Sp.EE} {i : Nat} {x : Sp.EE} {s : Sp.Wr} (h : Sp.may x = false) : Sp.stepW l i x s = none := by unfold Sp.stepW; rw [if_pos h]
theorem stepW_zero {l : List Sp.EE} {x : Sp.EE} {s : Sp.Wr} (h : Sp.may x = true) : Sp.stepW l 0 x s = if x.up = -1 then some (s.1 ++ Sp.tag x ++ Sp.body l 0 x, s.2) else none := by
  unfold Sp.stepW
  rw [if_neg (by rw [h]; simp), if_pos rfl]
theorem stepW_pos {l : List Sp.EE} {i : Nat} {x : Sp.EE} {s : Sp.Wr} (h : Sp.may x = true) (hi : 0 < i) {op1 : List Nat} (h1 : Sp.openAt i x s.2 = op1) {T : Nat} (hT : Sp.toIx x.up op1 op1.length = T) :
    Sp.stepW l i x s = if T = 0 ∨ 16 ≤ T then none else some (s.1 ++ Sp.closes l (op1.drop T) ++ Sp.tag x ++ Sp.body l i x, op1.take T) := by
  subst h1
  subst hT
  unfold Sp.stepW
  rw [if_neg (by rw [h]; simp), if_neg (by omega)]

theorem shutS_calls (W0 : World) (lv : Value) (l : List Sp.EE) (bs : List UInt8) (op : List Nat) (t : Nat) (v : Int) (w : World) (hv : v = (t : Int)) (hl : ElsR W0 lv l) (hL : l.length ≤ 4096) (hop : ∀ k ∈ op, k < l.length) (hn : ∀ k, (Sp.nameAt l k).length ≤ 100000) (hbs : bs.length ≤ 10000000000000) (ho17 : op.length ≤ 17) (hto : t ≤ op.length)
    (h : WAt W0 lv bs op w) :
    Calls Tryz.prog 76 #[.int .i64 v, .pointer (some ⟨W0.heap.size + 2, 0, none⟩), .pointer (some ⟨W0.heap.size + 1, 0, none⟩), .pointer (some ⟨W0.heap.size, 0, none⟩)] w
      fun e w' => e = .returned (.tuple #[]) ∧ WAt W0 lv (bs ++ Sp.closes l (op.drop t)) (op.take t) w' ∧ OthX W0 w w' := by
  subst hv
  exact shut_calls W0 lv l bs op t w hl hL hop (fun k => by have := hn k; omega) hbs ho17 hto h

theorem quoteC_is (s q : ByteArray) (w : World) (hs : s.size ≤ 6000000) (hq : (⟨(Sp.quote (L s)).toArray⟩ : ByteArray) = q) :
    Calls Tryz.prog 25 #[.string s] w fun e w' => e = .returned (.string q) ∧ Below w.heap.size w w' := hq ▸ quote_calls s w hs
theorem escapeC_is (s q : ByteArray) (w : World) (hs : s.size ≤ 6000000) (hq : (⟨(Sp.escape (L s)).toArray⟩ : ByteArray) = q) :
    Calls Tryz.prog 24 #[.string s] w fun e w' => e = .returned (.string q) ∧ Below w.heap.size w w' := hq ▸ escape_calls s w hs
theorem tags_take {x : Sp.EE} (h : wtEE x ≤ 100000) (j : Nat) : ((x.attrs.take j).flatMap Sp.tagA).length ≤ 20000000 := by
  have h1 := tag_len h
  have h2 : (x.attrs.flatMap Sp.tagA).length = ((x.attrs.take j).flatMap Sp.tagA).length + ((x.attrs.drop j).flatMap Sp.tagA).length := by
    rw [← List.length_append, ← List.flatMap_append, List.take_append_drop]
  unfold Sp.tag at h1
  simp only [List.length_cons, List.length_append] at h1
  omega

theorem attr_fact {x : Sp.EE} (hw : wtEE x ≤ 100000) {j : Nat} {y : Sp.EA} (hy : x.attrs[j]? = some y) {an vl qv : ByteArray} (han : (⟨y.name.toArray⟩ : ByteArray) = an) (hvl : (⟨y.value.toArray⟩ : ByteArray) = vl) (hqv : (⟨(Sp.quote (L vl)).toArray⟩ : ByteArray) = qv) :
    an.size ≤ 100000 ∧ vl.size ≤ 100000 ∧ qv.size ≤ 20000000 ∧ (x.attrs.take (j + 1)).flatMap Sp.tagA = (x.attrs.take j).flatMap Sp.tagA ++ L (⟨#[32]⟩ ++ an ++ ⟨#[61]⟩ ++ qv) ∧ ((x.attrs.take j).flatMap Sp.tagA).length ≤ 20000000 ∧ x.name.length ≤ 100000 := by
  obtain ⟨han1, han2⟩ := sz_of han
  obtain ⟨hvl1, hvl2⟩ := sz_of hvl
  obtain ⟨hqv1, hqv2⟩ := sz_of hqv
  have hs := sum_mem wtEA x.attrs y (List.mem_of_getElem? hy)
  have hym2 : wtEA y = y.name.length + y.value.length + 1 := rfl
  have htk := tags_take hw j
  have hw2 : wtEE x = x.name.length + x.text.length + (x.attrs.map wtEA).sum := rfl
  have hrb := rep_bound quoPs 100 quo_sz (by decide) (L vl)
  have hq : (Sp.quote (L vl)).length = (Sp.rep quoPs (L vl)).length + 2 := by simp [Sp.quote]
  rw [L_length] at hrb
  refine ⟨by omega, by omega, by omega, ?_, htk, by omega⟩
  rw [List.take_add_one, hy, List.flatMap_append]
  congr 1
  rw [L_app, L_app, L_app, han2, hqv2, hvl2]
  have e : [y].flatMap Sp.tagA = [32] ++ y.name ++ [61] ++ Sp.quote y.value := by simp [Sp.tagA]
  exact e
theorem text_fact {x : Sp.EE} (hw : wtEE x ≤ 100000) {tx ex : ByteArray} (htx : L tx = x.text) (hts : tx.size ≤ 100000) (hex : (⟨(Sp.escape (L tx)).toArray⟩ : ByteArray) = ex) : ex.size ≤ 10000000 ∧ L ex = Sp.escape x.text := by
  obtain ⟨h1, h2⟩ := sz_of hex
  have h9 : (Sp.escape (L tx)).length ≤ (L tx).length * 100 := rep_bound escPs 100 esc_sz (by decide) (L tx)
  rw [L_length] at h9
  exact ⟨by omega, by rw [h2, htx]⟩
theorem body_in {l : List Sp.EE} {i : Nat} {x : Sp.EE} (h : Sp.inner l i = true) {ex : ByteArray} (he : L ex = Sp.escape x.text) : Sp.body l i x = L (⟨#[62]⟩ ++ ex) := by
  unfold Sp.body
  rw [if_pos h, L_app, he]; rfl
theorem body_nil {l : List Sp.EE} {i : Nat} {x : Sp.EE} (h : Sp.inner l i = false) (ht : x.text = []) : Sp.body l i x = L (⟨#[47, 62]⟩) := by
  unfold Sp.body
  rw [if_neg (by rw [h]; simp), if_pos ht]
theorem body_text {l : List Sp.EE} {i : Nat} {x : Sp.EE} (h : Sp.inner l i = false) (ht : x.text ≠ []) {ex nm : ByteArray} (he : L ex = Sp.escape x.text) (hn : L nm = x.name) : Sp.body l i x = L (⟨#[62]⟩ ++ ex ++ ⟨#[60, 47]⟩ ++ nm ++ ⟨#[62]⟩) := by
  unfold Sp.body
  rw [if_neg (by rw [h]; simp), if_neg ht, L_app, L_app, L_app, L_app, he, hn]
  have e : 62 :: Sp.escape x.text ++ Sp.closeT x.name = [62] ++ Sp.escape x.text ++ [60, 47] ++ x.name ++ [62] := by simp [Sp.closeT]
  exact e

set_option maxHeartbeats 16000000 in
set_option maxRecDepth 100000 in
theorem write_calls (l : List Sp.EE) (lv : Value) (w : World) (hl : ElsR w lv l) (hsm : ∀ x ∈ l, wtEE x ≤ 100000) (hl3 : l.length ≤ 100000000) :
    Calls Tryz.prog 42 #[lv] w (WEnd (Sp.write l) w) := by
  obtain ⟨n, hn⟩ : ∃ n, l.length = n := ⟨_, rfl⟩
  have hl' := hl
  obtain ⟨va, vc, rfl, hcell⟩ := hl
  rw [hn] at hl' hl3 hcell
  rw [hn]
  by_cases h0 : n = 0
  · have hR : Sp.write l = none := by unfold Sp.write; rw [if_pos (.inl (List.eq_nil_of_length_eq_zero (by omega)))]
    have hb0 : Below w.heap.size w w := Below.refl _ _
    rw [hR]
    subst h0
    clear hl' hcell hR hn hsm
    go_enter Tryz.func42, Tryz.ntmps42
    go_wp2_with fail
    go_ret2
    exact ⟨rfl, (Below.refl _ _).alloc (Nat.le_refl _) _⟩
  · by_cases h1 : 4096 < n
    · have hR : Sp.write l = none := by unfold Sp.write; rw [if_pos (.inr (by omega))]
      rw [hR]
      have hz : ((n : Int) == 0) = false := by rw [beq_eq_false_iff_ne]; omega
      have hd1 : decide ((4096 : Int) < n) = true := by simp; omega
      have hd2 : decide (4096 < n) = true := by simp; omega
      clear hl' hcell hR hn hsm h0 h1
      go_enter Tryz.func42, Tryz.ntmps42
      go_wp2_with fail
      go_ret2
      exact ⟨rfl, (Below.refl _ _).alloc (Nat.le_refl _) _⟩
    · have hz : ((n : Int) == 0) = false := by rw [beq_eq_false_iff_ne]; omega
      have hd1 : decide ((4096 : Int) < n) = false := by simp; omega
      have hd2 : decide (4096 < n) = false := by simp; omega
      obtain ⟨R, hR⟩ : ∃ R, Sp.write l = R := ⟨_, rfl⟩
      rw [hR]
      obtain ⟨R0, hR0⟩ : ∃ R0, Sp.runW l 0 l ([], []) = R0 := ⟨_, rfl⟩
      have hRR : R = Fin l R0 := by
        rw [← hR, ← hR0]
        unfold Sp.write
        rw [if_neg (by rintro (h | h); (· subst h; simp at hn; omega); (· omega))]
        cases Sp.runW l 0 l ([], []) <;> rfl
      have HRR := Lib.hid hRR
      have HR0 : Hid (Sp.runW l 0 (l.drop 0) ([], []) = R0) := hR0
      have HL : Hid (ElsR w (.slice va n vc) l) := hl'
      have HN := Lib.hid hn
      have HSM := Lib.hid hsm
      have HS := Lib.hid (WAt.start w (.slice va n vc))
      have hn0 : 0 < n := by omega
      obtain ⟨g, o, rfl, hg, hE⟩ := hcell hn0
      have HE := Lib.hid hE
      have hnI : n ≤ 4096 := by omega
      have HNM : Hid (∀ k, (Sp.nameAt l k).length ≤ 100000) := by
        intro k
        cases hk : l[k]? with
        | none => unfold Sp.nameAt; rw [List.getD_eq_getElem?_getD, List.getElem?_map, hk]; simp
        | some x =>
          rw [nameAt_of hk]
          have := hsm x (List.mem_of_getElem? hk)
          unfold wtEE at this
          omega
      clear hl' hR hR0 hRR hn hsm h0 h1 hcell hE
      go_enter Tryz.func42, Tryz.ntmps42
      go_wp2_with fail
      go_loopg [24] (n + 1) (fun kk x24 wr => ∃ (i : Nat) (s : Sp.Wr), x24 = .int .i64 i ∧ i ≤ n ∧ n - i < kk ∧ Hid (Sp.runW l i (l.drop i) s = R0) ∧ s.1.length ≤ i * 50000000 ∧ i ≤ s.1.length ∧ s.2.length ≤ 16 ∧ Hid (∀ k ∈ s.2, k < n) ∧ Hid (WAt w (.slice (some ⟨g, o, none⟩) n vc) s.1 s.2 wr))
      case atStart => exact ⟨0, ([], []), rfl, by omega, by omega, HR0, by simp, by simp, by simp, (show ∀ k ∈ ([] : List Nat), k < n by simp), HS⟩
      case round =>
        clear HR0 HS
        obtain ⟨i, s, rfl, hi, hk, HK, hsl, hsi, hso, HOP, HI⟩ := hrel
        by_cases hlt : i < n
        · have hdi : decide ((i : Int) < n) = true := by simp; omega
          have hi0 : (0 : Int) ≤ (i : Int) := by omega
          have hi1 : (i : Int) < (n : Int) := by omega
          obtain ⟨x, hx⟩ : ∃ x, l[i]? = some x := ⟨_, List.getElem?_eq_getElem (by rw [HN.out]; exact hlt)⟩
          obtain ⟨av, hav, c0, c1, c2, c3, c4⟩ := HE.out i x hx
          have hbl := HI.out.2.2.2
          have hav2 : AtsR wr av x.attrs := by
            obtain ⟨a, c, rfl, hc⟩ := hav
            refine ⟨a, c, rfl, fun h => ?_⟩
            obtain ⟨g', o', rfl, hg', h2⟩ := hc h
            refine ⟨g', o', rfl, Nat.lt_of_lt_of_le hg' hbl.size, fun j y hy => ?_⟩
            have e : ∀ q, wr.cell? ⟨g', q, none⟩ = w.cell? ⟨g', q, none⟩ := fun q => World.cell?_of_block (hbl.block g' hg')
            simp only [e]
            exact h2 j y hy
          have eqc : ∀ q, wr.cell? ⟨g, q, none⟩ = w.cell? ⟨g, q, none⟩ := fun q => World.cell?_of_block (hbl.block g hg)
          rw [← eqc] at c0 c1 c2 c3 c4
          have hwx := HSM.out x (List.mem_of_getElem? hx)
          have hbd := EEBd.of hwx
          obtain ⟨na, hna⟩ : ∃ m, x.attrs.length = m := ⟨_, rfl⟩
          obtain ⟨aa, ac, rfl, hac⟩ := hav2
          rw [hna] at c1 hac hav
          have HAV0 := Lib.hid hav
          obtain ⟨nm, hnm⟩ : ∃ s : ByteArray, (⟨x.name.toArray⟩ : ByteArray) = s := ⟨_, rfl⟩
          obtain ⟨tx, htx⟩ : ∃ s : ByteArray, (⟨x.text.toArray⟩ : ByteArray) = s := ⟨_, rfl⟩
          obtain ⟨up, hup⟩ : ∃ u : Int, x.up = u := ⟨_, rfl⟩
          obtain ⟨pl, hpl⟩ : ∃ u : Int, x.at_ = u := ⟨_, rfl⟩
          rw [hnm] at c0
          rw [htx] at c2
          rw [hup] at c3
          rw [hpl] at c4
          have hEE : eeV x (.slice aa na ac) = .agg #[.string nm, .slice aa na ac, .string tx, .int .i64 up, .int .i64 pl] := by unfold eeV; rw [hnm, htx, hup, hpl]
          have hAR : AtsR wr (.slice aa na ac) x.attrs := ⟨aa, ac, by rw [hna], by rw [hna]; exact hac⟩
          have HEE := Lib.hid hEE
          have HAR := Lib.hid hAR
          have HBD := Lib.hid hbd
          have HX := Lib.hid hx
          have HNM1 := Lib.hid hnm
          have HTX1 := Lib.hid htx
          have HUP := Lib.hid hup
          have HNA := Lib.hid hna
          have HWX := Lib.hid hwx
          have HW1 : Hid (WE w (.slice (some ⟨g, o, none⟩) n vc) s.1 s.2 wr.heap.size #[.string nm, .slice aa na ac, .string tx, .int .i64 up, .int .i64 pl] (wr.alloc (.cells #[.string nm, .slice aa na ac, .string tx, .int .i64 up, .int .i64 pl] 53))) := HI.out.elem
          have HAR1 := fun o => HAR.out.below ((Below.refl _ _).alloc (Nat.le_refl _) o)
          clear hEE hAR hbd hx hnm htx hup hpl hna hwx hac eqc hav hbl
          have hcx0 := HW1.out.cell 0 rfl
          have hcx1 := HW1.out.cell 1 rfl
          have hcx2 := HW1.out.cell 2 rfl
          have hcx3 := HW1.out.cell 3 rfl
          have hcx4 := HW1.out.cell 4 rfl
          cases hm : Sp.may x with
          | false =>
            have HM := Lib.hid hm
            have hRn : R = none := by
              rw [HRR.out, ← HK.out, runW_cons HX.out, stepW_may hm]; rfl
            have HRN := Lib.hid hRn
            clear hm hRn
            go_wp2_with (go_at_call 78; refine (mayC_is _ x _ _ HEE.out (HAR1 _) HBD.out false HM.out).mono ?_; rintro e w1 ⟨rfl, hb1⟩; have HB1 := Lib.hid hb1; clear hb1)
            go_ret2
            exact WEnd.none HRN.out ((HW1.out.below HB1.out).1.2.2.2)
          | true =>
            have HM := Lib.hid hm
            clear hm
            have hin64 : i < 4096 := by omega
            go_upto_region 11 with (go_at_call 78; refine (mayC_is _ x _ _ HEE.out (HAR1 _) HBD.out true HM.out).mono ?_; rintro e w1 ⟨rfl, hb1⟩; have HB1 := Lib.hid (HW1.out.below hb1); have k3 := HB1.out.cell 3 rfl; clear hb1)
            by_cases hA : i = 0 ∧ up ≠ -1
            · have hRn : R = none := by
                rw [HRR.out, ← HK.out, runW_cons HX.out]
                have e : i = 0 := hA.1
                subst e
                rw [stepW_zero HM.out, if_neg (by rw [HUP.out]; exact hA.2)]; rfl
              have HRN := Lib.hid hRn
              have hz1 : ((i : Int) == 0) = true := by rw [beq_iff_eq]; omega
              have hne : (up != -1) = true := by simpa using hA.2
              clear hRn hA hsl hsi
              go_wp2_with fail
              go_ret2
              exact WEnd.none HRN.out HB1.out.1.2.2.2
            · have HA := Lib.hid hA
              clear hA
              go_cut [38] (fun s38 wx => s38 = .bool false ∧ wx = w1)
              case first =>
                by_cases hz0 : i = 0
                · have hup : up = -1 := Classical.byContradiction fun h => HA.out ⟨hz0, h⟩
                  have hne : (up != -1) = false := by simpa using hup
                  have hz1 : ((i : Int) == 0) = true := by rw [beq_iff_eq]; omega
                  clear hup hz0
                  go_wp2_with fail
                  go_meet
                  exact ⟨rfl, rfl⟩
                · have hz1 : ((i : Int) == 0) = false := by rw [beq_eq_false_iff_ne]; omega
                  clear hz0
                  go_wp2_with fail
                  go_meet
                  exact ⟨rfl, rfl⟩
              case rest =>
                obtain ⟨rfl, rfl⟩ := hcut
                go_upto_if 40 with fail
                go_cut [] (fun wx => Hid (Mid l R0 n w (.slice (some ⟨g, o, none⟩) n vc) i x wr.heap.size #[.string nm, .slice aa na ac, .string tx, .int .i64 up, .int .i64 pl] wx))
                case first =>
                  by_cases hz0 : i = 0
                  · have hd40 : decide ((0 : Int) < i) = false := by simp; omega
                    have hd41 : decide (0 < i) = false := by simp; omega
                    have HM0 : Hid (Mid l R0 n w (.slice (some ⟨g, o, none⟩) n vc) i x wr.heap.size #[.string nm, .slice aa na ac, .string tx, .int .i64 up, .int .i64 pl] wc) := by
                      refine ⟨s, ?_, Nat.le_trans hsl (Nat.le_add_right _ _), hsi, hso, HOP.out, HB1.out⟩
                      have := HK.out
                      rw [runW_cons HX.out] at this
                      have hup : up = -1 := Classical.byContradiction fun h => HA.out ⟨hz0, h⟩
                      have e := hz0
                      subst e
                      rw [stepW_zero HM.out, if_pos (by rw [HUP.out]; exact hup)] at this
                      exact this
                    have hd42 : ¬ (0 < i) := by omega
                    clear hz0
                    go_wp2_with fail
                    go_meet
                    exact HM0
                  · have hd40 : decide ((0 : Int) < i) = true := by simp; omega
                    have hd41 : decide (0 < i) = true := by simp; omega
                    have hip : 0 < i := by omega
                    clear hz0
                    have hwi : IntKind.i64.wrap ((i : Int) - 1) = (i : Int) - 1 := IntWalk.i64_in _ (by omega)
                    obtain ⟨sa, sc, hbx, hbo⟩ := HB1.out.1.box
                    obtain ⟨m, hm⟩ : ∃ m, s.2.length = m := ⟨_, rfl⟩
                    rw [hm] at hbx hbo
                    have co := cell_of_row _ _ 0 _ _ _ hbx
                    simp only [List.getElem?_toArray, List.getElem?_cons_zero] at co
                    have co2 : wc.cell? ⟨w.heap.size + 1 + 1, 0, none⟩ = some (.slice sa m sc) := co
                    have HBX := Lib.hid hbx
                    have HBO := Lib.hid hbo
                    have HM1 := Lib.hid hm
                    clear hbx hbo hm
                    go_upto_if 47 with fail
                    obtain ⟨op1, hop1⟩ : ∃ q, Sp.openAt i x s.2 = q := ⟨_, rfl⟩
                    have HOP1 := Lib.hid hop1
                    have hk1 : op1.length ≤ 17 := by
                      rw [← hop1]; unfold Sp.openAt; split
                      · rw [List.length_append, List.length_singleton]; omega
                      · omega
                    have HOK : Hid (∀ k ∈ op1, k < n) := by
                      intro k hk
                      rw [← hop1] at hk
                      unfold Sp.openAt at hk
                      split at hk
                      · rcases List.mem_append.1 hk with hk | hk
                        · exact HOP.out k hk
                        · rw [List.mem_singleton.1 hk]; omega
                      · exact HOP.out k hk
                    clear hop1
                    go_cut [9] (fun s9 wx => s9 = .int .i64 op1.length ∧ Hid (WE w (.slice (some ⟨g, o, none⟩) n vc) s.1 op1 wr.heap.size #[.string nm, .slice aa na ac, .string tx, .int .i64 up, .int .i64 pl] wx))
                    case first =>
                      by_cases hu : up = (i : Int) - 1
                      · have hub : (up == (i : Int) - 1) = true := by rw [beq_iff_eq]; exact hu
                        have HO1 : Hid (op1 = s.2 ++ [i - 1]) := by
                          have := HOP1.out
                          unfold Sp.openAt at this
                          rw [if_pos (by rw [HUP.out]; exact hu)] at this
                          exact this.symm
                        have HI1 : Hid ((i : Int) - 1 = ((i - 1 : Nat) : Int)) := by show _ = _; omega
                        have HU := Lib.hid hu
                        clear hu
                        go_wp2_with (at_builtin; refine wpList_appI rfl (.tmp 48) (.tmp 51) rfl (i - 1) HB1.out.1 HBX.out HBO.out HM1.out (by rw [← HM1.out]; omega) (by rfl) _ (by rw [HI1.out]) (by rfl) ?_; intro q cap w4 h1 h2 h3 h4; have H3 := Lib.hid h3; have H4 := Lib.hid h4; clear h3 h4)
                        go_meet
                        have hw : WE w (.slice (some ⟨g, o, none⟩) n vc) s.1 (s.2 ++ [i - 1]) wr.heap.size #[.string nm, .slice aa na ac, .string tx, .int .i64 up, .int .i64 pl] (w4.setCell ⟨w.heap.size + 2, 0, none⟩ (.slice (some ⟨q, 0, none⟩) (m + 1) cap)) := HB1.out.to H3.out H4.out
                        rw [← HO1.out] at hw
                        have hl1 : op1.length = m + 1 := by rw [HO1.out, List.length_append, HM1.out, List.length_singleton]
                        refine ⟨?_, hw⟩
                        rw [hl1]
                        have hm16 : m ≤ 16 := by rw [← HM1.out]; exact hso
                        have hwm : wrap64 ((m : Int) + 1) = ((m + 1 : Nat) : Int) := by unfold wrap64; omega
                        rw [hwm]
                      · have hub : (up == (i : Int) - 1) = false := by rw [beq_eq_false_iff_ne]; exact hu
                        have HO1 : Hid (op1 = s.2) := by
                          have := HOP1.out
                          unfold Sp.openAt at this
                          rw [if_neg (by rw [HUP.out]; exact hu)] at this
                          exact this.symm
                        clear hu
                        go_wp2_with fail
                        go_meet
                        have e := HO1.out
                        subst e
                        refine ⟨?_, HB1.out⟩
                        rw [HM1.out]
                    case rest =>
                      obtain ⟨rfl, HB2⟩ := hcut
                      apply_assumption
                      obtain ⟨T, hT⟩ : ∃ T, Sp.toIx x.up op1 op1.length = T := ⟨_, rfl⟩
                      have hst := HK.out
                      rw [runW_cons HX.out, stepW_pos HM.out hip HOP1.out hT] at hst
                      rw [HUP.out] at hT
                      have HST := Lib.hid hst
                      have HT := Lib.hid hT
                      have hTl : T ≤ op1.length := by rw [← hT]; exact toIx_le _ _ _
                      have HTL := Lib.hid hTl
                      have HTN : Hid (T = 0 ∨ 16 ≤ T → R = none) := by
                        intro h
                        have h2 := HST.out
                        rw [if_pos h] at h2
                        rw [HRR.out, ← h2]
                        rfl
                      have HTS : Hid (¬ (T = 0 ∨ 16 ≤ T) → ∀ W, WE w (.slice (some ⟨g, o, none⟩) n vc) (s.1 ++ Sp.closes l (op1.drop T)) (op1.take T) wr.heap.size #[.string nm, .slice aa na ac, .string tx, .int .i64 up, .int .i64 pl] W → Mid l R0 n w (.slice (some ⟨g, o, none⟩) n vc) i x wr.heap.size #[.string nm, .slice aa na ac, .string tx, .int .i64 up, .int .i64 pl] W) := by
                        intro h W hW
                        have h2 := HST.out
                        rw [if_neg h] at h2
                        have hcb := closes_len l 100000 HNM.out (op1.drop T)
                        rw [List.length_drop] at hcb
                        have hcb2 : (op1.length - T) * (100000 + 3) ≤ 17 * (100000 + 3) := Nat.mul_le_mul_right _ (by omega)
                        refine ⟨(s.1 ++ Sp.closes l (op1.drop T), op1.take T), h2, ?_, ?_, ?_, fun k hk => HOK.out k (List.mem_of_mem_take hk), hW⟩
                        · rw [List.length_append]; omega
                        · rw [List.length_append]; omega
                        · rw [List.length_take]; omega
                      clear hst hT hTl HB1 HBX HBO co co2 k3
                      go_wp2_with fail
                      go_loopg [9] (op1.length + 1) (fun kk x9 wq => ∃ t : Nat, x9 = .int .i64 t ∧ t ≤ op1.length ∧ t < kk ∧ Hid (Sp.toIx up op1 t = T) ∧ Hid (WE w (.slice (some ⟨g, o, none⟩) n vc) s.1 op1 wr.heap.size #[.string nm, .slice aa na ac, .string tx, .int .i64 up, .int .i64 pl] wq))
                      case atStart => exact ⟨op1.length, rfl, Nat.le_refl _, by omega, HT, HB2⟩
                      case round =>
                        clear HB2
                        obtain ⟨t, rfl, ht, htk, HTT, HQ⟩ := hrel
                        by_cases ht0 : t = 0
                        · have hT0 : Hid (T = 0) := by
                            have := HTT.out
                            subst ht0
                            exact this.symm.trans rfl
                          have hdt : decide ((0 : Int) < t) = false := by simp; omega
                          have hdt2 : decide (0 < t) = false := by simp; omega
                          have hdt3 : ¬ (0 < t) := by omega
                          have hz9 : ((t : Int) == 0) = true := by rw [beq_iff_eq]; omega
                          clear ht0
                          go_wp2_with fail
                          go_quiet (fail)
                          go_wp2_with fail
                          go_ret2
                          exact WEnd.none (HTN.out (.inl hT0.out)) (HQ.out.drewN _).1.2.2.2
                        · obtain ⟨t, rfl⟩ : ∃ q, t = q + 1 := ⟨t - 1, by omega⟩
                          clear ht0
                          obtain ⟨k, hk⟩ : ∃ k, op1[t]? = some k := ⟨_, List.getElem?_eq_getElem (by omega)⟩
                          obtain ⟨m1, hm1⟩ : ∃ m1, op1.length = m1 + 1 := ⟨op1.length - 1, by omega⟩
                          obtain ⟨q, cap, co, hcap, hck, _, _⟩ := HQ.out.1.openR hm1
                          have ck := hck t k hk
                          have co2 : wr.cell? ⟨w.heap.size + 1 + 1, 0, none⟩ = some (.slice (some ⟨q, 0, none⟩) (m1 + 1) cap) := co
                          have k3 := HQ.out.cell 3 rfl
                          have hdt : decide ((0 : Int) < (t : Int) + 1) = true := by rw [decide_eq_true_eq]; omega
                          have hwt : IntKind.i64.wrap (t : Int) = t := IntWalk.i64_in _ (by omega)
                          have ht1 : (0 : Int) ≤ (t : Int) := by omega
                          have ht2 : (t : Int) < (m1 : Int) + 1 := by omega
                          have hz9 : ((t : Int) + 1 == 0) = false := by rw [beq_eq_false_iff_ne]; omega
                          have HK1 := Lib.hid hk
                          have HM2 := Lib.hid hm1
                          clear hk hm1 hck
                          by_cases hku : (k : Int) = up
                          · have hkb : ((k : Int) != up) = false := by simpa using hku
                            have hTt : Hid (T = t + 1) := by
                              have := HTT.out
                              rw [toIx_at HK1.out hku] at this
                              exact this.symm
                            clear hku
                            by_cases h16 : 16 ≤ t + 1
                            · have hd16 : decide ((16 : Int) ≤ (t : Int) + 1) = true := by simp; omega
                              have hd17 : decide (16 ≤ t + 1) = true := by simp; omega
                              go_wp2_with fail
                              go_quiet (fail)
                              go_wp2_with fail
                              go_ret2
                              exact WEnd.none (HTN.out (.inr (by have := hTt.out; omega))) (HQ.out.drewN _).1.2.2.2
                            · have hd16 : decide ((16 : Int) ≤ (t : Int) + 1) = false := by simp; omega
                              have hd17 : decide (16 ≤ t + 1) = false := by simp; omega
                              have hd18 : ¬ (16 ≤ t + 1) := h16
                              go_wp2_with fail
                              go_quiet (fail)
                              go_wp2_with (go_at_call 76; refine (shutS_calls w _ l s.1 op1 (t + 1) _ _ rfl HL.out (by rw [HN.out]; exact hnI) (by rw [HN.out]; exact HOK.out) HNM.out (by omega) (by omega) (by omega) (HQ.out.drewN _).1).mono ?_; rintro e w5 ⟨rfl, h5, h6⟩; have H5 := Lib.hid ((HQ.out.drewN _).to h5 h6); clear h5 h6)
                              go_meet
                              refine HTS.out (by have := hTt.out; omega) _ ?_
                              rw [hTt.out]
                              exact H5.out
                          · have hkb : ((k : Int) != up) = true := by simpa using hku
                            have hTt : Hid (Sp.toIx up op1 t = T) := by
                              have := HTT.out
                              rw [toIx_go HK1.out hku] at this
                              exact this
                            clear hku
                            go_wp2_with fail
                            go_quiet (fail)
                            go_wp2_with fail
                            go_roundg (gk - 1)
                            case measure => omega
                            case rel => exact ⟨t, rfl, by omega, by omega, hTt, HQ.out.drewN _⟩
                case rest =>
                  apply_assumption
                  obtain ⟨s', hs1, hs2, hs3, hs4, hs5, hs6⟩ := hcut.out
                  clear hcut k3 HB1 HK hsl hsi hso HOP HA hcx0 hcx1 hcx2 hcx3 hcx4 c0 c1 c2 c3 c4
                  obtain ⟨gk0, rfl⟩ : ∃ z, z = gk := ⟨_, rfl⟩
                  obtain ⟨wr0, rfl⟩ : ∃ z, z = wr := ⟨_, rfl⟩
                  have HS1 := Lib.hid hs1
                  have HS5 := Lib.hid hs5
                  have HS6 := Lib.hid hs6
                  have k0 := hs6.cell 0 rfl
                  have hnm2 := sz_of HNM1.out
                  have htx2 := sz_of HTX1.out
                  have hns : nm.size ≤ 100000 := by rw [hnm2.1]; have := HWX.out; unfold wtEE at this; omega
                  have hts : tx.size ≤ 100000 := by rw [htx2.1]; have := HWX.out; unfold wtEE at this; omega
                  have HLN := Lib.hid hnm2.2
                  have HLT := Lib.hid htx2.2
                  have hcat : ¬ (9223372036854775807 < 1 + nm.size) := by omega
                  clear hs1 hs5 hs6 hnm2 htx2
                  go_wp2_with (go_at_call 77; refine (ws_calls w _ s'.1 s'.2 _ _ HS6.out.1 (by rw [ByteArray.size_append]; show _ + (1 + nm.size) ≤ _; omega)).mono ?_; rintro e w2 ⟨rfl, h2, h3⟩; have H2 := Lib.hid (HS6.out.to h2 h3.x); have k1 := H2.out.cell 1 rfl; clear h2 h3)
                  have H20 : Hid (WE w (.slice (some ⟨g, o, none⟩) n vc) (s'.1 ++ 60 :: x.name ++ (x.attrs.take 0).flatMap Sp.tagA) s'.2 wr0.heap.size #[.string nm, .slice aa na ac, .string tx, .int .i64 up, .int .i64 pl] w2) := by
                    have h9 := H2.out
                    have e9 : s'.1 ++ L (⟨#[60]⟩ ++ nm) = s'.1 ++ 60 :: x.name ++ (x.attrs.take 0).flatMap Sp.tagA := by
                      rw [L_app, HLN.out, List.take_zero, List.flatMap_nil, List.append_nil]; rfl
                    rw [e9] at h9
                    exact h9
                  clear H2
                  go_loopg [85] (na + 1) (fun kk x85 wq => ∃ j : Nat, x85 = .int .i64 j ∧ j ≤ na ∧ na - j < kk ∧ Hid (WE w (.slice (some ⟨g, o, none⟩) n vc) (s'.1 ++ 60 :: x.name ++ (x.attrs.take j).flatMap Sp.tagA) s'.2 wr0.heap.size #[.string nm, .slice aa na ac, .string tx, .int .i64 up, .int .i64 pl] wq))
                  case atStart => exact ⟨0, rfl, Nat.zero_le _, by omega, H20⟩
                  case round =>
                    clear H20
                    obtain ⟨j, rfl, hj, hjk, HJ⟩ := hrel
                    by_cases hlj : j < na
                    · have hdj : decide ((j : Int) < na) = true := by simp; omega
                      have hj0 : (0 : Int) ≤ (j : Int) := by omega
                      have hj1 : (j : Int) < (na : Int) := by omega
                      obtain ⟨y, hy⟩ : ∃ y, x.attrs[j]? = some y := ⟨_, List.getElem?_eq_getElem (by rw [HNA.out]; exact hlj)⟩
                      obtain ⟨a', c', he, hc⟩ := HAV0.out
                      rw [HNA.out] at he hc
                      injection he with he1 _ he2
                      obtain ⟨g', o', ha', hg', hcl⟩ := hc (by omega)
                      have hva : aa = some ⟨g', o', none⟩ := he1.trans ha'
                      subst hva
                      have eqj : ∀ q, wr.cell? ⟨g', q, none⟩ = w.cell? ⟨g', q, none⟩ := fun q => World.cell?_of_block (HJ.out.1.2.2.2.block g' hg')
                      obtain ⟨y0, y1, y2⟩ := hcl j y hy
                      rw [← eqj] at y0 y1 y2
                      obtain ⟨an, han⟩ : ∃ s : ByteArray, (⟨y.name.toArray⟩ : ByteArray) = s := ⟨_, rfl⟩
                      obtain ⟨vl, hvl⟩ : ∃ s : ByteArray, (⟨y.value.toArray⟩ : ByteArray) = s := ⟨_, rfl⟩
                      rw [han] at y0
                      rw [hvl] at y1
                      obtain ⟨qv, hqv⟩ : ∃ s : ByteArray, (⟨(Sp.quote (L vl)).toArray⟩ : ByteArray) = s := ⟨_, rfl⟩
                      obtain ⟨hans, hvls, hqvs, hnew, htk, hlx⟩ := attr_fact HWX.out hy han hvl hqv
                      have HQV := Lib.hid hqv
                      have HNEW := Lib.hid hnew
                      have hcat1 : ¬ (9223372036854775807 < 1 + an.size) := by omega
                      have hcat2 : ¬ (9223372036854775807 < 1 + an.size + 1) := by omega
                      have hcat3 : ¬ (9223372036854775807 < 1 + an.size + 1 + qv.size) := by omega
                      have hvl6 : vl.size ≤ 6000000 := by omega
                      have hszC : (s'.1 ++ 60 :: x.name ++ (x.attrs.take j).flatMap Sp.tagA).length ≤ 1000000000000 := by simp only [List.length_append, List.length_cons]; omega
                      have HWA := HJ.out.alloc (.cells #[.string an, .string vl, .int .i64 y.at_] 42)
                      have hltb : wr.heap.size < (wr.alloc (.cells #[.string an, .string vl, .int .i64 y.at_] 42)).heap.size := by rw [sz_alloc]; omega
                      have zz := heap_alloc_new wr (.cells #[.string an, .string vl, .int .i64 y.at_] 42)
                      have h0 : (wr.alloc (.cells #[.string an, .string vl, .int .i64 y.at_] 42)).cell? ⟨wr.heap.size, 0, none⟩ = some (.string an) := cell_of_row _ _ 0 _ _ _ zz
                      have h1 : (wr.alloc (.cells #[.string an, .string vl, .int .i64 y.at_] 42)).cell? ⟨wr.heap.size, 1, none⟩ = some (.string vl) := cell_of_row _ _ 1 _ _ _ zz
                      have hlt2 : w.heap.size + 3 ≤ wr.heap.size := Nat.le_trans HJ.out.2.2 (Nat.le_of_lt HJ.out.lt)
                      have HLT2 := Lib.hid hlt2
                      clear he1 ha' he2 hc hcl eqj hy han hvl hqv hnew htk hlt2
                      go_upto_region 26 with fail
                      generalize wr.alloc (.cells #[.string an, .string vl, .int .i64 y.at_] 42) = wa at h0 h1 zz HWA hltb ⊢
                      have HZZ := Lib.hid zz
                      have HLB := Lib.hid hltb
                      have HJA := fun z => Lib.hid (HWA.drewN z)
                      clear zz HWA hltb
                      go_region_held3 (fun w' => w'.cell? ⟨wr.heap.size, 0, none⟩ = some (.string an) ∧ w'.cell? ⟨wr.heap.size, 1, none⟩ = some (.string vl)) (first | exact ⟨h0, h1⟩) (first | (go_at_call 25; go_must (refine (quoteC_is vl qv _ hvl6 HQV.out).mono ?_); rintro e w3 ⟨rfl, hbl⟩; clear h0 h1; have HJ2 := Lib.hid ((HJA _).out.below hbl); have zz3 := (hbl.block wr.heap.size HLB.out).trans HZZ.out; have h0 := cell_of_row _ _ 0 _ _ _ zz3; have h1 := cell_of_row _ _ 1 _ _ _ zz3; have HZ3 := Lib.hid zz3; clear hbl zz3) | (go_at_call 77; go_must (refine (ws_calls w _ (s'.1 ++ 60 :: x.name ++ (x.attrs.take j).flatMap Sp.tagA) s'.2 _ _ HJ2.out.1 (by simp only [ByteArray.size_append]; show _ + (1 + an.size + 1 + qv.size) ≤ _; omega)).mono ?_); rintro e w4 ⟨rfl, hw4, ho4⟩; have HJ3 := Lib.hid (HJ2.out.to hw4 ho4.x); clear h0 h1; have zz4 := ho4.x.cells HZ3.out (by have := HLT2.out; omega) (by have := HLT2.out; omega) (by decide) (by decide); have h0 := cell_of_row _ _ 0 _ _ _ zz4; have h1 := cell_of_row _ _ 1 _ _ _ zz4; clear hw4 ho4 zz4))
                      go_wp2_with fail
                      go_roundg (gk - 1)
                      case measure => omega
                      case rel =>
                        have q1 : j + 1 ≤ na := hlj
                        have q2 : na - (j + 1) < gk - 1 := by clear hszC; omega
                        have hna5 : na ≤ 100000 := by rw [← HNA.out]; exact HBD.out.2.2.1
                        have hwj : wrap64 ((j : Int) + 1) = ((j + 1 : Nat) : Int) := by unfold wrap64; omega
                        refine ⟨j + 1, by rw [hwj], q1, q2, ?_⟩
                        rw [HNEW.out, ← List.append_assoc]
                        exact HJ3
                    · have hj' : j = na := by omega
                      subst hj'
                      have hdj : decide ((j : Int) < j) = false := by simp
                      have HT : Hid (WE w (.slice (some ⟨g, o, none⟩) n vc) (s'.1 ++ Sp.tag x) s'.2 (wr0).heap.size #[.string nm, .slice aa j ac, .string tx, .int .i64 up, .int .i64 pl] wr) := by
                        have h9 := HJ.out
                        rw [List.take_of_length_le (by rw [HNA.out]; exact Nat.le_refl _)] at h9
                        have e9 : s'.1 ++ 60 :: x.name ++ x.attrs.flatMap Sp.tagA = s'.1 ++ Sp.tag x := by rw [List.append_assoc]; rfl
                        rw [e9] at h9
                        exact h9
                      clear HJ
                      have hwi1 : IntKind.i64.wrap ((i : Int) + 1) = (i : Int) + 1 := IntWalk.i64_in _ (by omega)
                      have hti1 : ((i : Int) + 1).toNat = i + 1 := by omega
                      go_upto_region 28 with fail
                      go_cut [12] (fun s12 wx => s12 = .bool (Sp.inner l i) ∧ wx = wr)
                      case first =>
                        have kb := HT.out.1.boxed
                        by_cases hi2 : i + 1 < n
                        · have hd2a : decide ((i : Int) + 1 < n) = true := by rw [decide_eq_true_eq]; omega
                          obtain ⟨y, hy⟩ : ∃ y, l[i + 1]? = some y := ⟨_, List.getElem?_eq_getElem (by rw [HN.out]; exact hi2)⟩
                          obtain ⟨_, _, _, _, _, cy, _⟩ := HE.out (i + 1) y hy
                          have cy2 : wr.cell? ⟨g, o + (i + 1) * 5 + 3, none⟩ = some (.int .i64 y.up) := (World.cell?_of_block (HT.out.1.2.2.2.block g hg)).trans cy
                          have hp0 : (0 : Int) ≤ (i : Int) + 1 := by omega
                          have hp1 : (i : Int) + 1 < (n : Int) := by omega
                          obtain ⟨b, hb⟩ : ∃ b, (y.up == (i : Int)) = b := ⟨_, rfl⟩
                          have hin : Sp.inner l i = b := by
                            rw [← hb]; unfold Sp.inner; rw [hy]
                            by_cases h : y.up = (i : Int) <;> simp [h]
                          have HIN := Lib.hid hin
                          clear hin hy cy hi2
                          go_wp2_with fail
                          go_meet
                          exact ⟨by rw [HIN.out], rfl⟩
                        · have hd2a : decide ((i : Int) + 1 < n) = false := by rw [decide_eq_false_iff_not]; omega
                          have hin : Sp.inner l i = false := by
                            unfold Sp.inner
                            rw [List.getElem?_eq_none (by rw [HN.out]; omega)]
                            simp
                          have HIN := Lib.hid hin
                          clear hin hi2
                          go_wp2_with fail
                          go_meet
                          exact ⟨by rw [HIN.out], rfl⟩
                      case rest =>
                        obtain ⟨rfl, rfl⟩ := hcut
                        apply_assumption
                        have k2 := HT.out.cell 2 rfl
                        have kk0 := HT.out.cell 0 rfl
                        obtain ⟨ex, hex⟩ : ∃ s : ByteArray, (⟨(Sp.escape (L tx)).toArray⟩ : ByteArray) = s := ⟨_, rfl⟩
                        obtain ⟨hexs, hex2⟩ := text_fact HWX.out HLT.out hts hex
                        have HEX := Lib.hid hex
                        have HEX2 := Lib.hid hex2
                        have hts6 : tx.size ≤ 6000000 := by omega
                        have hc1 : ¬ (9223372036854775807 < 1 + ex.size) := by omega
                        have hc2 : ¬ (9223372036854775807 < 1 + ex.size + 2) := by omega
                        have hc3 : ¬ (9223372036854775807 < 1 + ex.size + 2 + nm.size) := by omega
                        have hc4 : ¬ (9223372036854775807 < 1 + ex.size + 2 + nm.size + 1) := by omega
                        have htg := tag_len HWX.out
                        have hbd3 := body_len l i HWX.out
                        have hRel : ∀ W, WAt w (.slice (some ⟨g, o, none⟩) n vc) (s'.1 ++ Sp.tag x ++ Sp.body l i x) s'.2 W → ∃ (i_1 : Nat) (s_1 : Sp.Wr), Value.int .i64 ((i : Int) + 1) = .int .i64 i_1 ∧ i_1 ≤ n ∧ n - i_1 < gk0 - 1 ∧ Hid (Sp.runW l i_1 (l.drop i_1) s_1 = R0) ∧ s_1.1.length ≤ i_1 * 50000000 ∧ i_1 ≤ s_1.1.length ∧ s_1.2.length ≤ 16 ∧ Hid (∀ k ∈ s_1.2, k < n) ∧ Hid (WAt w (.slice (some ⟨g, o, none⟩) n vc) s_1.1 s_1.2 W) := by
                          intro W hW
                          have ht1 : 1 ≤ (Sp.tag x).length := by unfold Sp.tag; simp
                          refine ⟨i + 1, (s'.1 ++ Sp.tag x ++ Sp.body l i x, s'.2), rfl, by omega, by omega, HS1.out, ?_, ?_, hs4, HS5.out, hW⟩
                          · simp only [List.length_append]; omega
                          · simp only [List.length_append]; omega
                        have HREL := Lib.hid hRel
                        have hszT : (s'.1 ++ Sp.tag x).length ≤ 1000000000000 := by rw [List.length_append]; omega
                        clear hex hex2 htg hbd3 hRel
                        cases hinn : Sp.inner l i with
                        | true =>
                          have HB3 := Lib.hid (body_in hinn HEX2.out)
                          clear hinn
                          go_wp2_with (first
                            | (go_at_call 24; refine (escapeC_is tx ex _ hts6 HEX.out).mono ?_; rintro e w3 ⟨rfl, hbl⟩; have HT2 := Lib.hid (HT.out.below hbl); clear hbl)
                            | (go_at_call 77; refine (ws_calls w _ (s'.1 ++ Sp.tag x) s'.2 _ _ HT2.out.1 (by rw [ByteArray.size_append]; show _ + (1 + ex.size) ≤ _; omega)).mono ?_; rintro e w4 ⟨rfl, h4, h4'⟩; have HW4 := Lib.hid h4; clear h4 h4'))
                          go_roundg (gk0 - 1)
                          case measure => omega
                          case rel =>
                            refine HREL.out _ ?_
                            rw [HB3.out]
                            exact HW4.out
                        | false =>
                          by_cases htx0 : x.text = []
                          · have HB3 := Lib.hid (body_nil hinn htx0)
                            have hte : tx.toList.isEmpty = true := by rw [toList_L, HLT.out, htx0]; rfl
                            clear hinn htx0
                            go_wp2_with (go_at_call 77; refine (ws_calls w _ (s'.1 ++ Sp.tag x) s'.2 _ _ HT.out.1 (by show _ + 2 ≤ _; omega)).mono ?_; rintro e w4 ⟨rfl, h4, h4'⟩; have HW4 := Lib.hid h4; clear h4 h4')
                            go_roundg (gk0 - 1)
                            case measure => omega
                            case rel =>
                              refine HREL.out _ ?_
                              rw [HB3.out]
                              exact HW4.out
                          · have HB3 := Lib.hid (body_text hinn htx0 HEX2.out HLN.out)
                            have hte : tx.toList.isEmpty = false := by
                              rw [toList_L, HLT.out]
                              cases hh : x.text with
                              | nil => exact absurd hh htx0
                              | cons => rfl
                            clear hinn htx0
                            go_upto_region 33 with fail
                            have h0 := kk0
                            have h1 := k2
                            have HTD := fun z => Lib.hid (HT.out.drewN z)
                            clear kk0 k2 k1 k0
                            go_region_held3 (fun w' => w'.cell? ⟨wr0.heap.size, 0, none⟩ = some (.string nm) ∧ w'.cell? ⟨wr0.heap.size, 2, none⟩ = some (.string tx)) (first | exact ⟨h0, h1⟩) (first | (go_at_call 24; go_must (refine (escapeC_is tx ex _ hts6 HEX.out).mono ?_); rintro e w3 ⟨rfl, hbl⟩; clear h0 h1; have HT2 := Lib.hid ((HTD _).out.below hbl); have h0 := HT2.out.cell 0 rfl; have h1 := HT2.out.cell 2 rfl; clear hbl) | (go_at_call 77; go_must (refine (ws_calls w _ (s'.1 ++ Sp.tag x) s'.2 _ _ HT2.out.1 (by simp only [ByteArray.size_append]; show _ + (1 + ex.size + 2 + nm.size + 1) ≤ _; omega)).mono ?_); rintro e w4 ⟨rfl, hw4, ho4⟩; have HT3 := Lib.hid (HT2.out.to hw4 ho4.x); clear h0 h1 hw4 ho4; have h0 := HT3.out.cell 0 rfl; have h1 := HT3.out.cell 2 rfl))
                            go_wp2_with fail
                            go_roundg (gk0 - 1)
                            case measure => omega
                            case rel =>
                              refine HREL.out _ ?_
                              rw [HB3.out]
                              exact HT3.out.1
        · have hin : i = n := by omega
          subst hin
          have hdi : decide ((i : Int) < i) = false := by simp
          have hRn : R0 = some s := by rw [← HK.out, runW_end (by rw [HN.out]; exact Nat.le_refl _)]
          have HRN : Hid (R = some (s.1 ++ Sp.closes l s.2)) := by show R = _; rw [HRR.out, hRn]; rfl
          clear hRn
          go_wp2_with (first
            | (go_at_call 76; refine (shut0_calls w _ l s.1 s.2 _ HL.out (by rw [HN.out]; exact hnI) (by rw [HN.out]; exact HOP.out) HNM.out (by omega) (by omega) HI.out).mono ?_; rintro e w1 ⟨rfl, h1⟩; have H1 := Lib.hid h1; clear h1)
            | (go_at_call 79; refine (str_calls w _ _ _ _ H1.out (by intro h; have := congrArg List.length h; rw [List.length_append, List.length_nil] at this; omega)).mono ?_; rintro e w2 ⟨rfl, h2⟩; have H2 := Lib.hid h2; clear h2))
          go_ret2
          have := HRN.out
          subst this
          exact ⟨rfl, H2.out⟩
#print axioms write_calls
end Go.Proofs.YtokdclmikllepaaGreatDoor
