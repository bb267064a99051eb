import Derived.Test.YtokdclmikllepaaGreatDoorKt25
import Derived.Test.YtokdclmikllepaaGreatDoorKt30
import Derived.Test.YtokdclmikllepaaGreatDoorKt31
import Derived.Test.YtokdclmikllepaaGreatDoorKt11
import Derived.Shelf.Strings.BuilderK
import Derived.StillTailTactics
import Derived.BigQuiet
import Derived.Laws.AppendOwn
namespace Go.Proofs.YtokdclmikllepaaGreatDoor
open Go.RowKit Go.Maps
set_option linter.unusedVariables false
set_option linter.unusedSimpArgs false

def WAt (W0 : World) (lv : Value) (bs : List UInt8) (op : List Nat) (w : World) : Prop :=
  Lib.IsBuilderF 115 5 W0.heap.size (W0.heap.size + 1) (Lib.byteCells bs) w ∧
  w.heap[W0.heap.size]? = some (.cells #[lv] 45 (0, 0)) ∧
  (∃ v, w.heap[W0.heap.size + 2]? = some (.cells #[v] 106 (0, 0)) ∧ OpAt W0.heap.size w v op) ∧
  Below W0.heap.size W0 w
/-- Every block but the builder's and its bytes' stands. -/
def Oth (W0 w w' : World) : Prop := Lib.OthersKept 5 (some (W0.heap.size + 1)) w w'
theorem bldF_shape {T e : TypeId} {B b : Nat} {bs : List Value} {w : World} (h : Lib.IsBuilderF T e B b bs w) : ∃ c, w.heap[b]? = some (.cells c T (0, 0)) := by
  rcases h with ⟨_, v, h, _⟩ | ⟨_, v, h, _⟩
  · exact ⟨_, h⟩
  · exact ⟨_, h⟩
theorem bldF_grown {T e : TypeId} {B b : Nat} {bs : List Value} {w w' : World} {row : Option Nat} (h : Lib.IsBuilderF T e B b bs w) (hg : w.grownBy w' row) (hb : row ≠ some b) (hr : ∀ k, row = some k → ∃ c t fz, w.heap[k]? = some (.cells c t fz) ∧ t ≠ e) :
    Lib.IsBuilderF T e B b bs w' := by
  have key : ∀ p, Lib.BuilderAtF T e B b p bs w → Lib.BuilderAtF T e B b p bs w' := by
    intro p h
    have hlt := h.lt
    obtain ⟨hB, v, hbk, hown, hne⟩ := h
    refine ⟨hB, v, (hg.block b hlt (fun x => hb x.symm)).trans hbk, hown.kept hg ?_, hne⟩
    cases hro : row with
    | none => cases hv : v.ownBlock <;> simp
    | some k =>
      obtain ⟨c, t, fz, hk, ht⟩ := hr k hro
      exact .inr (Lib.ownBlock_neF hown hk ht)
  exact h.elim (fun x => .inl (key _ x)) (fun x => .inr (key _ x))
theorem own_oth {W0 w w' : World} {B n size : Nat} {e : TypeId} {v : Value} {xs : List Value} (h : w.ownsRow B e size v n xs) (ho : Oth W0 w w') (he : e ≠ 5) (hb : ∃ c T, w.heap[W0.heap.size + 1]? = some (.cells c T (0, 0)) ∧ e ≠ T) : w'.ownsRow B e size v n xs := by
  obtain ⟨c, T, hb, hT⟩ := hb
  have hne := own_ne h hb hT
  refine ⟨h.1, ?_⟩
  rcases h.2 with h2 | ⟨q, cap, cur, rfl, hB, hh, rest⟩
  · exact .inl h2
  · refine .inr ⟨q, cap, cur, rfl, hB, ho q _ hh (fun x => hne (by simpa [Value.ownBlock] using x)) ?_, rest⟩
    intro c' fz hc
    injection hc with _ h2 _
    exact he h2
section
variable {W0 w w' : World} {lv : Value} {bs bs' : List UInt8} {op : List Nat}
theorem WAt.below (h : WAt W0 lv bs op w) (hb : Below w.heap.size w w') : WAt W0 lv bs op w' := by
  obtain ⟨h1, h2, ⟨v, h3, h4⟩, h5⟩ := h
  have hl2 := (Array.getElem?_eq_some_iff.1 h2).1
  have hl3 := (Array.getElem?_eq_some_iff.1 h3).1
  refine ⟨bldF_grown h1 (row := none) ⟨hb.os, hb.tape, hb.output, hb.size, fun i hi _ => hb.block i hi⟩ (by simp) (by simp), (hb.block _ hl2).trans h2, ⟨v, (hb.block _ hl3).trans h3, own_below h4 hb⟩, h5.trans (hb.mono h5.size)⟩
theorem WAt.alloc (h : WAt W0 lv bs op w) (o : Obj) : WAt W0 lv bs op (w.alloc o) := h.below ((Below.refl _ _).alloc (Nat.le_refl _) o)
theorem WAt.drewN (h : WAt W0 lv bs op w) (n : Nat) : WAt W0 lv bs op (w.drewN n) := h.below (below_drewN (Below.refl _ _) n)
theorem WAt.drew (h : WAt W0 lv bs op w) : WAt W0 lv bs op w.drew := h.below (Below.drew (Below.refl _ _))
theorem WAt.boxed (h : WAt W0 lv bs op w) : w.cell? ⟨W0.heap.size, 0, none⟩ = some lv := cell_of_row _ _ 0 _ _ _ h.2.1
theorem WAt.wrote (h : WAt W0 lv bs op w) (hb : Lib.IsBuilderF 115 5 W0.heap.size (W0.heap.size + 1) (Lib.byteCells bs') w') (ho : Oth W0 w w') (hbl : Below W0.heap.size W0 w') : WAt W0 lv bs' op w' := by
  obtain ⟨h1, h2, ⟨v, h3, h4⟩, h5⟩ := h
  obtain ⟨c, hc⟩ := bldF_shape h1
  refine ⟨hb, ho _ _ h2 (by simp) ?_, ⟨v, ho _ _ h3 (by simp) ?_, own_oth h4 ho (by decide) ⟨c, _, hc, by decide⟩⟩, hbl⟩
  all_goals
    intro c' fz hc
    injection hc with _ h2 _
    exact absurd h2 (by decide)
end
theorem bld_str (acc : List UInt8) (s : ByteArray) : Lib.byteCells acc ++ Lib.strCells s = Lib.byteCells (acc ++ L s) := by
  have := bld_more acc (L s)
  rwa [bs_L] at this
theorem ws_calls (W0 : World) (lv : Value) (bs : List UInt8) (op : List Nat) (s : ByteArray) (w : World) (h : WAt W0 lv bs op w) (hs : bs.length + s.size ≤ 140737488355328) :
    Calls Tryz.prog 77 #[.pointer (some ⟨W0.heap.size + 1, 0, none⟩), .string s] w fun e w' => e = .returned (.tuple #[.int .i64 s.size, .nilIface]) ∧ WAt W0 lv (bs ++ L s) op w' ∧ Oth W0 w w' := by
  have hsz := h.2.2.2.size
  refine (Any.Builder_WriteString_k lays_n166 extra_Bl W0.heap.size (W0.heap.size + 1) (Lib.byteCells bs) s w h.1 (by rw [Lib.byteCells_length]; exact hs) hsz).mono ?_
  rintro e w' ⟨rfl, h1, h2, h3⟩
  rw [bld_str] at h1
  exact ⟨rfl, h.wrote (.inr h1) h3 (h.2.2.2.trans h2), h3⟩
theorem drop_cons {op : List Nat} {j k : Nat} (h : op[j]? = some k) : op.drop j = k :: op.drop (j + 1) := by
  obtain ⟨hj, rfl⟩ := List.getElem?_eq_some_iff.1 h
  exact List.drop_eq_getElem_cons hj
theorem closes_cons (l : List Sp.EE) (k : Nat) (op : List Nat) : Sp.closes l (k :: op) = Sp.closes l op ++ Sp.closeT (Sp.nameAt l k) := by
  simp [Sp.closes]
theorem closes_len (l : List Sp.EE) (M : Nat) (hn : ∀ k, (Sp.nameAt l k).length ≤ M) : ∀ op : List Nat, (Sp.closes l op).length ≤ op.length * (M + 3)
  | [] => by simp [Sp.closes]
  | k :: op => by
    rw [closes_cons, List.length_append]
    have := closes_len l M hn op
    have := hn k
    simp only [Sp.closeT, List.length_cons, List.length_append, List.length_nil]
    rw [Nat.add_mul]
    omega
end Go.Proofs.YtokdclmikllepaaGreatDoor
namespace Go.Proofs.YtokdclmikllepaaGreatDoor
open Go.RowKit Go.Maps
set_option linter.unusedVariables false
set_option linter.unusedSimpArgs false

/-- Every block but the builder's, its bytes' and the open elements' box stands. -/
def OthX (W0 w w' : World) : Prop := ∀ k o, w.heap[k]? = some o → k ≠ W0.heap.size + 1 → k ≠ W0.heap.size + 2 → (∀ c fz, o ≠ .cells c 5 fz) → (∀ c fz, o ≠ .cells c 3 fz) → w'.heap[k]? = some o
theorem OthX.refl (W0 w : World) : OthX W0 w w := fun _ _ h _ _ _ _ => h
theorem OthX.trans {W0 a b c : World} (h : OthX W0 a b) (h' : OthX W0 b c) : OthX W0 a c := fun k o h1 h2 h3 h4 h5 => h' k o (h k o h1 h2 h3 h4 h5) h2 h3 h4 h5
theorem Oth.x {W0 a b : World} (h : Oth W0 a b) : OthX W0 a b := fun k o h1 h2 _ h4 _ => h k o h1 (by simpa using h2) h4
theorem OthX.below {W0 a b : World} (h : Below a.heap.size a b) : OthX W0 a b := fun k o h1 _ _ _ _ => (h.block k (Array.getElem?_eq_some_iff.1 h1).1).trans h1
theorem OthX.set (W0 a : World) (i : Nat) (u : Value) : OthX W0 a (a.setCell ⟨W0.heap.size + 2, i, none⟩ u) := fun k o h1 _ h3 _ _ => by
  rw [Below.heap_setCell _ _ _ _ (fun e => h3 e)]
  exact h1
theorem OthX.cells {W0 a b : World} {k : Nat} {c : Array Value} {t : TypeId} {fz : Nat × Nat} (h : OthX W0 a b) (hk : a.heap[k]? = some (.cells c t fz)) (h1 : k ≠ W0.heap.size + 1) (h2 : k ≠ W0.heap.size + 2) (h3 : t ≠ 5) (h4 : t ≠ 3) : b.heap[k]? = some (.cells c t fz) := by
  refine h k _ hk h1 h2 ?_ ?_
  · intro c' fz' e; injection e with _ e; exact h3 e
  · intro c' fz' e; injection e with _ e; exact h4 e

theorem L_app (a b : ByteArray) : L (a ++ b) = L a ++ L b := by simp [L]
section
variable {W0 w w' : World} {lv : Value} {bs bs' : List UInt8} {op : List Nat}
theorem OpAt.popTake {B : Nat} {w : World} {p n cap : Nat} {l : List Nat} (h : OpAt B w (.slice (some ⟨p, 0, none⟩) (n + 1) cap) l) (hl : l.length = n + 1) : OpAt B w (.slice (some ⟨p, 0, none⟩) n cap) (l.take n) := by
  obtain ⟨o, i, rfl⟩ : ∃ o k, l = o ++ [k] := by
    rcases List.eq_nil_or_concat l with h | ⟨o, k, h⟩
    · subst h; simp at hl
    · exact ⟨o, k, by simpa using h⟩
  have ho : o.length = n := by simpa using hl
  rw [List.take_left' ho]
  exact h.pop ho
theorem WAt.openR (h : WAt W0 lv bs op w) {n : Nat} (hl : op.length = n + 1) : ∃ q cap, w.cell? ⟨W0.heap.size + 2, 0, none⟩ = some (.slice (some ⟨q, 0, none⟩) (n + 1) cap) ∧ n + 1 ≤ cap ∧ (∀ i k : Nat, op[i]? = some k → w.cell? ⟨q, i, none⟩ = some (.int .i64 (k : Int))) ∧
    w.frozen? ⟨W0.heap.size + 2, 0, none⟩ = false ∧ WAt W0 lv bs (op.take n) (w.setCell ⟨W0.heap.size + 2, 0, none⟩ (.slice (some ⟨q, 0, none⟩) n cap)) := by
  obtain ⟨h1, h2, ⟨v, h3, h4⟩, h5⟩ := h
  obtain ⟨q, cap, rfl, hq1, hq2, hq3⟩ := ownsRow_cells h4 (by omega)
  rw [hl] at h3 h4
  have hcap : n + 1 ≤ cap := by
    rcases h4.2 with ⟨h, _⟩ | ⟨_, cap', cur, hv, _, _, hle, _⟩
    · cases h
    · injection hv with _ _ hv; omega
  have hO : Only (W0.heap.size + 2) w (w.setCell ⟨W0.heap.size + 2, 0, none⟩ (.slice (some ⟨q, 0, none⟩) n cap)) := (Only.refl _ w).set 0 _
  refine ⟨q, cap, cell_of_row _ _ 0 _ _ _ h3, hcap, fun i k hk => hq3 i _ (by rw [List.getElem?_map, hk]; rfl), by simp [World.frozen?, h3], ?_, ?_, ?_, ?_⟩
  · refine bldF_grown h1 hO (by simp) ?_
    intro k hk
    injection hk with hk
    subst hk
    exact ⟨_, _, _, h3, by decide⟩
  · rw [Below.heap_setCell _ _ _ _ (by intro e; simp at e)]
    exact h2
  · refine ⟨_, heap_set w _ 0 _ _ _ _ h3, own_set (h4.popTake hl) h3 (by decide)⟩
  · exact h5.setCell (by simp) _
theorem nameAt_of {l : List Sp.EE} {k : Nat} {x : Sp.EE} (h : l[k]? = some x) : Sp.nameAt l k = x.name := by
  unfold Sp.nameAt
  rw [List.getD_eq_getElem?_getD, List.getElem?_map, h]
  rfl
theorem closes_drop (l : List Sp.EE) (op : List Nat) (j k : Nat) (h : op[j]? = some k) : Sp.closes l (op.drop j) = Sp.closes l (op.drop (j + 1)) ++ Sp.closeT (Sp.nameAt l k) := by
  rw [drop_cons h, closes_cons]
end

set_option maxHeartbeats 8000000 in
set_option maxRecDepth 100000 in
theorem shut_calls (W0 : World) (lv : Value) (l : List Sp.EE) (bs : List UInt8) (op : List Nat) (to' : Nat) (w : World) (hl : ElsR W0 lv l) (hL : l.length ≤ 4096) (hop : ∀ k ∈ op, k < l.length) (hn : ∀ k, (Sp.nameAt l k).length ≤ 6000000) (hbs : bs.length ≤ 10000000000000) (ho17 : op.length ≤ 17)
    (hto : to' ≤ op.length) (h : WAt W0 lv bs op w) :
    Calls Tryz.prog 76 #[.int .i64 (to' : Int), .pointer (some ⟨W0.heap.size + 2, 0, none⟩), .pointer (some ⟨W0.heap.size + 1, 0, none⟩), .pointer (some ⟨W0.heap.size, 0, none⟩)] w
      fun e w' => e = .returned (.tuple #[]) ∧ WAt W0 lv (bs ++ Sp.closes l (op.drop to')) (op.take to') w' ∧ OthX W0 w w' := by
  have HW : Hid (WAt W0 lv (bs ++ Sp.closes l (op.drop op.length)) (op.take op.length) w) := by
    rw [List.drop_length, List.take_length]
    have h' := h
    rw [← List.append_nil bs] at h'
    exact h'
  have HOP := Lib.hid hop
  have HL := Lib.hid hl
  have HNM := Lib.hid hn
  clear hop hl hn h
  go_enter Tryz.func76, Tryz.ntmps76
  go_wp2_with fail
  go_loopg [5] (op.length + 1) (fun k _ wr => ∃ j : Nat, to' ≤ j ∧ j ≤ op.length ∧ j < k ∧ Hid (WAt W0 lv (bs ++ Sp.closes l (op.drop j)) (op.take j) wr) ∧ Hid (OthX W0 w wr))
  case atStart => exact ⟨op.length, hto, Nat.le_refl _, by omega, HW, OthX.refl _ _⟩
  case round =>
    clear HW
    obtain ⟨j, hj1, hj2, hj3, HI, HO⟩ := hrel
    by_cases hlt : to' < j
    · obtain ⟨n, rfl⟩ : ∃ n, j = n + 1 := ⟨j - 1, by omega⟩
      obtain ⟨k, hk⟩ : ∃ k, op[n]? = some k := ⟨_, List.getElem?_eq_getElem (by omega)⟩
      have hkl : k < l.length := HOP.out k (List.mem_of_getElem? hk)
      obtain ⟨x, hx⟩ : ∃ x, l[k]? = some x := ⟨_, List.getElem?_eq_getElem hkl⟩
      have htl : (op.take (n + 1)).length = n + 1 := by rw [List.length_take]; omega
      have hkt : (op.take (n + 1))[n]? = some k := by rw [List.getElem?_take_of_lt (by omega)]; exact hk
      obtain ⟨q, cap, c2, hcap, hck, hfz, _⟩ := HI.out.openR htl
      have c3 := hck n k hkt
      have c0 := HI.out.boxed
      obtain ⟨a, c, rfl, hE⟩ := HL.out
      obtain ⟨g, o, rfl, hg, hEx⟩ := hE (by omega)
      obtain ⟨av, _, cx, _⟩ := hEx k x hx
      have c4 : wr.cell? ⟨g, o + k * 5, none⟩ = some (.string ⟨x.name.toArray⟩) := (World.cell?_of_block (HI.out.2.2.2.block g hg)).trans cx
      have hnx := nameAt_of hx
      have hnl := HNM.out k
      rw [hnx] at hnl
      have hcl := closes_drop l op n k hk
      rw [hnx] at hcl
      have hcb := closes_len l 6000000 HNM.out (op.drop (n + 1))
      rw [List.length_drop] at hcb
      obtain ⟨nm, hnm⟩ : ∃ s : ByteArray, (⟨x.name.toArray⟩ : ByteArray) = s := ⟨_, rfl⟩
      have hLn : L nm = x.name := by rw [← hnm]
      have hns : nm.size ≤ 6000000 := by rw [← L_length, hLn]; exact hnl
      rw [hnm] at c4
      have hbb : (bs ++ Sp.closes l (op.drop (n + 1))).length ≤ 10001000000000 := by
        rw [List.length_append]
        have : (op.length - (n + 1)) * (6000000 + 3) ≤ 17 * (6000000 + 3) := Nat.mul_le_mul_right _ (by omega)
        omega
      have hd1 : decide (to' < n + 1) = true := by simp; omega
      have hd2 : decide ((to' : Int) < (n : Int) + 1) = true := by simp; omega
      have hk0 : (0 : Int) ≤ (k : Int) := by omega
      have hk1 : (k : Int) < (l.length : Int) := by omega
      have hn0 : (0 : Int) ≤ (n : Int) := by omega
      have hn1 : (n : Int) < ((n + 1 : Nat) : Int) := by omega
      have hn2 : (n : Int) < (n : Int) + 1 := by omega
      have hwn : IntKind.i64.wrap (n : Int) = n := IntWalk.i64_in _ (by omega)
      have hwt : (n : Int).toNat = n := by simp
      have hcat2 : ¬ (9223372036854775807 < 2 + nm.size + 1) := by omega
      have hcat3 : ¬ (9223372036854775807 < ((⟨#[60, 47]⟩ : ByteArray) ++ nm).size + 1) := by rw [ByteArray.size_append]; exact hcat2
      have hcat1 : ¬ (9223372036854775807 < 2 + nm.size) := by omega
      have HCL := Lib.hid hcl
      have HLN := Lib.hid hLn
      clear hck hfz hEx hE cx hcl hnx hnl hLn hnm hcb hx hk hkt
      go_wp2_with fail
      go_still_tail 12, (by kernel_rfl)
      change wpList _ _ _ _ _ wr.drew
      have HD := HI.out.drew
      have HOD : Hid (OthX W0 w wr.drew) := HO.out
      generalize wr.drew = w2 at *
      have HD2 := Lib.hid HD
      clear HD
      go_wp2_with (go_at_call 77; refine (ws_calls W0 _ _ _ _ _ HD2.out (by simp only [ByteArray.size_append]; show _ + (2 + nm.size + 1) ≤ _; omega)).mono ?_; rintro e w3 ⟨rfl, h3, h4⟩; have H3 := Lib.hid h3; have H4 := Lib.hid (HOD.out.trans h4.x); obtain ⟨q3, cap3, d2, hcap3, _, hfz3, hnew⟩ := h3.openR htl; have HN := Lib.hid hnew; clear h3 h4 hnew)
      go_roundg (gk - 1)
      case measure => omega
      case rel =>
        refine ⟨n, by omega, by omega, by omega, ?_, H4.out.trans (OthX.set _ _ _ _)⟩
        have hq := HN.out
        have he : bs ++ Sp.closes l (op.drop (n + 1)) ++ L (⟨#[60, 47]⟩ ++ nm ++ ⟨#[62]⟩) = bs ++ Sp.closes l (op.drop n) := by
          rw [HCL.out, L_app, L_app, HLN.out, List.append_assoc]
          congr 1
        rw [he, List.take_take, Nat.min_eq_left (by omega)] at hq
        exact hq
    · have hj' : j = to' := by omega
      subst hj'
      obtain ⟨v, h3, h4⟩ := HI.out.2.2.1
      have htl : (op.take j).length = j := by rw [List.length_take]; omega
      obtain ⟨va, vc, rfl⟩ : ∃ a c, v = .slice a j c := by
        unfold OpAt at h4
        rw [htl] at h4
        rcases h4.2 with ⟨rfl, h0⟩ | ⟨q, cap, cur, rfl, _⟩
        · exact ⟨_, _, by rw [h0]⟩
        · exact ⟨_, _, rfl⟩
      have c2 := cell_of_row _ _ 0 _ _ _ h3
      simp only [List.getElem?_toArray, List.getElem?_cons_zero] at c2
      have hd1 : decide (j < j) = false := by simp
      have hd2 : decide ((j : Int) < (j : Int)) = false := by simp
      clear h3 h4 htl
      go_wp2_with fail
      go_end0
      exact ⟨rfl, HI.out, HO.out⟩
end Go.Proofs.YtokdclmikllepaaGreatDoor
namespace Go.Proofs.YtokdclmikllepaaGreatDoor
open Go.RowKit Go.Maps
set_option linter.unusedVariables false
set_option linter.unusedSimpArgs false

def wtEA (a : Sp.EA) : Nat := a.name.length + a.value.length + 1
def wtEE (x : Sp.EE) : Nat := x.name.length + x.text.length + (x.attrs.map wtEA).sum
theorem sum_mem {α : Type} (f : α → Nat) : ∀ (l : List α) (a : α), a ∈ l → f a ≤ (l.map f).sum
  | b :: l, a, h => by
    rw [List.map_cons, List.sum_cons]
    rcases List.mem_cons.1 h with rfl | h
    · omega
    · have := sum_mem f l a h; omega
theorem sum_len {α : Type} (f : α → Nat) (hf : ∀ a, 1 ≤ f a) : ∀ (l : List α), l.length ≤ (l.map f).sum
  | [] => by simp
  | b :: l => by
    rw [List.map_cons, List.sum_cons, List.length_cons]
    have := sum_len f hf l
    have := hf b
    omega
theorem EEBd.of {x : Sp.EE} (h : wtEE x ≤ 100000) : EEBd x := by
  unfold wtEE at h
  have h1 := sum_len wtEA (fun a => by unfold wtEA; omega) x.attrs
  refine ⟨by omega, by omega, by omega, fun a ha => ?_⟩
  have h3 := sum_mem wtEA x.attrs a ha
  have h2 : wtEA a = a.name.length + a.value.length + 1 := rfl
  omega
theorem tagsW_len : ∀ l : List Sp.EA, (l.flatMap Sp.tagA).length ≤ 104 * (l.map wtEA).sum
  | [] => by simp
  | a :: l => by
    rw [List.flatMap_cons, List.length_append, List.map_cons, List.sum_cons]
    have h1 := tagsW_len l
    have h2 := rep_bound quoPs 100 quo_sz (by decide) a.value
    have h3 : (Sp.tagA a).length = a.name.length + (Sp.rep quoPs a.value).length + 4 := by
      simp [Sp.tagA, Sp.quote]; omega
    have h4 : wtEA a = a.name.length + a.value.length + 1 := rfl
    omega
theorem tag_len {x : Sp.EE} (h : wtEE x ≤ 100000) : (Sp.tag x).length ≤ 20000000 := by
  have h1 := tagsW_len x.attrs
  unfold wtEE at h
  unfold Sp.tag
  simp only [List.length_cons, List.length_append]
  omega
theorem body_len {x : Sp.EE} (l : List Sp.EE) (i : Nat) (h : wtEE x ≤ 100000) : (Sp.body l i x).length ≤ 20000000 := by
  have h1 : (Sp.escape x.text).length ≤ x.text.length * 100 := rep_bound escPs 100 esc_sz (by decide) x.text
  unfold wtEE at h
  unfold Sp.body Sp.closeT
  split
  · simp only [List.length_cons, List.length_append]; omega
  · split
    · simp
    · simp only [List.length_cons, List.length_append, List.length_nil]; omega
theorem runW_cons {l : List Sp.EE} {i : Nat} {x : Sp.EE} {s : Sp.Wr} (hx : l[i]? = some x) : Sp.runW l i (l.drop i) s = match Sp.stepW l i x s with | none => none | some s' => Sp.runW l (i + 1) (l.drop (i + 1)) s' := by
  obtain ⟨hi, rfl⟩ := List.getElem?_eq_some_iff.1 hx
  rw [List.drop_eq_getElem_cons hi, Sp.runW]
  cases Sp.stepW l i l[i] s <;> rfl
theorem runW_end {l : List Sp.EE} {i : Nat} {s : Sp.Wr} (hi : l.length ≤ i) : Sp.runW l i (l.drop i) s = some s := by
  rw [List.drop_eq_nil_of_le hi, Sp.runW]
theorem toIx_le (u : Int) (op : List Nat) : ∀ t, Sp.toIx u op t ≤ t
  | 0 => by simp [Sp.toIx]
  | t + 1 => by
    rw [Sp.toIx]
    split
    · exact Nat.le_refl _
    · have := toIx_le u op t; omega
theorem toIx_go {u : Int} {op : List Nat} {t k : Nat} (hk : op[t]? = some k) (h : ¬ ((k : Int) = u)) : Sp.toIx u op (t + 1) = Sp.toIx u op t := by
  rw [Sp.toIx, if_neg]
  rw [List.getD_eq_getElem?_getD, hk]
  exact h
theorem toIx_at {u : Int} {op : List Nat} {t k : Nat} (hk : op[t]? = some k) (h : (k : Int) = u) : Sp.toIx u op (t + 1) = t + 1 := by
  rw [Sp.toIx, if_pos]
  rw [List.getD_eq_getElem?_getD, hk]
  exact h

def WE (W0 : World) (lv : Value) (bs : List UInt8) (op : List Nat) (e : Nat) (cs : Array Value) (w : World) : Prop :=
  WAt W0 lv bs op w ∧ w.heap[e]? = some (.cells cs 53 (0, 0)) ∧ W0.heap.size + 3 ≤ e
section
variable {W0 w w' : World} {lv : Value} {bs bs' : List UInt8} {op op' : List Nat} {e : Nat} {cs : Array Value}
theorem WE.cell (h : WE W0 lv bs op e cs w) (i : Nat) {v : Value} (hv : cs[i]? = some v) : w.cell? ⟨e, i, none⟩ = some v := (cell_of_row w e i _ _ _ h.2.1).trans hv
theorem WE.lt (h : WE W0 lv bs op e cs w) : e < w.heap.size := (Array.getElem?_eq_some_iff.1 h.2.1).1
theorem WE.below (h : WE W0 lv bs op e cs w) (hb : Below w.heap.size w w') : WE W0 lv bs op e cs w' := ⟨h.1.below hb, (hb.block e h.lt).trans h.2.1, h.2.2⟩
theorem WE.drewN (h : WE W0 lv bs op e cs w) (n : Nat) : WE W0 lv bs op e cs (w.drewN n) := h.below (below_drewN (Below.refl _ _) n)
theorem WE.drew (h : WE W0 lv bs op e cs w) : WE W0 lv bs op e cs w.drew := h.below (Below.drew (Below.refl _ _))
theorem WE.alloc (h : WE W0 lv bs op e cs w) (o : Obj) : WE W0 lv bs op e cs (w.alloc o) := h.below ((Below.refl _ _).alloc (Nat.le_refl _) o)
theorem WE.to (h : WE W0 lv bs op e cs w) (h' : WAt W0 lv bs' op' w') (ho : OthX W0 w w') : WE W0 lv bs' op' e cs w' := ⟨h', ho.cells h.2.1 (by have := h.2.2; omega) (by have := h.2.2; omega) (by decide) (by decide), h.2.2⟩
theorem WAt.elem (h : WAt W0 lv bs op w) : WE W0 lv bs op w.heap.size cs (w.alloc (.cells cs 53)) := by
  refine ⟨h.alloc _, heap_alloc_new w _, ?_⟩
  obtain ⟨_, _, ⟨v, h3, _⟩, _⟩ := h
  have := (Array.getElem?_eq_some_iff.1 h3).1
  omega
theorem WAt.box (h : WAt W0 lv bs op w) : ∃ a c, w.heap[W0.heap.size + 2]? = some (.cells #[.slice a op.length c] 106 (0, 0)) ∧ OpAt W0.heap.size w (.slice a op.length c) op := by
  obtain ⟨_, _, ⟨v, h3, h4⟩, _⟩ := h
  obtain ⟨a, c, rfl⟩ : ∃ a c, v = .slice a op.length c := by
    rcases h4.2 with ⟨rfl, h0⟩ | ⟨q, cap, cur, rfl, _⟩
    · exact ⟨_, _, by rw [h0]⟩
    · exact ⟨_, _, rfl⟩
  exact ⟨a, c, h3, h4⟩
end
theorem infoI : (Tryz.prog.info? 3).map (fun i => (i.zero, i.size, i.bytes)) = some (some (.int .i64 0), 1, 8) := by kernel_rfl
theorem wpList_appI {ops : Array Oper} {rest : List Oper} {o : Oper} {a : Act} {Q : Exit → Act → World → Prop} (hgd : o.guard = none) (s x : Operand)
    (ho : o.op = .call { callee := .builtin .append, args := #[s, x], argTypes := #[106, 106] })
    {W0 w : World} {lv : Value} {bs : List UInt8} {op : List Nat} {sa : Option Addr} {n sc : Nat} (k : Nat) (h0 : WAt W0 lv bs op w) (hb : w.heap[W0.heap.size + 2]? = some (.cells #[.slice sa n sc] 106 (0, 0))) (hO : OpAt W0.heap.size w (.slice sa n sc) op)
    (hn : op.length = n) (hn17 : n ≤ 17) (hs : a.eval s = .slice sa n sc) (cs : Array Value) (hcs : cs.toList = [.int .i64 (k : Int)]) (hx : a.eval x = .slice (some ⟨w.heap.size, 0, none⟩) 1 1)
    (h : ∀ q cap w', w'.cell? ⟨W0.heap.size + 2, 0, none⟩ = some (.slice sa n sc) → w'.frozen? ⟨W0.heap.size + 2, 0, none⟩ = false → WAt W0 lv bs (op ++ [k]) (w'.setCell ⟨W0.heap.size + 2, 0, none⟩ (.slice (some ⟨q, 0, none⟩) (n + 1) cap)) →
      OthX W0 w (w'.setCell ⟨W0.heap.size + 2, 0, none⟩ (.slice (some ⟨q, 0, none⟩) (n + 1) cap)) → wpList Tryz.prog ops Q rest (a.put o.dst (.slice (some ⟨q, 0, none⟩) (n + 1) cap)) w') :
    wpList Tryz.prog ops Q (o :: rest) a (w.alloc (.cells cs 3)) := by
  obtain ⟨i0, hi, hz0, hz1, hz2⟩ := info_parts infoI
  obtain ⟨h1, h2, _, h5⟩ := h0.alloc (.cells cs 3)
  have hOA : OpAt W0.heap.size (w.alloc (.cells cs 3)) (.slice sa n sc) op := own_below hO ((Below.refl _ _).alloc (Nat.le_refl _) _)
  have hblt := (Array.getElem?_eq_some_iff.1 hb).1
  have hbA : (w.alloc (.cells cs 3)).heap[W0.heap.size + 2]? = some (.cells #[.slice sa n sc] 106 (0, 0)) := (heap_alloc_old _ _ hblt).trans hb
  have hwsz := h0.2.2.2.size
  refine wpList_append_own _ hgd s x 106 ho W0.heap.size 3 i0 _ 1 8 Tryz.underlying106 hi hz0 hz1 hz2 rfl (by decide) (.slice sa n sc) n (op.map fun i : Nat => .int .i64 (i : Int)) hs (hn ▸ hOA) ⟨w.heap.size, 0, none⟩ 1 1 [.int .i64 (k : Int)] hx rfl
    (World.news_of_block (cs := cs) (heap_alloc_new w _) |> fun hh => by rw [← hcs]; exact hh) ?_ (by unfold maxLen; omega) (by omega) (by rw [sz_alloc]; omega) ?_
  · intro u hu
    simp only [List.mem_cons, List.not_mem_nil, or_false] at hu
    subst hu
    rfl
  · intro v' w' k1 k2 _
    have hne := own_ne hOA hbA (by decide)
    have hb' : w'.heap[W0.heap.size + 2]? = some (.cells #[.slice sa n sc] 106 (0, 0)) := (k2.block _ (Array.getElem?_eq_some_iff.1 hbA).1 (fun e => hne e.symm)).trans hbA
    obtain ⟨q, cap, rfl⟩ : ∃ q cap, v' = .slice (some ⟨q, 0, none⟩) (n + 1) cap := by
      rcases k1.2 with ⟨_, h0⟩ | ⟨q, cap, cur, hv, _⟩
      · omega
      · exact ⟨q, cap, hv⟩
    have hrow : ∀ g, (Value.slice sa n sc).ownBlock = some g → ∃ c fz, (w.alloc (.cells cs 3)).heap[g]? = some (.cells c 3 fz) := by
      intro g hg
      rcases hOA.2 with ⟨hv, _⟩ | ⟨g', cap', cur, hv, _, hgg, _⟩
      · rw [hv] at hg; simp [Value.ownBlock] at hg
      · rw [hv] at hg
        simp [Value.ownBlock] at hg
        subst hg
        exact ⟨_, _, hgg⟩
    have hO' : Only (W0.heap.size + 2) w' (w'.setCell ⟨W0.heap.size + 2, 0, none⟩ (.slice (some ⟨q, 0, none⟩) (n + 1) cap)) := (Only.refl _ w').set 0 _
    refine h q cap w' (cell_of_row _ _ 0 _ _ _ hb') (by simp [World.frozen?, hb']) ⟨?_, ?_, ⟨_, heap_set w' _ 0 _ _ _ _ hb', ?_⟩, ?_⟩ ?_
    · refine bldF_grown (bldF_grown h1 k2 ?_ ?_) hO' (by simp) ?_
      · intro e
        obtain ⟨c, hc⟩ := bldF_shape h1
        obtain ⟨c', fz, hc'⟩ := hrow _ e
        rw [hc] at hc'
        simp at hc'
      · intro g hg
        obtain ⟨c, fz, hc⟩ := hrow g hg
        exact ⟨c, _, fz, hc, by decide⟩
      · intro j hj
        injection hj with hj
        subst hj
        exact ⟨_, _, _, hb', by decide⟩
    · rw [Below.heap_setCell _ _ _ _ (by intro e; simp at e)]
      refine (k2.block _ (Array.getElem?_eq_some_iff.1 h2).1 (fun e => ?_)).trans h2
      obtain ⟨c', fz, hc'⟩ := hrow _ e.symm
      rw [h2] at hc'
      simp at hc'
    · have := own_set (i := 0) (u := .slice (some ⟨q, 0, none⟩) (n + 1) cap) k1 hb' (by decide)
      unfold OpAt
      simpa [hn] using this
    · refine (h5.grown k2 h5.size (fun j hj => ?_)).setCell (by simp) _
      exact (World.ownsRow.lt hOA j hj).1
    · intro j o' hj e1 e2 e3 e4
      have hjl := (Array.getElem?_eq_some_iff.1 hj).1
      rw [Below.heap_setCell _ _ _ _ (fun e => e2 e), k2.block j (by rw [sz_alloc]; omega) ?_, heap_alloc_old _ _ hjl]
      · exact hj
      · intro e
        obtain ⟨c, fz, hc⟩ := hrow j e.symm
        rw [heap_alloc_old _ _ hjl, hj] at hc
        exact e4 c fz (Option.some.inj hc)
end Go.Proofs.YtokdclmikllepaaGreatDoor
