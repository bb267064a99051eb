import Derived.Test.YtokdclmikllepaaGreatDoorKt31
import Derived.Deep.RegionHeldLaw
import Derived.Deep.DeepCutAuto
namespace Go.Proofs.YtokdclmikllepaaGreatDoor
open Go.RowKit Go.Maps
set_option linter.unusedVariables false
set_option linter.unusedSimpArgs false

theorem infoElem : (Tryz.prog.info? 53).map (fun i => (i.zero, i.size, i.bytes)) = some (some (.agg #[.string ⟨#[]⟩, .slice none 0 0, .string ⟨#[]⟩, .int .i64 0, .int .i64 0]), 5, 72) := by kernel_rfl
theorem infoInt : (Tryz.prog.info? 3).map (fun i => (i.zero, i.size, i.bytes)) = some (some (.int .i64 0), 1, 8) := by kernel_rfl

theorem own_ge {w : World} {B n size : Nat} {e : TypeId} {v : Value} {xs : List Value} (h : w.ownsRow B e size v n xs) {j : Nat} (hj : v.ownBlock = some j) : B ≤ j := by
  rcases h.2 with ⟨rfl, _⟩ | ⟨q, cap, cur, rfl, hb, _⟩
  · cases hj
  · injection hj with hj; subst hj; exact hb
theorem BdAt.pushed {B0 : Nat} {W1 wA w4 : World} {g k bx g' cap : Nat} {E : List Sp.EE} {op : List Nat} {outv openv av : Value} {ps : List (Sp.EE × Value)} {y : Sp.EE} {news : List Value} {box : Array Value}
    (hpl : ps.length = k) (h1 : Bu wA g outv openv) (h2 : OpAt W1.heap.size wA openv op) (h4 : wA.ownsRow W1.heap.size 53 5 outv k (ps.flatMap fun x => eeCells x.1 x.2)) (h3 : ps.map Prod.fst = E) (h5 : ∀ x ∈ ps, EasAt B0 W1 x.2 x.1.attrs) (h5' : EasAt B0 W1 av y.attrs)
    (hyc : eeCells y av = news) (h6 : Below W1.heap.size W1 wA) (h7 : W1.heap.size ≤ g) (hown4 : w4.ownsRow W1.heap.size 53 5 (.slice (some ⟨g', 0, none⟩) (k + 1) cap) (k + 1) ((ps.flatMap fun x => eeCells x.1 x.2) ++ news)) (hgrow : wA.grownBy w4 outv.ownBlock)
    (hbox : wA.heap[bx]? = some (.cells box 40 (0, 0))) (hbl : bx < wA.heap.size) (hbg : bx ≠ g) :
    w4.cell? ⟨g, 0, none⟩ = some outv ∧ w4.frozen? ⟨g, 0, none⟩ = false ∧ w4.heap[bx]? = some (.cells box 40 (0, 0)) ∧ (∀ v, (w4.setCell ⟨g, 0, none⟩ v).heap[bx]? = some (.cells box 40 (0, 0))) ∧
      (BdAt B0 W1 g (E ++ [y], op) (w4.setCell ⟨g, 0, none⟩ (.slice (some ⟨g', 0, none⟩) (k + 1) cap)) ∧ (w4.setCell ⟨g, 0, none⟩ (.slice (some ⟨g', 0, none⟩) (k + 1) cap)).heap[bx]? = some (.cells box 40 (0, 0))) := by
  have hb4 : Bu w4 g outv openv := h1.grown hgrow (own_ne h4 h1 (by decide))
  have hx4 : w4.heap[bx]? = some (.cells box 40 (0, 0)) := (hgrow.block bx hbl (fun e => own_ne h4 hbox (by decide) e.symm)).trans hbox
  have hxs : ∀ v, (w4.setCell ⟨g, 0, none⟩ v).heap[bx]? = some (.cells box 40 (0, 0)) := fun v => (Below.heap_setCell _ _ _ _ hbg).trans hx4
  have hop4 : OpAt W1.heap.size w4 openv op := World.ownsRow.kept h2 hgrow (own_own_ne h2 h4 (by decide))
  refine ⟨hb4.c0, hb4.fz 0, hx4, hxs, ⟨_, openv, ps ++ [(y, av)], hb4.set0 _, own_set hop4 hb4 (by decide), ?_, ?_, ?_, ?_, h7⟩, hxs _⟩
  · rw [List.map_append, h3]; rfl
  · rw [List.flatMap_append, List.length_append, hpl]
    have := own_set (i := 0) (u := .slice (some ⟨g', 0, none⟩) (k + 1) cap) hown4 hb4 (by decide)
    rw [← hyc] at this
    simpa using this
  · intro x hx
    rcases List.mem_append.1 hx with hx | hx
    · exact h5 x hx
    · rw [List.mem_singleton.1 hx]; exact h5'
  · exact (h6.grown hgrow h6.size (fun j hj => own_ge h4 hj)).setCell h7 _

theorem BdAt.opened {B0 : Nat} {W1 wA w5 : World} {g n k g' cap : Nat} {E : List Sp.EE} {op : List Nat} {outv openv : Value} {ps : List (Sp.EE × Value)}
    (h1 : Bu wA g outv openv) (h2 : OpAt W1.heap.size wA openv op) (h4 : wA.ownsRow W1.heap.size 53 5 outv ps.length (ps.flatMap fun x => eeCells x.1 x.2)) (h3 : ps.map Prod.fst = E) (h5 : ∀ x ∈ ps, EasAt B0 W1 x.2 x.1.attrs)
    (h6 : Below W1.heap.size W1 wA) (h7 : W1.heap.size ≤ g) (hown5 : w5.ownsRow W1.heap.size 3 1 (.slice (some ⟨g', 0, none⟩) (n + 1) cap) (n + 1) ((op.map fun i : Nat => .int .i64 (i : Int)) ++ [.int .i64 (k : Int)])) (hn : op.length = n) (hgrow : wA.grownBy w5 openv.ownBlock) :
    w5.cell? ⟨g, 1, none⟩ = some openv ∧ w5.frozen? ⟨g, 1, none⟩ = false ∧ BdAt B0 W1 g (E, op ++ [k]) (w5.setCell ⟨g, 1, none⟩ (.slice (some ⟨g', 0, none⟩) (n + 1) cap)) := by
  have hb5 : Bu w5 g outv openv := h1.grown hgrow (own_ne h2 h1 (by decide))
  have hown5' := World.ownsRow.kept h4 hgrow (own_own_ne h4 h2 (by decide))
  refine ⟨hb5.c1, hb5.fz 1, outv, _, ps, hb5.set1 _, ?_, h3, own_set hown5' hb5 (by decide), h5, ?_, h7⟩
  · unfold OpAt
    have := own_set (i := 1) (u := .slice (some ⟨g', 0, none⟩) (n + 1) cap) hown5 hb5 (by decide)
    simpa [hn] using this
  · exact (h6.grown hgrow h6.size (fun j hj => own_ge h2 hj)).setCell h7 _

theorem BdAt.opened2 {B0 : Nat} {W1 wc wA w5 : World} {g n k g' cap oc : Nat} {oa : Option Addr} {E : List Sp.EE} {op : List Nat} {outv : Value} {ps : List (Sp.EE × Value)} (hgrow : wA.grownBy w5 (Value.slice oa n oc).ownBlock) (hn : op.length = n)
    (hown5 : w5.ownsRow W1.heap.size 3 1 (.slice (some ⟨g', 0, none⟩) (n + 1) cap) (n + 1) ((op.map fun i : Nat => .int .i64 (i : Int)) ++ [.int .i64 (k : Int)])) (hA : Below wc.heap.size wc wA)
    (h1 : Bu wc g outv (.slice oa op.length oc)) (h2 : OpAt W1.heap.size wc (.slice oa op.length oc) op) (h4 : wc.ownsRow W1.heap.size 53 5 outv ps.length (ps.flatMap fun x => eeCells x.1 x.2)) (h3 : ps.map Prod.fst = E) (h5 : ∀ x ∈ ps, EasAt B0 W1 x.2 x.1.attrs)
    (h6 : Below W1.heap.size W1 wc) (h7 : W1.heap.size ≤ g) :
    w5.cell? ⟨g, 1, none⟩ = some (.slice oa n oc) ∧ w5.frozen? ⟨g, 1, none⟩ = false ∧ BdAt B0 W1 g (E, op ++ [k]) (w5.setCell ⟨g, 1, none⟩ (.slice (some ⟨g', 0, none⟩) (n + 1) cap)) := by
  subst hn
  exact BdAt.opened (h1.below hA) (show OpAt _ _ _ _ from own_below h2 hA) (own_below h4 hA) h3 h5 (h6.trans (hA.mono h6.size)) h7 hown5 rfl hgrow

set_option maxHeartbeats 8000000 in
set_option maxRecDepth 100000 in
theorem start_ok (B0 : Nat) (W1 : World) (g : Nat) (b : Sp.Bd) (m : Sp.Mk) (av : Value) (w : World) (hb : BdAt B0 W1 g b w) (h2 : b.2.length ≤ 16) (hop : b.2 ≠ [] → b.1 ≠ [])
    (hav : EasAt B0 W1 av (m.attrs.map Sp.At.ea)) (hm : m.attrs.length ≤ 100000) (hnm : ∀ a ∈ m.attrs, a.name.length ≤ 100000) (b' : Sp.Bd) (hf : Sp.startB b m = .ok b') :
    Calls Tryz.prog 70 #[.pointer (some ⟨g, 0, none⟩), mkV m av] w (StepEnd B0 W1 g (.ok b')) := by
  obtain ⟨hs1, hs2, hs3, hs4, rfl⟩ := startB_ok hf
  obtain ⟨E, op⟩ := b
  obtain ⟨outv, openv, ps, hbu, hopa, hps, hown, hat, hbel, hg⟩ := hb
  simp only at h2 hop hopa hps hs1 hs2 hs3
  have hpl' : ps.length = E.length := by rw [← hps, List.length_map]
  rw [hpl'] at hown
  have HAVW := Lib.hid hav
  have HAR := Lib.hid (hav.toR.below hbel)
  obtain ⟨sx, sz, rfl⟩ := own_len hav
  unfold mkV
  obtain ⟨nm, hnm'⟩ : ∃ s : ByteArray, (⟨m.name.toArray⟩ : ByteArray) = s := ⟨_, rfl⟩
  obtain ⟨tx, htx⟩ : ∃ s : ByteArray, (⟨m.text.toArray⟩ : ByteArray) = s := ⟨_, rfl⟩
  obtain ⟨kd, hkd⟩ : ∃ s : Nat, m.kind = s := ⟨_, rfl⟩
  obtain ⟨pl, hpl⟩ : ∃ s : Nat, m.at_ = s := ⟨_, rfl⟩
  obtain ⟨em, hem⟩ : ∃ s : Bool, m.empty = s := ⟨_, rfl⟩
  obtain ⟨k, hk⟩ : ∃ k, E.length = k := ⟨_, rfl⟩
  obtain ⟨n, hn⟩ : ∃ n, op.length = n := ⟨_, rfl⟩
  obtain ⟨na, hna⟩ : ∃ n, (m.attrs.map Sp.At.ea).length = n := ⟨_, rfl⟩
  rw [hnm', htx, hkd, hpl, hem, hna]
  obtain ⟨u, hu⟩ : ∃ u, Sp.upOf op = u := ⟨_, rfl⟩
  have hfst : (((n : Int) == 0) = false) ∨ (((n : Int) == 0) = true ∧ decide (0 < k) = false) := by
    by_cases h0 : op = []
    · right
      have hE : E = [] := hs1 h0
      subst hE
      subst h0
      simp at hn hk
      subst hn hk
      exact ⟨rfl, rfl⟩
    · left
      have := List.length_pos_iff.2 h0
      rw [beq_eq_false_iff_ne]; omega
  have hlt : decide ((16 : Int) ≤ (n : Int)) = false := by simp; omega
  have hlt3 : decide ((4096 : Int) ≤ (k : Int)) = false := by simp; omega
  have hnm2 : ∀ a ∈ m.attrs.map Sp.At.ea, a.name.length ≤ 140737488351232 := fun a ha => by
    obtain ⟨a', ha', rfl⟩ := List.mem_map.1 ha
    have := hnm a' ha'
    show a'.name.length ≤ _
    omega
  have HNM2 := Lib.hid hnm2
  have HT := Lib.hid hs4
  have HAR2 : Hid (AtsR (w.alloc (.cells #[.int .i64 kd, .string nm, .slice sx na sz, .bool em, .string tx, .int .i64 pl] 40)) (.slice sx na sz) (m.attrs.map Sp.At.ea)) := by
    have := HAR.out.below ((Below.refl _ _).alloc (Nat.le_refl _) (.cells #[.int .i64 kd, .string nm, .slice sx na sz, .bool em, .string tx, .int .i64 pl] 40))
    rw [hna] at this; exact this
  have HNA2 : Hid ((m.attrs.map Sp.At.ea).length ≤ 100000) := by show _ ≤ _; rw [List.length_map]; exact hm
  rw [hna] at HAVW
  -- what goes in
  obtain ⟨y, hy⟩ : ∃ y : Sp.EE, (⟨m.name, m.attrs.map Sp.At.ea, [], u, pl⟩ : Sp.EE) = y := ⟨_, rfl⟩
  have hyc : eeCells y (.slice sx na sz) = [.string nm, .slice sx na sz, .string ⟨#[]⟩, .int .i64 u, .int .i64 pl] := by rw [← hy, ← hnm']; rfl
  have hya : y.attrs = m.attrs.map Sp.At.ea := by rw [← hy]
  simp only [hu]
  rw [hy, hk]
  obtain ⟨opN, hopN⟩ : ∃ o, (if em = true then op else op ++ [k]) = o := ⟨_, rfl⟩
  rw [hopN]
  have HON := Lib.hid hopN
  clear hopN
  have hbu1 := hbu.alloc (.cells #[.int .i64 kd, .string nm, .slice sx na sz, .bool em, .string tx, .int .i64 pl] 40)
  have hop1 : OpAt W1.heap.size (w.alloc (.cells #[.int .i64 kd, .string nm, .slice sx na sz, .bool em, .string tx, .int .i64 pl] 40)) openv op := hopa.alloc (.cells #[.int .i64 kd, .string nm, .slice sx na sz, .bool em, .string tx, .int .i64 pl] 40)
  have hown1 := hown.alloc (.cells #[.int .i64 kd, .string nm, .slice sx na sz, .bool em, .string tx, .int .i64 pl] 40)
  have HBU1 := Lib.hid hbu1
  have HOP1 := Lib.hid hop1
  have HOWN1 := Lib.hid hown1
  have HBL := Lib.hid hbel
  have HPS := Lib.hid hps
  have HAT := Lib.hid hat
  have HPL := Lib.hid (hpl'.trans hk)
  have HAVY : Hid (EasAt B0 W1 (.slice sx na sz) y.attrs) := by show EasAt _ _ _ _; rw [hya]; exact HAVW.out
  have HYC := Lib.hid hyc
  have HYA := Lib.hid hya
  have HU := Lib.hid hu
  have HNL := Lib.hid hn
  have hn15 : n ≤ 15 := by omega
  have hk95 : k ≤ 4095 := by omega
  obtain ⟨i0, hi, hz0, hz1, hz2⟩ := info_parts infoElem
  obtain ⟨i1, hi1, hw0, hw1, hw2⟩ := info_parts infoInt
  obtain ⟨ea, ec, rfl⟩ := own_len hown
  obtain ⟨oa, oc, rfl⟩ := own_len hopa
  have c0 := hbu1.c0
  have c1 := hbu1.c1
  rw [hk] at c0 HBU1 HOWN1
  rw [hn] at c1 HBU1 HOP1
  clear hs1 hs2 hs3 hs4 hf hop hnm' htx hkd hpl hem hna hown hat hbel hopa hps hpl' hk hn hav hnm hm hnm2 hy hyc hya hu hbu1 hop1 hown1 hbu h2 HAR
  go_enter Tryz.func70, Tryz.ntmps70
  go_upto_region 1 with fail
  go_cut [7] (fun s7 wx => s7 = .bool false ∧ wx = w.alloc (.cells #[.int .i64 kd, .string nm, .slice sx na sz, .bool em, .string tx, .int .i64 pl] 40))
  case first =>
    rcases hfst with hz | ⟨hz, hz2'⟩
    all_goals
      go_wp2_with fail
      go_meet
      exact ⟨rfl, rfl⟩
  case rest =>
  obtain ⟨rfl, rfl⟩ := hcut
  clear hfst
  go_wp2_with fail
  refine (twice_is _ _ (m.attrs.map Sp.At.ea) HAR2.out HNA2.out HNM2.out none HT.out (-1) rfl).mono ?_
  rintro e w2 ⟨rfl, hb2⟩
  have hbox : w2.heap[w.heap.size]? = some (.cells #[.int .i64 kd, .string nm, .slice sx na sz, .bool em, .string tx, .int .i64 pl] 40 (0, 0)) := (hb2.block _ (by simp)).trans (heap_alloc_new w _)
  have hbl2 : w.heap.size < w2.heap.size := by have := hb2.size; rw [sz_alloc] at this; omega
  have HBOX := Lib.hid hbox
  have HNG : Hid (w.heap.size ≠ g) := fun e => by
    have h := HBU1.out.below hb2
    rw [← e] at h
    have h' : w2.heap[w.heap.size]? = _ := h
    rw [hbox] at h'
    injection h' with h'
    injection h' with _ h'
    exact absurd h' (by decide)
  have c0a : ∀ n o, ((w2.drewN n).alloc o).cell? ⟨g, 0, none⟩ = some (.slice ea k ec) := fun n o => (((HBU1.out.below hb2).drewN n).alloc o).c0
  have cb : ∀ j v, (#[.int .i64 kd, .string nm, .slice sx na sz, .bool em, .string tx, .int .i64 pl] : Array Value)[j]? = some v → w2.cell? ⟨w.heap.size, j, none⟩ = some v := fun j v hj => (cell_of_row _ _ j _ _ _ hbox).trans hj
  have d1 := cb 1 _ rfl
  have d2 := cb 2 _ rfl
  have d3 := cb 3 _ rfl
  have d5 := cb 5 _ rfl
  have hW12 : W1.heap.size ≤ w2.heap.size := by have h1 := hb2.size; have h2 := HBL.out.size; rw [sz_alloc] at h1; omega
  have HB2 := Lib.hid hb2
  have HBU2 := Lib.hid (HBU1.out.below hb2)
  have HOP2 := Lib.hid (show OpAt W1.heap.size w2 (.slice oa n oc) op from own_below HOP1.out hb2)
  have HOWN2 := Lib.hid (own_below HOWN1.out hb2)
  clear cb hb2 c0 c1 hbox
  have c0 := HBU2.out.c0
  have c1 := HBU2.out.c1
  have HBA := Lib.hid (fun (n : Nat) (o : Obj) => (below_drewN (Below.refl w2.heap.size w2) n).alloc (Nat.le_refl _) o)
  have HBOXA : Hid (∀ n o, ((w2.drewN n).alloc o).heap[w.heap.size]? = some (.cells #[.int .i64 kd, .string nm, .slice sx na sz, .bool em, .string tx, .int .i64 pl] 40 (0, 0))) := fun n o => (heap_alloc_old (w2.drewN n) o hbl2).trans HBOX.out
  have SBOX : Hid (∀ W : World, W.heap[w.heap.size]? = some (.cells #[.int .i64 kd, .string nm, .slice sx na sz, .bool em, .string tx, .int .i64 pl] 40 (0, 0)) → W.cell? ⟨w.heap.size, 1, none⟩ = some (.string nm) ∧ W.cell? ⟨w.heap.size, 2, none⟩ = some (.slice sx na sz) ∧ W.cell? ⟨w.heap.size, 5, none⟩ = some (.int .i64 pl)) := fun W h =>
    ⟨cell_of_row _ _ 1 _ _ _ h, cell_of_row _ _ 2 _ _ _ h, cell_of_row _ _ 5 _ _ _ h⟩
  have HBL2 : Hid (Below W1.heap.size W1 w2) := (HBL.out.alloc HBL.out.size _).trans (HB2.out.mono (by rw [sz_alloc]; have := HBL.out.size; omega))
  go_upto_region 10 with fail
  go_cut [] (fun wx => Hid (BdAt B0 W1 g (E ++ [y], op) wx ∧ wx.heap[w.heap.size]? = some (.cells #[.int .i64 kd, .string nm, .slice sx na sz, .bool em, .string tx, .int .i64 pl] 40 (0, 0))))
  case first =>
    refine wp_region_held_drew (S := fun w' => w'.cell? ⟨w.heap.size, 1, none⟩ = some (.string nm) ∧ w'.cell? ⟨w.heap.size, 2, none⟩ = some (.slice sx na sz) ∧ w'.cell? ⟨w.heap.size, 5, none⟩ = some (.int .i64 pl)) (by kernel_rfl) ?_ (fun hHeld => ?_)
    · exact ⟨d1, d2, d5⟩
    refine wpAnyH_take (i := 0) (oi := { dst := some 53, op := Op.move (Operand.tmp 0), type := 162, pos := "tree.go:51", after := #[], guard := none }) (v := ?v1) rfl (by kernel_rfl) (by kernel_rfl) (by kernel_rfl) (fun _ _ _ h => h) (Or.inl ⟨by rfl, ?y1⟩) (by assumption) ?r1
    case y1 => (intro w hSw; (try dsimp only at hSw); go_simp; (try with_reducible rfl))
    try simp only [Act.put, List.setIfInBounds_toArray, List.set_cons_zero, List.set_cons_succ]
    refine wpAnyH_take (i := 1) (oi := { dst := some 54, op := Op.move (Operand.tmp 0), type := 162, pos := "tree.go:51", after := #[], guard := none }) (v := ?v2) rfl (by kernel_rfl) (by kernel_rfl) (by kernel_rfl) (fun _ _ _ h => h) (Or.inl ⟨by rfl, ?y2⟩) (by assumption) ?r2
    case y2 => (intro w hSw; (try dsimp only at hSw); go_simp; (try with_reducible rfl))
    try simp only [Act.put, List.setIfInBounds_toArray, List.set_cons_zero, List.set_cons_succ]
    refine wpAnyH_take (i := 2) (oi := { dst := some 55, op := Op.nilCheck (Operand.tmp 54), type := 0, pos := "tree.go:51", after := #[{ on := 1, ground := Ground.data }], guard := none }) (v := ?v3) rfl (by kernel_rfl) (by kernel_rfl) (by kernel_rfl) (fun _ _ _ h => h) (Or.inl ⟨by rfl, ?y3⟩) (by assumption) ?r3
    case y3 => (intro w hSw; (try dsimp only at hSw); go_simp; (try with_reducible rfl))
    try simp only [Act.put, List.setIfInBounds_toArray, List.set_cons_zero, List.set_cons_succ]
    refine wpAnyH_take (i := 3) (oi := { dst := some 56, op := Op.fieldAddr 108 (Operand.tmp 55) 0, type := 0, pos := "tree.go:51", after := #[{ on := 2, ground := Ground.data }], guard := none }) (v := ?v4) rfl (by kernel_rfl) (by kernel_rfl) (by kernel_rfl) (fun _ _ _ h => h) (Or.inl ⟨by rfl, ?y4⟩) (by assumption) ?r4
    case y4 => (intro w hSw; (try dsimp only at hSw); go_simp; (try with_reducible rfl))
    try simp only [Act.put, List.setIfInBounds_toArray, List.set_cons_zero, List.set_cons_succ]
    refine wpAnyH_take (i := 5) (oi := { dst := some 58, op := Op.fieldAddr 40 (Operand.tmp 3) 1, type := 0, pos := "tree.go:51", after := #[], guard := none }) (v := ?v5) rfl (by kernel_rfl) (by kernel_rfl) (by kernel_rfl) (fun _ _ _ h => h) (Or.inl ⟨by rfl, ?y5⟩) (by assumption) ?r5
    case y5 => (intro w hSw; (try dsimp only at hSw); go_simp; (try with_reducible rfl))
    try simp only [Act.put, List.setIfInBounds_toArray, List.set_cons_zero, List.set_cons_succ]
    refine wpAnyH_take (i := 6) (oi := { dst := some 59, op := Op.load 9 (Operand.tmp 58), type := 9, pos := "tree.go:51", after := #[{ on := 5, ground := Ground.data }], guard := none }) (v := ?v6) rfl (by kernel_rfl) (by kernel_rfl) (by kernel_rfl) (fun _ _ _ h => h) (Or.inl ⟨by rfl, ?y6⟩) (by assumption) ?r6
    case y6 => (intro w hSw; (try dsimp only at hSw); go_simp; (try with_reducible rfl))
    try simp only [Act.put, List.setIfInBounds_toArray, List.set_cons_zero, List.set_cons_succ]
    refine wpAnyH_take (i := 7) (oi := { dst := some 60, op := Op.fieldAddr 40 (Operand.tmp 3) 2, type := 0, pos := "tree.go:51", after := #[], guard := none }) (v := ?v7) rfl (by kernel_rfl) (by kernel_rfl) (by kernel_rfl) (fun _ _ _ h => h) (Or.inl ⟨by rfl, ?y7⟩) (by assumption) ?r7
    case y7 => (intro w hSw; (try dsimp only at hSw); go_simp; (try with_reducible rfl))
    try simp only [Act.put, List.setIfInBounds_toArray, List.set_cons_zero, List.set_cons_succ]
    refine wpAnyH_take (i := 8) (oi := { dst := some 61, op := Op.load 38 (Operand.tmp 60), type := 38, pos := "tree.go:51", after := #[{ on := 7, ground := Ground.data }], guard := none }) (v := ?v8) rfl (by kernel_rfl) (by kernel_rfl) (by kernel_rfl) (fun _ _ _ h => h) (Or.inl ⟨by rfl, ?y8⟩) (by assumption) ?r8
    case y8 => (intro w hSw; (try dsimp only at hSw); go_simp; (try with_reducible rfl))
    try simp only [Act.put, List.setIfInBounds_toArray, List.set_cons_zero, List.set_cons_succ]
    refine wpAnyH_take (i := 9) (oi := { dst := some 62, op := Op.move (Operand.tmp 0), type := 162, pos := "tree.go:51", after := #[], guard := none }) (v := ?v9) rfl (by kernel_rfl) (by kernel_rfl) (by kernel_rfl) (fun _ _ _ h => h) (Or.inl ⟨by rfl, ?y9⟩) (by assumption) ?r9
    case y9 => (intro w hSw; (try dsimp only at hSw); go_simp; (try with_reducible rfl))
    try simp only [Act.put, List.setIfInBounds_toArray, List.set_cons_zero, List.set_cons_succ]
    refine wpAnyH_take (i := 11) (oi := { dst := some 64, op := Op.fieldAddr 40 (Operand.tmp 3) 5, type := 0, pos := "tree.go:51", after := #[], guard := none }) (v := ?v10) rfl (by kernel_rfl) (by kernel_rfl) (by kernel_rfl) (fun _ _ _ h => h) (Or.inl ⟨by rfl, ?y10⟩) (by assumption) ?r10
    case y10 => (intro w hSw; (try dsimp only at hSw); go_simp; (try with_reducible rfl))
    try simp only [Act.put, List.setIfInBounds_toArray, List.set_cons_zero, List.set_cons_succ]
    refine wpAnyH_take (i := 12) (oi := { dst := some 65, op := Op.load 3 (Operand.tmp 64), type := 3, pos := "tree.go:51", after := #[{ on := 11, ground := Ground.data }], guard := none }) (v := ?v11) rfl (by kernel_rfl) (by kernel_rfl) (by kernel_rfl) (fun _ _ _ h => h) (Or.inl ⟨by rfl, ?y11⟩) (by assumption) ?r11
    case y11 => (intro w hSw; (try dsimp only at hSw); go_simp; (try with_reducible rfl))
    try simp only [Act.put, List.setIfInBounds_toArray, List.set_cons_zero, List.set_cons_succ]
    refine wpAnyH_ready (rs := [4, 10]) (by kernel_rfl) (by simp) ?_
    refine AllReadyH.cons rfl (fun K hK => ?s12) ?m12
    case s12 =>
      go_simp
      refine hK.out _ _ ?S12 (fun hHeld => ?c12)
      case S12 => exact SBOX.out _ HBOX.out
      case c12 =>
        clear hK K
        refine wpAnyH_ready (rs := [10]) (by kernel_rfl) (by simp) ?_
        refine AllReadyH.cons rfl (fun K hK => ?s13) ?m13
        case s13 =>
          go_simp
          go_wp2_with ((go_at_call 73; go_must (refine (up_calls W1.heap.size g (.slice ea k ec) (.slice oa n oc) op _ ?_ ?_ ?_).mono ?_); (· go_must (exact HBU2.out)); (· go_must (exact HOP2.out)); (· rw [HNL.out]; omega); go_must (rw [HU.out]); go_must (rintro e w3 ⟨rfl, q3, rfl⟩)))
          refine hK.out _ _ ?S13 (fun hHeld => ?c13)
          case S13 => exact SBOX.out _ HBOX.out
          case c13 =>
            clear hK K
            refine wpAnyH_take (i := 13) (oi := { dst := some 66, op := Op.build 53 #[(0, Operand.tmp 59), (1, Operand.tmp 61), (3, Operand.tmp 63), (4, Operand.tmp 65)], type := 53, pos := "tree.go:51", after := #[{ on := 6, ground := Ground.data }, { on := 8, ground := Ground.data }, { on := 10, ground := Ground.data }, { on := 12, ground := Ground.data }], guard := none }) (v := ?v14) rfl (by kernel_rfl) (by kernel_rfl) (by kernel_rfl) (fun _ _ _ h => h) (Or.inl ⟨by rfl, ?y14⟩) (by assumption) ?r14
            case y14 => (intro w hSw; (try dsimp only at hSw); go_simp; (try with_reducible rfl))
            try simp only [Act.put, List.setIfInBounds_toArray, List.set_cons_zero, List.set_cons_succ]
            refine wpAnyH_ready (rs := [14]) (by kernel_rfl) (by simp) ?_
            refine AllReadyH.cons rfl (fun K hK => ?s15) ?m15
            case s15 =>
              go_simp
              refine hK.out _ _ ?S15 (fun hHeld => ?c15)
              case S15 => exact SBOX.out _ (HBOXA.out _ _)
              case c15 =>
                clear hK K
                refine wpAnyH_ready (rs := [15]) (by kernel_rfl) (by simp) ?_
                refine AllReadyH.cons rfl (fun K hK => ?s16) ?m16
                case s16 =>
                  refine step_append_lies _ rfl (.tmp 57) (.tmp 67) 45 rfl W1.heap.size 53 i0 _ 5 72 Tryz.underlying45 hi hz0 hz1 hz2 rfl (by decide) (.slice ea k ec) k (ps.flatMap fun x => eeCells x.1 x.2) (by simp [Act.eval, Act.put]) ?_ ⟨w2.heap.size, 0, none⟩ 1 1 [.string nm, .slice sx na sz, .string ⟨#[]⟩, .int .i64 u, .int .i64 pl] (by simp [Act.eval, Act.put]) rfl ?_ ?_ ?_ ?_ ?_ ?_ _ rfl ?_
                  · exact own_below HOWN2.out ((below_drewN (Below.refl _ _) _).alloc (Nat.le_refl _) _)
                  · exact World.news_of_block (cs := #[.string nm, .slice sx na sz, .string ⟨#[]⟩, .int .i64 u, .int .i64 pl]) (heap_alloc_new (w2.drewN _) _)
                  · simp [Value.oneCell']
                  · omega
                  · unfold maxLen; omega
                  · omega
                  · simp; omega
                  intro g' cap w4 hown4 hgrow hat4 hlt4
                  have HP4 := Lib.hid (BdAt.pushed (y := y) (av := .slice sx na sz) HPL.out (HBU2.out.below (HBA.out _ _)) (show OpAt _ _ _ _ from own_below HOP2.out (HBA.out _ _)) (own_below HOWN2.out (HBA.out _ _)) HPS.out HAT.out HAVY.out HYC.out (HBL2.out.trans ((HBA.out _ _).mono hW12)) hg hown4 hgrow (HBOXA.out _ _) (Nat.lt_of_lt_of_le hbl2 (HBA.out _ _).size) HNG.out)
                  have k0 := HP4.out.1
                  have kf0 := HP4.out.2.1
                  clear hown4 hgrow hat4 hlt4
                  refine hK.out _ _ ?S16 (fun hHeld => ?c16)
                  case S16 => exact SBOX.out _ HP4.out.2.2.1
                  case c16 =>
                    clear hK K
                    refine wpAnyH_take (i := 16) (oi := { dst := some 69, op := Op.nilCheck (Operand.tmp 53), type := 0, pos := "tree.go:51", after := #[{ on := 0, ground := Ground.data }, { on := 0, ground := Ground.phase }, { on := 1, ground := Ground.phase }, { on := 2, ground := Ground.phase }, { on := 3, ground := Ground.phase }, { on := 4, ground := Ground.phase }, { on := 5, ground := Ground.phase }, { on := 6, ground := Ground.phase }, { on := 7, ground := Ground.phase }, { on := 8, ground := Ground.phase }, { on := 9, ground := Ground.phase }, { on := 10, ground := Ground.phase }, { on := 11, ground := Ground.phase }, { on := 12, ground := Ground.phase }, { on := 13, ground := Ground.phase }, { on := 14, ground := Ground.phase }, { on := 15, ground := Ground.phase }], guard := none }) (v := ?v17) rfl (by kernel_rfl) (by kernel_rfl) (by kernel_rfl) (fun _ _ _ h => h) (Or.inl ⟨by rfl, ?y17⟩) (by assumption) ?r17
                    case y17 => (intro w hSw; (try dsimp only at hSw); go_simp; (try with_reducible rfl))
                    try simp only [Act.put, List.setIfInBounds_toArray, List.set_cons_zero, List.set_cons_succ]
                    refine wpAnyH_take (i := 17) (oi := { dst := some 70, op := Op.fieldAddr 108 (Operand.tmp 69) 0, type := 0, pos := "tree.go:51", after := #[{ on := 16, ground := Ground.data }, { on := 0, ground := Ground.phase }, { on := 1, ground := Ground.phase }, { on := 2, ground := Ground.phase }, { on := 3, ground := Ground.phase }, { on := 4, ground := Ground.phase }, { on := 5, ground := Ground.phase }, { on := 6, ground := Ground.phase }, { on := 7, ground := Ground.phase }, { on := 8, ground := Ground.phase }, { on := 9, ground := Ground.phase }, { on := 10, ground := Ground.phase }, { on := 11, ground := Ground.phase }, { on := 12, ground := Ground.phase }, { on := 13, ground := Ground.phase }, { on := 14, ground := Ground.phase }, { on := 15, ground := Ground.phase }], guard := none }) (v := ?v18) rfl (by kernel_rfl) (by kernel_rfl) (by kernel_rfl) (fun _ _ _ h => h) (Or.inl ⟨by rfl, ?y18⟩) (by assumption) ?r18
                    case y18 => (intro w hSw; (try dsimp only at hSw); go_simp; (try with_reducible rfl))
                    try simp only [Act.put, List.setIfInBounds_toArray, List.set_cons_zero, List.set_cons_succ]
                    refine wpAnyH_ready (rs := [18]) (by kernel_rfl) (by simp) ?_
                    refine AllReadyH.cons rfl (fun K hK => ?s19) ?m19
                    case s19 =>
                      go_simp
                      refine hK.out _ _ ?S19 (fun hHeld => ?c19)
                      case S19 => exact SBOX.out _ (HP4.out.2.2.2.1 _)
                      case c19 =>
                        clear hK K
                        refine wpAnyH_done (by kernel_rfl) ?_ _
                        go_wp2_with fail
                        go_meet
                        exact Lib.hid HP4.out.2.2.2.2
                    exact AllReadyH.nil
                exact AllReadyH.nil
            exact AllReadyH.nil
        exact AllReadyH.nil
    refine AllReadyH.cons rfl (fun K hK => ?s20) ?m20
    case s20 =>
      go_simp
      go_wp2_with ((go_at_call 73; go_must (refine (up_calls W1.heap.size g (.slice ea k ec) (.slice oa n oc) op _ ?_ ?_ ?_).mono ?_); (· go_must (exact HBU2.out)); (· go_must (exact HOP2.out)); (· rw [HNL.out]; omega); go_must (rw [HU.out]); go_must (rintro e w3 ⟨rfl, q3, rfl⟩)))
      refine hK.out _ _ ?S20 (fun hHeld => ?c20)
      case S20 => exact SBOX.out _ HBOX.out
      case c20 =>
        clear hK K
        refine wpAnyH_take (i := 13) (oi := { dst := some 66, op := Op.build 53 #[(0, Operand.tmp 59), (1, Operand.tmp 61), (3, Operand.tmp 63), (4, Operand.tmp 65)], type := 53, pos := "tree.go:51", after := #[{ on := 6, ground := Ground.data }, { on := 8, ground := Ground.data }, { on := 10, ground := Ground.data }, { on := 12, ground := Ground.data }], guard := none }) (v := ?v21) rfl (by kernel_rfl) (by kernel_rfl) (by kernel_rfl) (fun _ _ _ h => h) (Or.inl ⟨by rfl, ?y21⟩) (by assumption) ?r21
        case y21 => (intro w hSw; (try dsimp only at hSw); go_simp; (try with_reducible rfl))
        try simp only [Act.put, List.setIfInBounds_toArray, List.set_cons_zero, List.set_cons_succ]
        refine wpAnyH_ready (rs := [4, 14]) (by kernel_rfl) (by simp) ?_
        refine AllReadyH.cons rfl (fun K hK => ?s22) ?m22
        case s22 =>
          go_simp
          refine hK.out _ _ ?S22 (fun hHeld => ?c22)
          case S22 => exact SBOX.out _ HBOX.out
          case c22 =>
            clear hK K
            refine wpAnyH_ready (rs := [14]) (by kernel_rfl) (by simp) ?_
            refine AllReadyH.cons rfl (fun K hK => ?s23) ?m23
            case s23 =>
              go_simp
              refine hK.out _ _ ?S23 (fun hHeld => ?c23)
              case S23 => exact SBOX.out _ (HBOXA.out _ _)
              case c23 =>
                clear hK K
                refine wpAnyH_ready (rs := [15]) (by kernel_rfl) (by simp) ?_
                refine AllReadyH.cons rfl (fun K hK => ?s24) ?m24
                case s24 =>
                  refine step_append_lies _ rfl (.tmp 57) (.tmp 67) 45 rfl W1.heap.size 53 i0 _ 5 72 Tryz.underlying45 hi hz0 hz1 hz2 rfl (by decide) (.slice ea k ec) k (ps.flatMap fun x => eeCells x.1 x.2) (by simp [Act.eval, Act.put]) ?_ ⟨w2.heap.size, 0, none⟩ 1 1 [.string nm, .slice sx na sz, .string ⟨#[]⟩, .int .i64 u, .int .i64 pl] (by simp [Act.eval, Act.put]) rfl ?_ ?_ ?_ ?_ ?_ ?_ _ rfl ?_
                  · exact own_below HOWN2.out ((below_drewN (Below.refl _ _) _).alloc (Nat.le_refl _) _)
                  · exact World.news_of_block (cs := #[.string nm, .slice sx na sz, .string ⟨#[]⟩, .int .i64 u, .int .i64 pl]) (heap_alloc_new (w2.drewN _) _)
                  · simp [Value.oneCell']
                  · omega
                  · unfold maxLen; omega
                  · omega
                  · simp; omega
                  intro g' cap w4 hown4 hgrow hat4 hlt4
                  have HP4 := Lib.hid (BdAt.pushed (y := y) (av := .slice sx na sz) HPL.out (HBU2.out.below (HBA.out _ _)) (show OpAt _ _ _ _ from own_below HOP2.out (HBA.out _ _)) (own_below HOWN2.out (HBA.out _ _)) HPS.out HAT.out HAVY.out HYC.out (HBL2.out.trans ((HBA.out _ _).mono hW12)) hg hown4 hgrow (HBOXA.out _ _) (Nat.lt_of_lt_of_le hbl2 (HBA.out _ _).size) HNG.out)
                  have k0 := HP4.out.1
                  have kf0 := HP4.out.2.1
                  clear hown4 hgrow hat4 hlt4
                  refine hK.out _ _ ?S24 (fun hHeld => ?c24)
                  case S24 => exact SBOX.out _ HP4.out.2.2.1
                  case c24 =>
                    clear hK K
                    refine wpAnyH_take (i := 16) (oi := { dst := some 69, op := Op.nilCheck (Operand.tmp 53), type := 0, pos := "tree.go:51", after := #[{ on := 0, ground := Ground.data }, { on := 0, ground := Ground.phase }, { on := 1, ground := Ground.phase }, { on := 2, ground := Ground.phase }, { on := 3, ground := Ground.phase }, { on := 4, ground := Ground.phase }, { on := 5, ground := Ground.phase }, { on := 6, ground := Ground.phase }, { on := 7, ground := Ground.phase }, { on := 8, ground := Ground.phase }, { on := 9, ground := Ground.phase }, { on := 10, ground := Ground.phase }, { on := 11, ground := Ground.phase }, { on := 12, ground := Ground.phase }, { on := 13, ground := Ground.phase }, { on := 14, ground := Ground.phase }, { on := 15, ground := Ground.phase }], guard := none }) (v := ?v25) rfl (by kernel_rfl) (by kernel_rfl) (by kernel_rfl) (fun _ _ _ h => h) (Or.inl ⟨by rfl, ?y25⟩) (by assumption) ?r25
                    case y25 => (intro w hSw; (try dsimp only at hSw); go_simp; (try with_reducible rfl))
                    try simp only [Act.put, List.setIfInBounds_toArray, List.set_cons_zero, List.set_cons_succ]
                    refine wpAnyH_take (i := 17) (oi := { dst := some 70, op := Op.fieldAddr 108 (Operand.tmp 69) 0, type := 0, pos := "tree.go:51", after := #[{ on := 16, ground := Ground.data }, { on := 0, ground := Ground.phase }, { on := 1, ground := Ground.phase }, { on := 2, ground := Ground.phase }, { on := 3, ground := Ground.phase }, { on := 4, ground := Ground.phase }, { on := 5, ground := Ground.phase }, { on := 6, ground := Ground.phase }, { on := 7, ground := Ground.phase }, { on := 8, ground := Ground.phase }, { on := 9, ground := Ground.phase }, { on := 10, ground := Ground.phase }, { on := 11, ground := Ground.phase }, { on := 12, ground := Ground.phase }, { on := 13, ground := Ground.phase }, { on := 14, ground := Ground.phase }, { on := 15, ground := Ground.phase }], guard := none }) (v := ?v26) rfl (by kernel_rfl) (by kernel_rfl) (by kernel_rfl) (fun _ _ _ h => h) (Or.inl ⟨by rfl, ?y26⟩) (by assumption) ?r26
                    case y26 => (intro w hSw; (try dsimp only at hSw); go_simp; (try with_reducible rfl))
                    try simp only [Act.put, List.setIfInBounds_toArray, List.set_cons_zero, List.set_cons_succ]
                    refine wpAnyH_ready (rs := [18]) (by kernel_rfl) (by simp) ?_
                    refine AllReadyH.cons rfl (fun K hK => ?s27) ?m27
                    case s27 =>
                      go_simp
                      refine hK.out _ _ ?S27 (fun hHeld => ?c27)
                      case S27 => exact SBOX.out _ (HP4.out.2.2.2.1 _)
                      case c27 =>
                        clear hK K
                        refine wpAnyH_done (by kernel_rfl) ?_ _
                        go_wp2_with fail
                        go_meet
                        exact Lib.hid HP4.out.2.2.2.2
                    exact AllReadyH.nil
                exact AllReadyH.nil
            exact AllReadyH.nil
        refine AllReadyH.cons rfl (fun K hK => ?s28) ?m28
        case s28 =>
          go_simp
          refine hK.out _ _ ?S28 (fun hHeld => ?c28)
          case S28 => exact SBOX.out _ (HBOXA.out _ _)
          case c28 =>
            clear hK K
            refine wpAnyH_ready (rs := [4]) (by kernel_rfl) (by simp) ?_
            refine AllReadyH.cons rfl (fun K hK => ?s29) ?m29
            case s29 =>
              go_simp
              refine hK.out _ _ ?S29 (fun hHeld => ?c29)
              case S29 => exact SBOX.out _ (HBOXA.out _ _)
              case c29 =>
                clear hK K
                refine wpAnyH_ready (rs := [15]) (by kernel_rfl) (by simp) ?_
                refine AllReadyH.cons rfl (fun K hK => ?s30) ?m30
                case s30 =>
                  refine step_append_lies _ rfl (.tmp 57) (.tmp 67) 45 rfl W1.heap.size 53 i0 _ 5 72 Tryz.underlying45 hi hz0 hz1 hz2 rfl (by decide) (.slice ea k ec) k (ps.flatMap fun x => eeCells x.1 x.2) (by simp [Act.eval, Act.put]) ?_ ⟨w2.heap.size, 0, none⟩ 1 1 [.string nm, .slice sx na sz, .string ⟨#[]⟩, .int .i64 u, .int .i64 pl] (by simp [Act.eval, Act.put]) rfl ?_ ?_ ?_ ?_ ?_ ?_ _ rfl ?_
                  · exact own_below HOWN2.out ((below_drewN (Below.refl _ _) _).alloc (Nat.le_refl _) _)
                  · exact World.news_of_block (cs := #[.string nm, .slice sx na sz, .string ⟨#[]⟩, .int .i64 u, .int .i64 pl]) (heap_alloc_new (w2.drewN _) _)
                  · simp [Value.oneCell']
                  · omega
                  · unfold maxLen; omega
                  · omega
                  · simp; omega
                  intro g' cap w4 hown4 hgrow hat4 hlt4
                  have HP4 := Lib.hid (BdAt.pushed (y := y) (av := .slice sx na sz) HPL.out (HBU2.out.below (HBA.out _ _)) (show OpAt _ _ _ _ from own_below HOP2.out (HBA.out _ _)) (own_below HOWN2.out (HBA.out _ _)) HPS.out HAT.out HAVY.out HYC.out (HBL2.out.trans ((HBA.out _ _).mono hW12)) hg hown4 hgrow (HBOXA.out _ _) (Nat.lt_of_lt_of_le hbl2 (HBA.out _ _).size) HNG.out)
                  have k0 := HP4.out.1
                  have kf0 := HP4.out.2.1
                  clear hown4 hgrow hat4 hlt4
                  refine hK.out _ _ ?S30 (fun hHeld => ?c30)
                  case S30 => exact SBOX.out _ HP4.out.2.2.1
                  case c30 =>
                    clear hK K
                    refine wpAnyH_take (i := 16) (oi := { dst := some 69, op := Op.nilCheck (Operand.tmp 53), type := 0, pos := "tree.go:51", after := #[{ on := 0, ground := Ground.data }, { on := 0, ground := Ground.phase }, { on := 1, ground := Ground.phase }, { on := 2, ground := Ground.phase }, { on := 3, ground := Ground.phase }, { on := 4, ground := Ground.phase }, { on := 5, ground := Ground.phase }, { on := 6, ground := Ground.phase }, { on := 7, ground := Ground.phase }, { on := 8, ground := Ground.phase }, { on := 9, ground := Ground.phase }, { on := 10, ground := Ground.phase }, { on := 11, ground := Ground.phase }, { on := 12, ground := Ground.phase }, { on := 13, ground := Ground.phase }, { on := 14, ground := Ground.phase }, { on := 15, ground := Ground.phase }], guard := none }) (v := ?v31) rfl (by kernel_rfl) (by kernel_rfl) (by kernel_rfl) (fun _ _ _ h => h) (Or.inl ⟨by rfl, ?y31⟩) (by assumption) ?r31
                    case y31 => (intro w hSw; (try dsimp only at hSw); go_simp; (try with_reducible rfl))
                    try simp only [Act.put, List.setIfInBounds_toArray, List.set_cons_zero, List.set_cons_succ]
                    refine wpAnyH_take (i := 17) (oi := { dst := some 70, op := Op.fieldAddr 108 (Operand.tmp 69) 0, type := 0, pos := "tree.go:51", after := #[{ on := 16, ground := Ground.data }, { on := 0, ground := Ground.phase }, { on := 1, ground := Ground.phase }, { on := 2, ground := Ground.phase }, { on := 3, ground := Ground.phase }, { on := 4, ground := Ground.phase }, { on := 5, ground := Ground.phase }, { on := 6, ground := Ground.phase }, { on := 7, ground := Ground.phase }, { on := 8, ground := Ground.phase }, { on := 9, ground := Ground.phase }, { on := 10, ground := Ground.phase }, { on := 11, ground := Ground.phase }, { on := 12, ground := Ground.phase }, { on := 13, ground := Ground.phase }, { on := 14, ground := Ground.phase }, { on := 15, ground := Ground.phase }], guard := none }) (v := ?v32) rfl (by kernel_rfl) (by kernel_rfl) (by kernel_rfl) (fun _ _ _ h => h) (Or.inl ⟨by rfl, ?y32⟩) (by assumption) ?r32
                    case y32 => (intro w hSw; (try dsimp only at hSw); go_simp; (try with_reducible rfl))
                    try simp only [Act.put, List.setIfInBounds_toArray, List.set_cons_zero, List.set_cons_succ]
                    refine wpAnyH_ready (rs := [18]) (by kernel_rfl) (by simp) ?_
                    refine AllReadyH.cons rfl (fun K hK => ?s33) ?m33
                    case s33 =>
                      go_simp
                      refine hK.out _ _ ?S33 (fun hHeld => ?c33)
                      case S33 => exact SBOX.out _ (HP4.out.2.2.2.1 _)
                      case c33 =>
                        clear hK K
                        refine wpAnyH_done (by kernel_rfl) ?_ _
                        go_wp2_with fail
                        go_meet
                        exact Lib.hid HP4.out.2.2.2.2
                    exact AllReadyH.nil
                exact AllReadyH.nil
            exact AllReadyH.nil
        exact AllReadyH.nil
    exact AllReadyH.nil
  case rest =>
  obtain ⟨hbd, hbx⟩ := hcut.out
  have HBD := Lib.hid hbd
  obtain ⟨outv', openv', ps', hbu', hopa', hps', hown', hat', hbel', -⟩ := hbd
  have d3' := cell_of_row _ _ 3 _ _ _ hbx
  simp only [List.getElem?_toArray, List.getElem?_cons_succ, List.getElem?_cons_zero] at d3'
  clear hcut hbx
  cases em with
  | true =>
    obtain rfl : op = opN := HON.out
    clear hbu' hopa' hps' hown' hat' hbel'
    go_wp2_with fail
    go_ret2
    exact ⟨rfl, HBD.out⟩
  | false =>
    obtain rfl : op ++ [k] = opN := HON.out
    have hpl2 : ps'.length = k + 1 := by
      have h := congrArg List.length hps'
      have h2 := HPS.out
      have h3 := HPL.out
      rw [List.length_map, List.length_append, ← h2, List.length_map, h3] at h
      exact h
    obtain ⟨ea', ec', rfl⟩ := own_len hown'
    obtain ⟨oa', oc', rfl⟩ := own_len hopa'
    have e0 := hbu'.c0
    have e1 := hbu'.c1
    have HBU' := Lib.hid hbu'
    have HOP' := Lib.hid hopa'
    have HOWN' := Lib.hid hown'
    have HPS' := Lib.hid hps'
    have HAT' := Lib.hid hat'
    have HBL' := Lib.hid hbel'
    have HPL' := Lib.hid hpl2
    have hWc : W1.heap.size ≤ wc.heap.size := hbel'.size
    rw [HNL.out] at e1
    rw [hpl2] at e0
    have HOPN : Hid (wc.ownsRow W1.heap.size 3 1 (.slice oa' n oc') n (op.map fun i : Nat => .int .i64 (i : Int))) := by
      have h := HOP'.out
      unfold OpAt at h
      rw [HNL.out] at h
      exact h
    have HBUA := Lib.hid (fun (q : Nat) (o : Obj) => (HBU'.out.drewN q).alloc o)
    have e0a := fun q o => (HBUA.out q o).c0
    have e1a := fun q o => (HBUA.out q o).c1
    have e0b := fun o => (HBU'.out.alloc o).c0
    have e1b := fun o => (HBU'.out.alloc o).c1
    rw [HNL.out] at e1a e1b
    rw [hpl2] at e0a e0b
    clear hbu' hopa' hps' hown' hat' hbel' hpl2 d1 d2 d3 d5 c0a
    go_wp2_with fail
    have hwk : IntKind.i64.wrap (k : Int) = k := IntWalk.i64_in _ (by omega)
    have HBA' := Lib.hid (fun (q : Nat) (o : Obj) => (below_drewN (Below.refl wc.heap.size wc) q).alloc (Nat.le_refl _) o)
    have HBD' := Lib.hid (fun (q : Nat) (o : Obj) => below_drewN ((Below.refl wc.heap.size wc).alloc (Nat.le_refl _) o) q)
    go_region_law (first
      | (refine step_append_lies _ rfl (.tmp 78) (.tmp 85) 106 rfl W1.heap.size 3 i1 _ 1 8 Tryz.underlying106 hi1 hw0 hw1 hw2 rfl (by decide) (.slice oa' n oc') n (op.map fun i : Nat => .int .i64 (i : Int)) (by simp [Act.eval, Act.put]) ?_ ⟨wc.heap.size, 0, none⟩ 1 1 [.int .i64 (k : Int)] (by simp [Act.eval, Act.put]) rfl ?_ ?_ ?_ ?_ ?_ ?_ _ rfl ?_; (· go_must (first | exact own_below HOPN.out (HBA'.out _ _) | exact own_below HOPN.out (HBD'.out _ _))); (· go_must (exact World.news_of_block (cs := #[.int .i64 (k : Int)]) (heap_alloc_new wc _))); (· go_must (simp [Value.oneCell'])); (· go_must (omega)); (· go_must (unfold maxLen; omega)); (· go_must (omega)); (· go_must (simp; omega)); (intro g' cap w5 hown5 hgrow hat5 hlt5; go_must (have HP5 := Lib.hid (BdAt.opened2 (k := k) hgrow HNL.out hown5 (by first | exact HBA'.out _ _ | exact HBD'.out _ _) HBU'.out HOP'.out HOWN'.out HPS'.out HAT'.out HBL'.out hg)); have k1 := HP5.out.1; have kf1 := HP5.out.2.1; clear hown5 hgrow hat5 hlt5)))
    all_goals clear hwk
    all_goals go_wp2_with fail
    all_goals
      go_ret2
      exact ⟨rfl, HP5.out.2.2⟩
end Go.Proofs.YtokdclmikllepaaGreatDoor
