import Derived.Test.YtokdclmikllepaaGreatDoorKt7
import Derived.OwnWalk
namespace Go.Proofs.YtokdclmikllepaaGreatDoor
open Go.RowKit
set_option linter.unusedVariables false
set_option linter.unusedSimpArgs false

/-- An attribute's cells, a mark's cells (its attributes lie where av says). -/
def atCells (a : Sp.At) : List Value := [.string ⟨a.name.toArray⟩, .string ⟨a.value.toArray⟩, .int .i64 a.at_]
def mkCells (m : Sp.Mk) (av : Value) : List Value := [.int .i64 m.kind, .string ⟨m.name.toArray⟩, av, .bool m.empty, .string ⟨m.text.toArray⟩, .int .i64 m.at_]
/-- Attributes that the call owns from block B on. -/
def AtsAt (B : Nat) (w : World) (v : Value) (l : List Sp.At) : Prop := w.ownsRow B 42 3 v l.length (l.flatMap atCells)
/-- The attributes of two marks lie apart. -/
def RowsApart (x y : Sp.Mk × Value) : Prop := x.2.ownBlock = none ∨ x.2.ownBlock ≠ y.2.ownBlock
theorem rowsApart_nil (x : Sp.Mk × Value) (m : Sp.Mk) : RowsApart x (m, .slice none 0 0) := by
  unfold RowsApart
  cases x.2.ownBlock <;> simp [Value.ownBlock]
/-- Marks that the call owns from block B on; no two marks' attributes lie in one row. -/
def MksAt (B : Nat) (w : World) (v : Value) (ms : List Sp.Mk) : Prop :=
  ∃ ps : List (Sp.Mk × Value), ps.map Prod.fst = ms ∧ (∀ x ∈ ps, AtsAt B w x.2 x.1.attrs) ∧ w.ownsRow B 40 6 v ps.length (ps.flatMap fun x => mkCells x.1 x.2) ∧ ps.Pairwise RowsApart

theorem own_ne {w : World} {base : Nat} {e t : TypeId} {size n g : Nat} {v : Value} {xs : List Value} {cs : Array Value} {fz : Nat × Nat} (h : w.ownsRow base e size v n xs) (hg : w.heap[g]? = some (.cells cs t fz)) (hne : e ≠ t) : v.ownBlock ≠ some g := by
  rcases h.2 with ⟨rfl, _⟩ | ⟨g', cap, cur, rfl, _, hh, _⟩
  · simp [Value.ownBlock]
  · simp only [Value.ownBlock]
    intro he
    injection he with he
    subst he
    rw [hh] at hg
    injection hg with hg
    injection hg with _ h2 _
    exact hne h2
theorem own_own_ne {w : World} {b b' : Nat} {e e' : TypeId} {s s' n n' : Nat} {v v' : Value} {xs xs' : List Value} (h : w.ownsRow b e s v n xs) (h' : w.ownsRow b' e' s' v' n' xs') (hne : e ≠ e') : v.ownBlock = none ∨ v.ownBlock ≠ v'.ownBlock := by
  rcases h'.2 with ⟨rfl, _⟩ | ⟨g', cap, cur, rfl, _, hh, _⟩
  · cases hv : v.ownBlock with
    | none => exact .inl rfl
    | some k => exact .inr (by simp [Value.ownBlock])
  · exact .inr (own_ne h hh hne)
theorem Rd.row {w : World} {g : Nat} {s : ByteArray} {p fr : Nat} {out : Value} {base : Nat} {e : TypeId} {size n : Nat} {v : Value} {xs : List Value} (h : Rd w g s p fr out) (ho : w.ownsRow base e size v n xs) (he : e ≠ 80) : v.ownBlock ≠ some g := own_ne ho h.2 he
theorem Rd.grown {w w' : World} {g : Nat} {s : ByteArray} {p fr : Nat} {out : Value} {row : Option Nat} (h : Rd w g s p fr out) (hg : w.grownBy w' row) (hne : row ≠ some g) : Rd w' g s p fr out :=
  ⟨h.1, (hg.block g h.lt (fun e => hne e.symm)).trans h.2⟩

theorem AtsAt.kept {B : Nat} {w w' : World} {v : Value} {l : List Sp.At} {row : Option Nat} (h : AtsAt B w v l) (hg : w.grownBy w' row) (hne : v.ownBlock = none ∨ v.ownBlock ≠ row) : AtsAt B w' v l := World.ownsRow.kept h hg hne
theorem MksAt.only {B : Nat} {w w' : World} {g : Nat} {s : ByteArray} {p fr : Nat} {out v : Value} {ms : List Sp.Mk} (h : MksAt B w v ms) (hr : Rd w g s p fr out) (ho : Only g w w') : MksAt B w' v ms := by
  obtain ⟨ps, h1, h2, h3, h4⟩ := h
  exact ⟨ps, h1, fun x hx => (h2 x hx).kept ho (.inr (hr.row (h2 x hx) (by decide))), h3.kept ho (.inr (hr.row h3 (by decide))), h4⟩
theorem MksAt.below {B : Nat} {w w' : World} {v : Value} {ms : List Sp.Mk} (h : MksAt B w v ms) (hb : Below w.heap.size w w') : MksAt B w' v ms := by
  have hg : w.grownBy w' none := ⟨hb.os, hb.tape, hb.output, hb.size, fun i hi _ => hb.block i hi⟩
  obtain ⟨ps, h1, h2, h3, h4⟩ := h
  refine ⟨ps, h1, fun x hx => (h2 x hx).kept hg ?_, h3.kept hg ?_, h4⟩
  · cases hv : x.2.ownBlock <;> simp
  · cases hv : v.ownBlock <;> simp
theorem MksAt.nil (B : Nat) (w : World) : MksAt B w (.slice none 0 0) [] := ⟨[], rfl, by simp, World.ownsRow_nil _ _ _ _, .nil⟩
theorem AtsAt.nil (B : Nat) (w : World) : AtsAt B w (.slice none 0 0) [] := World.ownsRow_nil _ _ _ _

/-- Nothing that was there has turned but block g and one row. -/
structure Keep (g : Nat) (row : Option Nat) (w w' : World) : Prop where
  os : w'.os = w.os
  tape : w'.tape = w.tape
  output : w'.output = w.output
  size : w.heap.size ≤ w'.heap.size
  block : ∀ k, k < w.heap.size → k ≠ g → some k ≠ row → w'.heap[k]? = w.heap[k]?
theorem Keep.of_only {w w' : World} {g : Nat} (h : Only g w w') (row : Option Nat) : Keep g row w w' := ⟨h.os, h.tape, h.output, h.size, fun k hk hg _ => h.block k hk (fun e => hg (by injection e))⟩
theorem Keep.of_grown {w w' : World} {row : Option Nat} (h : w.grownBy w' row) (g : Nat) : Keep g row w w' := ⟨h.os, h.tape, h.output, h.size, fun k hk _ hr => h.block k hk hr⟩
theorem Keep.trans {a w w' : World} {g : Nat} {row : Option Nat} (h : Keep g row a w) (k : Keep g row w w') : Keep g row a w' :=
  ⟨k.os.trans h.os, k.tape.trans h.tape, k.output.trans h.output, Nat.le_trans h.size k.size, fun i hi h1 h2 => (k.block i (Nat.lt_of_lt_of_le hi h.size) h1 h2).trans (h.block i hi h1 h2)⟩
theorem Only.alloc {a w : World} {g : Nat} (h : Only g a w) (o : Obj) : Only g a (w.alloc o) := h.below ((Below.refl _ _).alloc (Nat.le_refl _) o)
theorem Rd.alloc {w : World} {g : Nat} {s : ByteArray} {p fr : Nat} {out : Value} (h : Rd w g s p fr out) (o : Obj) : Rd (w.alloc o) g s p fr out := h.below ((Below.refl _ _).alloc (Nat.le_refl _) o)

theorem Rd.drew {w : World} {g : Nat} {s : ByteArray} {p fr : Nat} {out : Value} (h : Rd w g s p fr out) : Rd w.drew g s p fr out := h
theorem Only.drew {a w : World} {g : Nat} (h : Only g a w) : Only g a w.drew := ⟨h.os, h.tape, h.output, h.size, h.block⟩
theorem AtsAt.drew {B : Nat} {w : World} {v : Value} {l : List Sp.At} (h : AtsAt B w v l) : AtsAt B w.drew v l := h

theorem bs_L (t : ByteArray) : (⟨(L t).toArray⟩ : ByteArray) = t := by cases t; simp [L]

theorem infoMark : (Tryz.prog.info? 40).map (fun i => (i.zero, i.size, i.bytes)) = some (some (.agg #[.int .i64 0, .string ⟨#[]⟩, .slice none 0 0, .bool false, .string ⟨#[]⟩, .int .i64 0]), 6, 80) := by kernel_rfl

/-- A mark more, behind an append and the reader's own store. -/
theorem told {B : Nat} {w w0 w1 : World} {g : Nat} {s : ByteArray} {p fr : Nat} {out v' av : Value} {ps : List (Sp.Mk × Value)} {ms : List Sp.Mk} {m : Sp.Mk} (hr : Rd w0 g s p fr out) (hps : ps.map Prod.fst = ms)
    (hat : ∀ x ∈ ps, AtsAt B w0 x.2 x.1.attrs) (hav : AtsAt B w0 av m.attrs) (hown : w0.ownsRow B 40 6 out ps.length (ps.flatMap fun x => mkCells x.1 x.2))
    (hw : Only g w w0) (hgr : w0.grownBy w1 out.ownBlock) (hap : ps.Pairwise RowsApart) (hnew : ∀ x ∈ ps, RowsApart x (m, av)) (hown1 : w1.ownsRow B 40 6 v' (ps.length + 1) ((ps.flatMap fun x => mkCells x.1 x.2) ++ mkCells m av)) :
    Rd (w1.setCell ⟨g, 3, none⟩ v') g s p fr v' ∧ MksAt B (w1.setCell ⟨g, 3, none⟩ v') v' (ms ++ [m]) ∧ Keep g out.ownBlock w (w1.setCell ⟨g, 3, none⟩ v') := by
  have hr1 := hr.grown hgr (hr.row hown (by decide))
  have hat1 : ∀ x ∈ ps ++ [(m, av)], AtsAt B w1 x.2 x.1.attrs := fun x hx => by
    rcases List.mem_append.1 hx with hx | hx
    · exact (hat x hx).kept hgr (own_own_ne (hat x hx) hown (by decide))
    · simp only [List.mem_singleton] at hx
      subst hx
      exact hav.kept hgr (own_own_ne hav hown (by decide))
  have hs := (Only.refl g w1).set 3 v'
  refine ⟨hr1.set3 v', ⟨ps ++ [(m, av)], by rw [List.map_append, hps]; rfl, fun x hx => (hat1 x hx).kept hs (.inr (hr1.row (hat1 x hx) (by decide))), ?_, ?_⟩, ?_⟩
  · rw [List.flatMap_append, List.length_append]
    have := hown1.kept hs (.inr (hr1.row hown1 (by decide)))
    simpa using this
  · rw [List.pairwise_append]
    exact ⟨hap, List.pairwise_singleton _ _, fun x hx y hy => by rw [List.mem_singleton.1 hy]; exact hnew x hx⟩
  · exact ((Keep.of_only hw _).trans (Keep.of_grown hgr g)).trans (Keep.of_only hs _)

set_option maxHeartbeats 2000000 in
set_option maxRecDepth 100000 in
theorem rput_calls (s t : ByteArray) (g p fr : Nat) (out : Value) (ms : List Sp.Mk) (B : Nat) (w : World) (hr : Rd w g s p fr out) (hB : B ≤ w.heap.size) (hms : MksAt B w out ms) (ht : L t ≠ []) (hn : ms.length < 65537) :
    Calls Tryz.prog 120 #[.pointer (some ⟨g, 0, none⟩), .string t] w fun e w' => e = .returned (.tuple #[]) ∧ ∃ v', Rd w' g s p fr v' ∧ MksAt B w' v' (ms ++ [⟨3, [], [], false, L t, fr⟩]) ∧ Keep g out.ownBlock w w' := by
  have h2 := hr.c2
  have h3 := hr.c3
  have hf3 := hr.fz 3
  have hte : t.toList.isEmpty = false := by rw [toList_L]; cases h : L t with | nil => exact absurd h ht | cons => rfl
  obtain ⟨ps, hps, hat, hown, hap⟩ := hms
  have hpl : ps.length = ms.length := by rw [← hps, List.length_map]
  have HAT := Lib.hid hat
  have HPS := Lib.hid hps
  have HT := Lib.hid ht
  have HAP := Lib.hid hap
  clear hat hps ht hap
  obtain ⟨i0, hi, hz0, hz1, hz2⟩ := info_parts infoMark
  have hpb : ps.length < 65537 := by omega
  have hglt := hr.lt
  have k3 := (hr.alloc (.cells #[.int .i64 3, .string ⟨#[]⟩, .slice none 0 0, .bool false, .string t, .int .i64 fr] 40)).drew.c3
  clear hpl
  go_enter Tryz.func120, Tryz.ntmps120
  go_wp2_with fail
  go_region_law (first | (refine step_append_lies _ rfl (.tmp 10) (.tmp 17) 22 rfl B 40 i0 _ 6 80 Tryz.underlying22 hi hz0 hz1 hz2 rfl (by decide) out ps.length (ps.flatMap fun x => mkCells x.1 x.2) (by simp [Act.eval, Act.put]) ?_ ⟨w.heap.size, 0, none⟩ 1 1 [.int .i64 3, .string ⟨#[]⟩, .slice none 0 0, .bool false, .string t, .int .i64 fr] (by simp [Act.eval, Act.put]) rfl ?_ ?_ ?_ ?_ ?_ ?_ _ rfl ?_; (· exact (hown.alloc _).drew); (· exact World.news_of_block (cs := #[.int .i64 3, .string ⟨#[]⟩, .slice none 0 0, .bool false, .string t, .int .i64 fr]) (heap_alloc_new w _)); (· simp [Value.oneCell']); (· omega); (· unfold maxLen; omega); (· omega); (· simp; omega); (intro g' cap w1 hown1 hgrow hat1 hlt; have hrd1 := ((hr.alloc _).drew).grown hgrow (hr.row hown (by decide)); have k3 := hrd1.c3; have kf := hrd1.fz 3)))
  all_goals
    go_wp2
    go_end0
    refine ⟨rfl, _, told (m := ⟨3, [], [], false, L t, fr⟩) (av := .slice none 0 0) (hr.alloc _).drew HPS.out (fun x hx => (HAT.out x hx).kept ((Only.refl g w).alloc _).drew (.inr (hr.row (HAT.out x hx) (by decide)))) (AtsAt.nil _ _) (hown.alloc _).drew ((Only.refl g w).alloc _).drew hgrow HAP.out (fun x _ => rowsApart_nil x _) ?_⟩
    rw [← bs_L t] at hown1
    exact hown1

set_option maxHeartbeats 2000000 in
theorem rput_none (t : ByteArray) (g : Nat) (w : World) (ht : L t = []) :
    Calls Tryz.prog 120 #[.pointer (some ⟨g, 0, none⟩), .string t] w fun e w' => e = .returned (.tuple #[]) ∧ w = w' := by
  have hte : t.toList.isEmpty = true := by rw [toList_L, ht]; rfl
  go_enter Tryz.func120, Tryz.ntmps120
  go_wp2_with fail
  go_end0
  exact ⟨rfl, rfl⟩

theorem want_is (s : ByteArray) (c : UInt8) (k : Int) (hk : (c.toNat : Int) = k) (g p fr : Nat) (out : Value) (w : World) (hr : Rd w g s p fr out) (hs : s.size ≤ 140737488351232) (hp : p < s.size) (hc : s[p] = c) :
    Calls Tryz.prog 124 #[.pointer (some ⟨g, 0, none⟩), .int .u8 k] w fun e w' => e = .returned (.tuple #[]) ∧ Only g w w' ∧ Rd w' g s (p + 1) fr out := hk ▸ want_calls s c g p fr out w hr hs hp hc
theorem want_fails (s : ByteArray) (c : UInt8) (k : Int) (hk : (c.toNat : Int) = k) (g p fr : Nat) (out : Value) (w : World) (hr : Rd w g s p fr out) (hs : s.size ≤ 140737488351232) (hc : ((L s).drop p).head? ≠ some c) :
    Calls Tryz.prog 124 #[.pointer (some ⟨g, 0, none⟩), .int .u8 k] w fun e w' => e = pan (Sp.stop fr p ((L s).drop p)) ∧ ∃ n, w' = w.drewN n := hk ▸ want_not s c g p fr out w hr hs hc

/-- A name ends where the document's does, or ahead of it. -/
theorem nameN_le : ∀ (k : Nat) (first : Bool) (l : List UInt8), Sp.nameN k first l ≤ l.length := by
  intro k
  induction k with
  | zero => intro first l; simp [Sp.nameN]
  | succ k ih =>
    intro first l
    cases l with
    | nil => simp [Sp.nameN]
    | cons c t =>
      rw [nameN_step _ _ _ (by simp)]
      split
      · have := ih false ((c :: t).drop (Sp.next (c :: t)).2)
        have h2 := (next_le (c :: t)).1
        rw [List.length_drop] at this
        omega
      · exact Nat.zero_le _
theorem nm_le (k : Nat) (first : Bool) (s : ByteArray) (p : Nat) (h : p ≤ s.size) : p ≤ nm k first s p ∧ nm k first s p ≤ s.size := by
  unfold nm
  have := nameN_le k first ((L s).drop p)
  rw [List.length_drop, L_length] at this
  omega

set_option maxHeartbeats 4000000 in
set_option maxRecDepth 100000 in
theorem closing_ok (s : ByteArray) (g p : Nat) (out : Value) (ms : List Sp.Mk) (B q : Nat) (w : World) (hr : Rd w g s p p out) (hs : s.size ≤ 65536) (hB : B ≤ w.heap.size) (hms : MksAt B w out ms) (hn : ms.length < 65537)
    (hp : p + 2 ≤ s.size) (hq : nm (s.size - (p + 2) + 1) true s (p + 2) = q) (hne : p + 2 < q) (u : Nat) (hu : bl s q = u) (hul : u < s.size) (hc : s[u] = 62) :
    Calls Tryz.prog 92 #[.pointer (some ⟨g, 0, none⟩)] w fun e w' => e = .returned (.tuple #[]) ∧ ∃ v', Rd w' g s (u + 1) p v' ∧ MksAt B w' v' (ms ++ [⟨2, L (s.extract (p + 2) q), [], false, [], p⟩]) ∧ Keep g out.ownBlock w w' := by
  have hqs := nm_le (s.size - (p + 2) + 1) true s (p + 2) hp
  rw [hq] at hqs
  have hqs2 := hqs.2
  have h1 := hr.c1
  have hf1 := hr.fz 1
  have HQ := Lib.hid hq
  have HU := Lib.hid hu
  have HC := Lib.hid hc
  clear hq hu hc hqs
  go_enter Tryz.func92, Tryz.ntmps92
  go_wp2_with fail
  have hr1 : Rd (w.setCell ⟨g, 1, none⟩ (.int .i64 ((p : Int) + 2))) g s (p + 2) p out := hr.set1 (p + 2)
  refine (name_calls s g (p + 2) p out _ hr1 (by omega) hp q HQ.out hne).mono ?_
  rintro e w1 ⟨rfl, ho1, hr2⟩
  have HR2 : Hid (Only g w w1 ∧ Rd w1 g s q p out) := ⟨((Only.refl g w).set 1 _).trans ho1, hr2⟩
  clear ho1 hr2 hr1 h1 hf1
  go_wp2_with (go_at_call 123; refine (blanks_calls s g q p out _ HR2.out.2 (by omega) hqs2).mono ?_; rw [HU.out]; rintro e w2 ⟨rfl, ho2, hr3⟩; have HR3 : Hid (Only g w w2 ∧ Rd w2 g s u p out) := ⟨HR2.out.1.trans ho2, hr3⟩; clear ho2 hr3)
  refine (want_is s 62 62 rfl g u p out _ HR3.out.2 (by omega) hul HC.out).mono ?_
  rintro e w3 ⟨rfl, ho3, hr4⟩
  have ho : Only g w w3 := HR3.out.1.trans ho3
  have hms3 := hms.only hr ho
  have hB3 : B ≤ w3.heap.size := Nat.le_trans hB ho.size
  have HO := Lib.hid ho
  clear ho3 HR2 HR3 hms hr hB ho
  have h2 := hr4.c2
  have h3 := hr4.c3
  have hf3 := hr4.fz 3
  obtain ⟨ps, hps, hat, hown, hap⟩ := hms3
  have hpl : ps.length = ms.length := by rw [← hps, List.length_map]
  have HAT := Lib.hid hat
  have HPS := Lib.hid hps
  have HAP := Lib.hid hap
  clear hat hps hap
  obtain ⟨i0, hi, hz0, hz1, hz2⟩ := info_parts infoMark
  have hpb : ps.length < 65537 := by omega
  have hglt := hr4.lt
  have k3 := (hr4.alloc (.cells #[.int .i64 2, .string (s.extract (p + 2) q), .slice none 0 0, .bool false, .string ⟨#[]⟩, .int .i64 p] 40)).drew.c3
  clear hpl
  go_wp2_with fail
  go_region_law (first | (refine step_append_lies _ rfl (.tmp 20) (.tmp 27) 22 rfl B 40 i0 _ 6 80 Tryz.underlying22 hi hz0 hz1 hz2 rfl (by decide) out ps.length (ps.flatMap fun x => mkCells x.1 x.2) (by simp [Act.eval, Act.put]) ?_ ⟨w3.heap.size, 0, none⟩ 1 1 [.int .i64 2, .string (s.extract (p + 2) q), .slice none 0 0, .bool false, .string ⟨#[]⟩, .int .i64 p] (by simp [Act.eval, Act.put]) rfl ?_ ?_ ?_ ?_ ?_ ?_ _ rfl ?_; (· exact (hown.alloc _).drew); (· exact World.news_of_block (cs := #[.int .i64 2, .string (s.extract (p + 2) q), .slice none 0 0, .bool false, .string ⟨#[]⟩, .int .i64 p]) (heap_alloc_new w3 _)); (· simp [Value.oneCell']); (· omega); (· unfold maxLen; omega); (· omega); (· simp; omega); (intro g' cap w1 hown1 hgrow hat1 hlt; have hrd1 := ((hr4.alloc _).drew).grown hgrow (hr4.row hown (by decide)); have k4 := hrd1.c3; have kf := hrd1.fz 3)))
  all_goals
    go_wp2
    go_end0
    obtain ⟨a1, a2, a3⟩ := told (w := w3) (m := ⟨2, L (s.extract (p + 2) q), [], false, [], p⟩) (av := .slice none 0 0) (hr4.alloc _).drew HPS.out (fun x hx => (HAT.out x hx).kept ((Only.refl g w3).alloc _).drew (.inr (hr4.row (HAT.out x hx) (by decide)))) (AtsAt.nil _ _) (hown.alloc _).drew ((Only.refl g w3).alloc _).drew hgrow HAP.out (fun x _ => rowsApart_nil x _) (by rw [mkCells, bs_L]; exact hown1)
    exact ⟨rfl, _, a1, a2, (Keep.of_only HO.out _).trans a3⟩
end Go.Proofs.YtokdclmikllepaaGreatDoor
namespace Go.Proofs.YtokdclmikllepaaGreatDoor
open Go.RowKit
set_option linter.unusedVariables false
set_option linter.unusedSimpArgs false

set_option maxHeartbeats 4000000 in
set_option maxRecDepth 100000 in
theorem closing_noname (s : ByteArray) (g p : Nat) (out : Value) (w : World) (hr : Rd w g s p p out) (hs : s.size ≤ 65536) (hp : p + 2 ≤ s.size) (hq : nm (s.size - (p + 2) + 1) true s (p + 2) = p + 2) :
    Calls Tryz.prog 92 #[.pointer (some ⟨g, 0, none⟩)] w fun e w' => e = pan (Sp.stop p (p + 2) ((L s).drop (p + 2))) ∧ Only g w w' := by
  have h1 := hr.c1
  have hf1 := hr.fz 1
  have HQ := Lib.hid hq
  clear hq
  go_enter Tryz.func92, Tryz.ntmps92
  go_wp2_with fail
  have hr1 : Rd (w.setCell ⟨g, 1, none⟩ (.int .i64 ((p : Int) + 2))) g s (p + 2) p out := hr.set1 (p + 2)
  refine (name_none s g (p + 2) p out _ hr1 (by omega) hp HQ.out).mono ?_
  rintro e w1 ⟨he, hb⟩
  unfold pan at he
  subst he
  go_wp2_with fail
  exact ⟨rfl, rfl, ((Only.refl g w).set 1 _).below hb⟩

set_option maxHeartbeats 4000000 in
set_option maxRecDepth 100000 in
theorem closing_nowant (s : ByteArray) (g p : Nat) (out : Value) (q : Nat) (w : World) (hr : Rd w g s p p out) (hs : s.size ≤ 65536)
    (hp : p + 2 ≤ s.size) (hq : nm (s.size - (p + 2) + 1) true s (p + 2) = q) (hne : p + 2 < q) (u : Nat) (hu : bl s q = u) (hc : ((L s).drop u).head? ≠ some 62) :
    Calls Tryz.prog 92 #[.pointer (some ⟨g, 0, none⟩)] w fun e w' => e = pan (Sp.stop p u ((L s).drop u)) ∧ Only g w w' := by
  have hqs := nm_le (s.size - (p + 2) + 1) true s (p + 2) hp
  rw [hq] at hqs
  have hqs2 := hqs.2
  have h1 := hr.c1
  have hf1 := hr.fz 1
  have HQ := Lib.hid hq
  have HU := Lib.hid hu
  have HC := Lib.hid hc
  clear hq hu hc hqs
  go_enter Tryz.func92, Tryz.ntmps92
  go_wp2_with fail
  have hr1 : Rd (w.setCell ⟨g, 1, none⟩ (.int .i64 ((p : Int) + 2))) g s (p + 2) p out := hr.set1 (p + 2)
  refine (name_calls s g (p + 2) p out _ hr1 (by omega) hp q HQ.out hne).mono ?_
  rintro e w1 ⟨rfl, ho1, hr2⟩
  have HR2 : Hid (Only g w w1 ∧ Rd w1 g s q p out) := ⟨((Only.refl g w).set 1 _).trans ho1, hr2⟩
  clear ho1 hr2 hr1 h1 hf1
  go_wp2_with (go_at_call 123; refine (blanks_calls s g q p out _ HR2.out.2 (by omega) hqs2).mono ?_; rw [HU.out]; rintro e w2 ⟨rfl, ho2, hr3⟩; have HR3 : Hid (Only g w w2 ∧ Rd w2 g s u p out) := ⟨HR2.out.1.trans ho2, hr3⟩; clear ho2 hr3)
  refine (want_fails s 62 62 rfl g u p out _ HR3.out.2 (by omega) HC.out).mono ?_
  rintro e w3 ⟨he, n, rfl⟩
  unfold pan at he
  subst he
  go_wp2_with fail
  exact ⟨rfl, rfl, HR3.out.1.drewN _⟩
end Go.Proofs.YtokdclmikllepaaGreatDoor
