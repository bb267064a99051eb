import Derived.Test.YtokdclmikllepaaGreatDoorMr16
import Derived.Lib.AppendStr
import Derived.Laws.AppendOwnNone
namespace Go.Proofs.YtokdclmikllepaaGreatDoor
open Go.RowKit
set_option linter.unusedVariables false
set_option linter.unusedSimpArgs false

theorem infoU8 : (Tryz.prog.info? 5).map (fun i => (i.zero, i.size, i.bytes)) = some (some (.int .u8 0), 1, 1) := by kernel_rfl

theorem OwnB.cells {base : Nat} {w : World} {v : Value} {l : List UInt8} (h : OwnB base w v l) :
    (v = .slice none 0 0 ∧ l = []) ∨ ∃ g cap, v = .slice (some ⟨g, 0, none⟩) l.length cap ∧ base ≤ g ∧ g < w.heap.size ∧ ∀ j u, (byteVals l)[j]? = some u → w.cell? ((⟨g, 0, none⟩ : Addr).add j) = some u := by
  rcases h.2 with ⟨rfl, hl⟩ | ⟨g, cap, cur, rfl, hbg, hg, hnc, hcm, hcs, htake⟩
  · exact .inl ⟨rfl, List.eq_nil_of_length_eq_zero hl⟩
  · exact .inr ⟨g, cap, rfl, hbg, (Array.getElem?_eq_some_iff.1 hg).1, World.ownsRow.cells h rfl⟩

theorem byteVals_one {l : List UInt8} : ∀ u ∈ byteVals l, u.oneCell' = true := by
  intro u hu
  simp only [byteVals, List.mem_map] at hu
  obtain ⟨x, _, rfl⟩ := hu
  rfl

theorem OwnB.grown_below {base : Nat} {w w' : World} {v : Value} {l : List UInt8} (h : OwnB base w v l) (hbase : base ≤ w.heap.size) (hg : w.grownBy w' v.ownBlock) : Below base w w' :=
  ⟨hg.os, hg.tape, hg.output, hg.size, fun k hk => hg.block k (by omega) (fun e => by
    have := (World.ownsRow.lt h k e.symm).1
    omega)⟩

section
variable {w : World}

/-- A row of bytes appended to the call's own. -/
theorem wpList_appB {ops : Array Oper} {rest : List Oper} {o : Oper} {a : Act} {Q : Exit → Act → World → Prop} (hgd : o.guard = none) (s x : Operand)
    (ho : o.op = .call { callee := .builtin .append, args := #[s, x], argTypes := #[36, 36] })
    (base base2 : Nat) (v u : Value) (l m : List UInt8) (hs : a.eval s = v) (hv : OwnB base w v l) (hx : a.eval x = u) (hu : OwnB base2 w u m)
    (hb : l.length + m.length ≤ 140737488355328) (hbase : base ≤ w.heap.size)
    (h : ∀ v' w', OwnB base w' v' (l ++ m) → Below base w w' → wpList Tryz.prog ops Q rest (a.put o.dst v') w') : wpList Tryz.prog ops Q (o :: rest) a w := by
  obtain ⟨i0, hi, hz0, hz1, hz2⟩ := info_parts infoU8
  rcases hu.cells with ⟨rfl, rfl⟩ | ⟨g, cap, rfl, hbg, hgl, hcells⟩
  · refine wpList_append_own_none hgd s x 36 ho base 5 i0 1 Tryz.underlying36 hi v l.length (byteVals l) hs hv hx ?_
    exact h v w (by rw [List.append_nil]; exact hv) (Below.refl _ _)
  · refine wpList_append_own _ hgd s x 36 ho base 5 i0 (.int .u8 0) 1 1 Tryz.underlying36 hi hz0 hz1 hz2 rfl (by decide) v l.length (byteVals l) hs hv ⟨g, 0, none⟩ m.length cap (byteVals m) hx (by rw [byteVals_length, Nat.mul_one]) hcells byteVals_one (by unfold maxLen; omega) (by omega) hbase ?_
    intro v' w' h1 h2 _
    refine h v' w' ?_ (hv.grown_below hbase h2)
    unfold OwnB
    rw [List.length_append, byteVals_append]
    exact h1

/-- A text's bytes appended to the call's own. -/
theorem wpList_appS {ops : Array Oper} {rest : List Oper} {o : Oper} {a : Act} {Q : Exit → Act → World → Prop} (hgd : o.guard = none) (s x : Operand)
    (ho : o.op = .call { callee := .builtin .append, args := #[s, x], argTypes := #[36, 9] })
    (base : Nat) (v : Value) (l : List UInt8) (t : ByteArray) (hs : a.eval s = v) (hv : OwnB base w v l) (hx : a.eval x = .string t)
    (hb : l.length + t.size ≤ 140737488355328) (hbase : base ≤ w.heap.size)
    (h : ∀ v' w', OwnB base w' v' (l ++ L t) → Below base w w' → wpList Tryz.prog ops Q rest (a.put o.dst v') w') : wpList Tryz.prog ops Q (o :: rest) a w := by
  obtain ⟨i0, hi, hz0, hz1, hz2⟩ := info_parts infoU8
  refine Lib.wpList_append_own_string _ hgd s x 36 9 ho base 5 i0 Tryz.underlying36 Tryz.underlying9 hi hz0 hz1 hz2 v l.length (byteVals l) hs hv t hx (by unfold maxLen; omega) hb hbase ?_
  intro v' w' h1 h2 _
  refine h v' w' ?_ (hv.grown_below hbase h2)
  unfold OwnB
  rw [List.length_append, byteVals_append, L_length]
  exact h1
end

/-- One byte, just built. -/
theorem OwnB.one (base : Nat) (w : World) (c : UInt8) (x : Int) (hx : x = c.toNat) (hb : base ≤ w.heap.size) : OwnB base (w.alloc (.cells #[.int .u8 x] 5)) (.slice (some ⟨w.heap.size, 0, none⟩) 1 1) [c] := by
  subst hx
  exact OwnB.made base w [c] _ rfl hb (by simp [maxLen]) _ rfl _ rfl

theorem OwnB.alloc {base : Nat} {w : World} {v : Value} {l : List UInt8} (h : OwnB base w v l) (o : Obj) : OwnB base (w.alloc o) v l := World.ownsRow.alloc h o

theorem OwnB.eq {base : Nat} {w : World} {v : Value} {l m : List UInt8} (h : OwnB base w v l) (e : l = m) : OwnB base w v m := e ▸ h

theorem lines_13_10 (u : List UInt8) : Sp.lines (13 :: 10 :: u) = Sp.lines (10 :: u) := by
  simp [Sp.lines]
theorem lines_13 (u : List UInt8) (h : ∀ t, u ≠ 10 :: t) : Sp.lines (13 :: u) = 10 :: Sp.lines u := by
  match u, h with
  | [], _ => rfl
  | c :: t, h =>
    have hc : c ≠ 10 := fun e => h t (by rw [e])
    simp [Sp.lines, hc]
theorem lines_other (c : UInt8) (u : List UInt8) (h : c ≠ 13) : Sp.lines (c :: u) = c :: Sp.lines u := by
  simp [Sp.lines, h]

theorem flat_13_10 (b : Bool) (u : List UInt8) : Sp.flat b (13 :: 10 :: u) = Sp.flat b (10 :: u) := by
  simp only [Sp.flat, lines_13_10]
theorem flat_13 (b : Bool) (u : List UInt8) (h : ∀ t, u ≠ 10 :: t) : Sp.flat b (13 :: u) = (if b = true then 32 else 10) :: Sp.flat b u := by
  simp only [Sp.flat, lines_13 u h]
  cases b <;> rfl
theorem flat_other (b : Bool) (c : UInt8) (u : List UInt8) (h : c ≠ 13) : Sp.flat b (c :: u) = (if b = true then Sp.blank c else c) :: Sp.flat b u := by
  simp only [Sp.flat, lines_other c u h]
  cases b <;> rfl

end Go.Proofs.YtokdclmikllepaaGreatDoor
