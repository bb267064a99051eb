import Derived.Test.YtokdclmikllepaaDoorTq
import Derived.Recover
import Derived.Defers
namespace Go.Proofs.YtokdclmikllepaaDoor
open Go.RowKit
set_option linter.unusedVariables false
set_option linter.unusedSimpArgs false

theorem opsS_recover {P : Program} {ops : Array Oper} {Q : Exit → Act → List Frame → World → Prop} {i : Nat} {rest : List Nat} {a : Act} {cs cs' : List Frame} {w : World} {o : Oper} {v : Value}
    (ho : ops[i]? = some o) (hw : Region.wanted o (yielded ops a.tmps) = true) (hr : (execOp a.eval o).run P w = .ok .recover w) (hrec : recoverD cs = some (v, cs')) (h : wpOpsS P ops Q rest (a.put o.dst v) cs' w) : wpOpsS P ops Q (i :: rest) a cs w := by
  simp only [wpOpsS, ho]
  rw [if_pos hw, hr]
  simp only [hrec]
  exact h
theorem opsS_recover_none {P : Program} {ops : Array Oper} {Q : Exit → Act → List Frame → World → Prop} {i : Nat} {rest : List Nat} {a : Act} {cs : List Frame} {w : World} {o : Oper}
    (ho : ops[i]? = some o) (hw : Region.wanted o (yielded ops a.tmps) = true) (hr : (execOp a.eval o).run P w = .ok .recover w) (hrec : recoverD cs = none) (h : wpOpsS P ops Q rest (a.put o.dst .nilIface) cs w) : wpOpsS P ops Q (i :: rest) a cs w := by
  simp only [wpOpsS, ho]
  rw [if_pos hw, hr]
  simp only [hrec]
  exact h

theorem assert_fault (v : Value) (w : World) : (Instr.typeAssert (.iface 37 v) 20 37 true).run Tryd.prog w = .ok (.tuple #[v, .bool true]) w := by kernel_rfl

set_option maxHeartbeats 2000000 in
set_option maxRecDepth 100000 in
/-- The deferred function, when all has given up. -/
theorem catch_fault (b0 b1 b2 : Nat) (f : Sp.Flt) (x0 x1 x2 : Value) (older : List PanicEntry) (w : World)
    (h0 : w.cell? ⟨b0, 0, none⟩ = some x0) (h1 : w.cell? ⟨b1, 0, none⟩ = some x1) (h2 : w.cell? ⟨b2, 0, none⟩ = some x2)
    (z0 : w.frozen? ⟨b0, 0, none⟩ = false) (z1 : w.frozen? ⟨b1, 0, none⟩ = false) (z2 : w.frozen? ⟨b2, 0, none⟩ = false)
    (n0 : b0 < w.heap.size) (n1 : b1 < w.heap.size) (n2 : b2 < w.heap.size) (d01 : b0 ≠ b1) (d02 : b0 ≠ b2) (d12 : b1 ≠ b2) :
    CallsD Tryd.prog 10 #[.pointer (some ⟨b0, 0, none⟩), .pointer (some ⟨b1, 0, none⟩), .pointer (some ⟨b2, 0, none⟩)] (.panicking ({ v := .iface 37 (.agg #[.int .i64 f.1, .int .i64 f.2]), recovered := false } :: older)) w fun e u' w' =>
      e = .returned (.tuple #[]) ∧ u' = .panicking ({ v := .iface 37 (.agg #[.int .i64 f.1, .int .i64 f.2]), recovered := true } :: older) ∧
        w' = ((((w.setCell ⟨b0, 0, none⟩ (.slice none 0 0)).setCell ⟨b1, 0, none⟩ (.int .i64 f.1)).setCell ⟨b2, 0, none⟩ (.int .i64 f.2)).alloc (.cells #[.int .i64 f.1, .int .i64 f.2] 37)).drew := by
  refine callsD_of_wpS Tryd.func10 rfl fun c₀ cs hu => ?_
  apply wpS_seq
  apply wpS_region
  generalize hK : Exit.thenS _ _ = K
  rw [Tryd.ntmps10]
  refine (show wpOpsS _ _ K [0, 1] _ _ w from ?_)
  have hrec : recoverD (c₀ :: cs) = some (.iface 37 (.agg #[.int .i64 f.1, .int .i64 f.2]), { c₀ with mode := .panicking ({ v := .iface 37 (.agg #[.int .i64 f.1, .int .i64 f.2]), recovered := true } :: older) } :: cs) := by simp [recoverD, hu]
  refine opsS_recover rfl rfl rfl hrec ?_
  clear hrec
  simp [wpOpsS, go_sem, Act.put, Array.replicate]
  subst hK
  show Code.wpS _ _ _ _ _ _
  refine wpS_of_wp ?_
  have hta := assert_fault (.agg #[.int .i64 f.1, .int .i64 f.2]) w
  go_wp2_with fail
  go_region
  all_goals
    go_wp2_with fail
    cases c₀
    simp_all [bodyPostS, results, Tryd.results10]

theorem catch_idle (b0 b1 b2 : Nat) (w : World) :
    CallsD Tryd.prog 10 #[.pointer (some ⟨b0, 0, none⟩), .pointer (some ⟨b1, 0, none⟩), .pointer (some ⟨b2, 0, none⟩)] .returning w fun e u' w' => e = .returned (.tuple #[]) ∧ u' = .returning ∧ w' = w := by
  refine callsD_of_wpS Tryd.func10 rfl fun c₀ cs hu => ?_
  apply wpS_seq
  apply wpS_region
  generalize hK : Exit.thenS _ _ = K
  rw [Tryd.ntmps10]
  refine (show wpOpsS _ _ K [0, 1] _ _ w from ?_)
  refine opsS_recover_none rfl rfl rfl (by simp [recoverD, hu]) ?_
  simp [wpOpsS, go_sem, Act.put, Array.replicate]
  subst hK
  show Code.wpS _ _ _ _ _ _
  refine wpS_of_wp ?_
  go_wp2_with fail
  cases c₀
  simp_all [bodyPostS, results, Tryd.results10]
end Go.Proofs.YtokdclmikllepaaDoor
