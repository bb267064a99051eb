import Derived.Test.YtokdclmikllepaaGreatDoorKt5
import Derived.Tactics
import Derived.Tactics2
import Derived.Defers
import Derived.Laws.Pointers
import Derived.Laws.LoneSync
import Derived.RegionTactic
import Derived.RegionCalls
import Derived.ChangeAlike
namespace Go.Proofs.YtokdclmikllepaaGreatDoor
open Go.RowKit
set_option linter.unusedVariables false
set_option linter.unusedSimpArgs false

theorem on_disable (w : World) : (callFunc 193 #[]).run Tryz.prog w = .ok (.value (.tuple #[])) w := run_call_mark0 Tryz.func193 (by kernel_rfl) (by kernel_rfl) (by kernel_rfl) .disable (by kernel_rfl) w
theorem on_enable (w : World) : (callFunc 195 #[]).run Tryz.prog w = .ok (.value (.tuple #[])) w := run_call_mark0 Tryz.func195 (by kernel_rfl) (by kernel_rfl) (by kernel_rfl) .enable (by kernel_rfl) w
theorem on_acquire (a : Addr) (w : World) : (callFunc 196 #[.pointer (some a)]).run Tryz.prog w = .ok (.value (.tuple #[])) w := run_call_marked Tryz.func196 (by kernel_rfl) (by kernel_rfl) (by kernel_rfl) .acquire (by kernel_rfl) a w
theorem on_release (a : Addr) (w : World) : (callFunc 198 #[.pointer (some a)]).run Tryz.prog w = .ok (.value (.tuple #[])) w := run_call_marked Tryz.func198 (by kernel_rfl) (by kernel_rfl) (by kernel_rfl) .releaseMerge (by kernel_rfl) a w

set_option maxRecDepth 100000 in
/-- '(*sync/atomic.Bool).Store(true)', entered as a deferred call: the cell holds 1. -/
theorem on_store (a : Addr) (x : Value) (u : FrameMode) (w : World) (hc : w.cell? a = some x) (hz : w.frozen? a = false) :
    CallsD Tryz.prog 156 #[.pointer (some a), .bool true] u w fun e u' w' => u' = u ∧ (e = .returned (.tuple #[]) ∧ w' = w.drew.setCell a (.int .u32 1)) := by
  have hc' : w.drew.cell? a = some x := by go_simp
  have hz' : w.drew.frozen? a = false := by go_simp
  have hst := run_call_store (P := Tryz.prog) Tryz.func179 (by kernel_rfl) (by kernel_rfl) (by kernel_rfl) (by kernel_rfl) (k := .u32) (y := 1) hc' hz'
  go_enter_d Tryz.func156, Tryz.ntmps156
  go_wp2
  go_region_calls
  all_goals (go_end0; exact ⟨rfl, rfl⟩)

set_option maxRecDepth 100000 in
/-- '(*sync.Mutex).Unlock', entered as a deferred call, the lock held and nobody waiting. -/
theorem on_unlock (a : Addr) (u : FrameMode) (w : World) (hc : w.cell? a = some (.int .i32 1)) (hz : w.frozen? a = false) :
    CallsD Tryz.prog 155 #[.pointer (some a)] u w fun e u' w' => u' = u ∧ (e = .returned (.tuple #[]) ∧ w' = w.setCell a (.int .i32 0)) := by
  have hd := on_disable
  have he := on_enable
  have hr := on_release
  have hadd := run_call_add (P := Tryz.prog) Tryz.func199 (by kernel_rfl) (by kernel_rfl) (by kernel_rfl) .i32 (by kernel_rfl) (y := -1) (s := 0) hc hz (by simp [go_sem]; rfl)
  have hcv := run_convert_to_unsafe (P := Tryz.prog) (src := 234) (dst := 183) Tryz.underlying234 Tryz.underlying183 (by kernel_rfl) hc
  go_enter_d Tryz.func155, Tryz.ntmps155
  go_wp2
  go_end0
  go_wp2
  go_end0
  exact ⟨rfl, rfl⟩

set_option maxRecDepth 100000 in
/-- '(*sync.Mutex).Lock', the lock free. -/
theorem on_lock (a : Addr) (w : World) (hc : w.cell? a = some (.int .i32 0)) (hz : w.frozen? a = false) :
    Calls Tryz.prog 154 #[.pointer (some a)] w fun e w' => e = .returned (.tuple #[]) ∧ w' = w.setCell a (.int .i32 1) := by
  have hd := on_disable
  have he := on_enable
  have ha := on_acquire
  have hcas := run_call_cas_hit (P := Tryz.prog) Tryz.func194 (by kernel_rfl) (by kernel_rfl) (by kernel_rfl) .i32 (by kernel_rfl) (y := 1) hc hz
  have hc' : (w.setCell a (.int .i32 1)).cell? a = some (.int .i32 1) := World.cell?_setCell_same w a _ hc
  have hcv := run_convert_to_unsafe (P := Tryz.prog) (src := 234) (dst := 183) Tryz.underlying234 Tryz.underlying183 (by kernel_rfl) hc'
  go_enter Tryz.func154, Tryz.ntmps154
  go_wp2
  first | go_end0 | (simp only [Exit.inBlock, Exit.then]; refine bodyPost_ret (results_none rfl _ _ _) rfl ?_) | refine bodyPost_ret (results_none rfl _ _ _) rfl ?_
  go_wp2
  go_end0
  exact ⟨rfl, rfl⟩

/-- A Replacer: its once (done, the lock's two words), what it has built, what it is to build of. -/
def Rp (w : World) (b : Nat) (d m s : Int) (r o : Value) : Prop := w.heap[b]? = some (.cells #[.int .u32 d, .int .i32 m, .int .u32 s, r, o] 154 (0, 0))
section
variable {w w' : World} {b : Nat} {d m s : Int} {r o : Value}
theorem Rp.c0 (h : Rp w b d m s r o) : w.cell? ⟨b, 0, none⟩ = some (.int .u32 d) := cell_of_row w b 0 _ _ _ h
theorem Rp.c1 (h : Rp w b d m s r o) : w.cell? ⟨b, 1, none⟩ = some (.int .i32 m) := cell_of_row w b 1 _ _ _ h
theorem Rp.c2 (h : Rp w b d m s r o) : w.cell? ⟨b, 2, none⟩ = some (.int .u32 s) := cell_of_row w b 2 _ _ _ h
theorem Rp.c3 (h : Rp w b d m s r o) : w.cell? ⟨b, 3, none⟩ = some r := cell_of_row w b 3 _ _ _ h
theorem Rp.c4 (h : Rp w b d m s r o) : w.cell? ⟨b, 4, none⟩ = some o := cell_of_row w b 4 _ _ _ h
theorem Rp.fz (h : Rp w b d m s r o) (i : Nat) : w.frozen? ⟨b, i, none⟩ = false := by
  have h2 : w.heap[b]? = _ := h
  simp [World.frozen?, h2]
theorem Rp.lt (h : Rp w b d m s r o) : b < w.heap.size := (Array.getElem?_eq_some_iff.1 (show w.heap[b]? = _ from h)).1
theorem Rp.drew (h : Rp w b d m s r o) : Rp w.drew b d m s r o := h
theorem Rp.set0 (h : Rp w b d m s r o) (x : Int) : Rp (w.setCell ⟨b, 0, none⟩ (.int .u32 x)) b x m s r o := heap_set w b 0 _ _ _ _ h
theorem Rp.set1 (h : Rp w b d m s r o) (x : Int) : Rp (w.setCell ⟨b, 1, none⟩ (.int .i32 x)) b d x s r o := heap_set w b 1 _ _ _ _ h
theorem Rp.set3 (h : Rp w b d m s r o) (x : Value) : Rp (w.setCell ⟨b, 3, none⟩ x) b d m s x o := heap_set w b 3 _ _ _ _ h
theorem Rp.set4 (h : Rp w b d m s r o) (x : Value) : Rp (w.setCell ⟨b, 4, none⟩ x) b d m s r x := heap_set w b 4 _ _ _ _ h
theorem Rp.below (h : Rp w b d m s r o) (hb : Below w.heap.size w w') : Rp w' b d m s r o := (hb.block b h.lt).trans h
end

set_option maxRecDepth 100000 in
set_option maxHeartbeats 1600000 in
/-- doSlow, not yet done and the lock free: the function is called under the lock; then done is stored, the lock let go. -/
theorem on_slow (b : Nat) (r o : Value) (w : World) (hr : Rp w b 0 0 0 r o) (P : World → Prop)
    (hf : Calls Tryz.prog 103 #[.pointer (some ⟨b, 0, none⟩)] (w.setCell ⟨b, 1, none⟩ (.int .i32 1)) fun e w2 => e = .returned (.tuple #[]) ∧ P w2) (hP : ∀ w2, P w2 → ∃ r' o', Rp w2 b 0 1 0 r' o') :
    Calls Tryz.prog 130 #[.pointer (some ⟨b, 0, none⟩), .func (.func 103) #[.pointer (some ⟨b, 0, none⟩)] #[]] w fun e w' => e = .returned (.tuple #[]) ∧ ∃ w2, P w2 ∧ w' = (w2.drew.setCell ⟨b, 0, none⟩ (.int .u32 1)).setCell ⟨b, 1, none⟩ (.int .i32 0) := by
  have hl := run_call_load (P := Tryz.prog) Tryz.func153 (by kernel_rfl) (by kernel_rfl) (by kernel_rfl) .u32 (by kernel_rfl) (w := w.setCell ⟨b, 1, none⟩ (.int .i32 1)) (a := ⟨b, 0, none⟩) (x := 0) (hr.set1 1).c0
  have hnot : ∀ (x : Bool) (w : World), (Op.unary .not (.bool x)).run Tryz.prog w = .ok (.bool (!x)) w := fun _ _ => rfl
  have h1 := hr.c1
  have f1 := hr.fz 1
  go_enter_defers Tryz.func130, Tryz.ntmps130
  go_wp2_with (first | (go_at_call 154; refine (on_lock ⟨b, 1, none⟩ _ (by go_simp) (by go_simp)).mono ?_; rintro e w' ⟨rfl, rfl⟩) | (go_at_call 129; go_in) | (go_at_call 103; refine hf.mono ?_; rintro e w2 ⟨rfl, hp⟩))
  obtain ⟨r', o', hr2⟩ := hP w2 hp
  refine leaves_cons (f := 156) (args := #[.pointer (some ⟨b, 0, none⟩), .bool true]) (by simp) (by simp [go_sem]) ?_
  refine (on_store ⟨b, 0, none⟩ (.int .u32 0) .returning _ hr2.c0 (hr2.fz 0)).mono ?_
  rintro e u' w'' ⟨rfl, rfl, rfl⟩
  refine leaves_cons (f := 155) (args := #[.pointer (some ⟨b, 1, none⟩)]) (by simp [settle]) (by simp [go_sem]) ?_
  refine (on_unlock ⟨b, 1, none⟩ _ _ (hr2.drew.set0 1).c1 ((hr2.drew.set0 1).fz 1)).mono ?_
  rintro e u' w'' ⟨rfl, rfl, rfl⟩
  simp [Leaves, settle, results, Tryz.results130]
  exact ⟨w2, hp, rfl⟩

theorem on_do (b : Nat) (r o : Value) (w : World) (hr : Rp w b 0 0 0 r o) (P : World → Prop)
    (hf : Calls Tryz.prog 103 #[.pointer (some ⟨b, 0, none⟩)] (w.setCell ⟨b, 1, none⟩ (.int .i32 1)) fun e w2 => e = .returned (.tuple #[]) ∧ P w2) (hP : ∀ w2, P w2 → ∃ r' o', Rp w2 b 0 1 0 r' o') :
    Calls Tryz.prog 102 #[.pointer (some ⟨b, 0, none⟩), .func (.func 103) #[.pointer (some ⟨b, 0, none⟩)] #[]] w fun e w' => e = .returned (.tuple #[]) ∧ ∃ w2, P w2 ∧ w' = (w2.drew.setCell ⟨b, 0, none⟩ (.int .u32 1)).setCell ⟨b, 1, none⟩ (.int .i32 0) := by
  have hl := run_call_load (P := Tryz.prog) Tryz.func153 (by kernel_rfl) (by kernel_rfl) (by kernel_rfl) .u32 (by kernel_rfl) hr.c0
  have hnot : ∀ (x : Bool) (w : World), (Op.unary .not (.bool x)).run Tryz.prog w = .ok (.bool (!x)) w := fun _ _ => rfl
  go_enter Tryz.func102, Tryz.ntmps102
  go_wp2_with (first | (go_at_call 130; refine (on_slow b r o _ hr P hf hP).mono ?_; rintro e w' ⟨rfl, w2, hp, rfl⟩) | (go_at_call 129; go_in))
  go_end0
  exact ⟨rfl, w2, hp, rfl⟩
end Go.Proofs.YtokdclmikllepaaGreatDoor
