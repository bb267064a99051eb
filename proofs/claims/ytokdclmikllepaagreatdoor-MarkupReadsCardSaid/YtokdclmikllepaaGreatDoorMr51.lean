import Derived.Test.YtokdclmikllepaaGreatDoorMr50
import Derived.Test.YtokdclmikllepaaGreatDoorMr48
namespace Go.Proofs.YtokdclmikllepaaGreatDoor
open Go.RowKit
set_option linter.unusedVariables false
set_option linter.unusedSimpArgs false

theorem MksR.below {B : Nat} {w w' : World} {v : Value} {l : List Sp.Mk} (h : MksR B w v l) (hb : Below w.heap.size w w') : MksR B w' v l := by
  refine ⟨h.1, fun hl => ?_⟩
  obtain ⟨g, cap, e, hg, hc⟩ := h.2 hl
  refine ⟨g, cap, e, Nat.lt_of_lt_of_le hg hb.size, fun i m hm => ?_⟩
  obtain ⟨av, k, x⟩ := hc i m hm
  have e1 : ∀ j, w'.cell? ⟨g, j, none⟩ = w.cell? ⟨g, j, none⟩ := fun j => World.cell?_of_block (hb.block g hg)
  refine ⟨av, k.below hb, ?_⟩
  simp only [e1]
  exact x

theorem refMarks_err (s : ByteArray) (w : World) (p c : Nat) (hR : Sp.marks (L s) = .error (p, c)) :
    Calls Tryz.prog 17 #[.string s] w fun e w' => ∃ v, e = .returned (.tuple #[v, .agg #[.int .i64 p, .int .i64 c]]) ∧ MksR (w.heap.size + 1) w' v [] ∧ Below w.heap.size w w' :=
  (refMarks_is s w _ hR).mono fun e w' ⟨hb, v, he, hm⟩ => ⟨v, he, hm, hb⟩
theorem refMarks_ok (s : ByteArray) (w : World) (ms : List Sp.Mk) (hR : Sp.marks (L s) = .ok ms) :
    Calls Tryz.prog 17 #[.string s] w fun e w' => ∃ v, e = .returned (.tuple #[v, .agg #[.int .i64 0, .int .i64 0]]) ∧ MksR (w.heap.size + 1) w' v ms ∧ Below w.heap.size w w' :=
  (refMarks_is s w _ hR).mono fun e w' ⟨hb, v, he, hm⟩ => ⟨v, he, hm, hb⟩

set_option maxHeartbeats 4000000 in
set_option maxRecDepth 100000 in
theorem reads_calls (s : ByteArray) (w : World) (hG : Gl w) (hs : s.size ≤ 140737488351232) :
    Calls Tryz.prog 3 #[.string s] w fun e w' => e = .returned (.bool true) ∧ Below w.heap.size w w' := by
  have HG := Lib.hid hG
  clear hG
  cases hR : Sp.marks (L s) with
  | ok ms =>
    have hbd := marks_bd _ _ hR
    rw [L_length] at hbd
    have HBD := Lib.hid hbd
    have HR := Lib.hid hR
    clear hR hbd
    go_enter Tryz.func3, Tryz.ntmps3
    go_wp2_with fail
    refine (marks_is s _ HG.out hs _ HR.out).mono ?_
    rintro e w1 ⟨hb1, v, rfl, hm⟩
    have HM := Lib.hid hm
    have HB1 := Lib.hid hb1
    clear hm hb1
    go_wp2_with fail
    refine (refMarks_ok s _ ms HR.out).mono ?_
    rintro e w2 ⟨v2, rfl, hm2, hb2⟩
    have HB2 : Hid (Below w.heap.size w (w2.alloc (.cells #[.int .i64 0, .int .i64 0] 27))) := (below_then HB1.out hb2).alloc (below_then HB1.out hb2).size _
    have HM1 : Hid (MksAt w.heap.size (w2.alloc (.cells #[.int .i64 0, .int .i64 0] 27)) v ms) := (HM.out.below hb2).below ((Below.refl _ _).alloc (Nat.le_refl _) _)
    have HM2 : Hid (MksR (w1.heap.size + 1) (w2.alloc (.cells #[.int .i64 0, .int .i64 0] 27)) v2 ms) := hm2.below ((Below.refl _ _).alloc (Nat.le_refl _) _)
    clear hb2 hm2 HM HB1
    go_wp2_with fail
    refine (awake_calls _ (HG.out.below HB2.out)).mono ?_
    rintro e w3 ⟨rfl, hb3⟩
    have hnew := heap_alloc_new w2 (.cells #[.int .i64 0, .int .i64 0] 27)
    have hblk : w3.heap[w2.heap.size]? = some (.cells #[.int .i64 0, .int .i64 0] 27 (0, 0)) := (hb3.block _ (by rw [sz_alloc]; omega)).trans hnew
    have x0 := cell_of_row w3 w2.heap.size 0 _ _ _ hblk
    have x1 := cell_of_row w3 w2.heap.size 1 _ _ _ hblk
    have HM3 : Hid (MksAt w.heap.size w3 v ms) := HM1.out.below hb3
    have HM4 : Hid (MksR (w1.heap.size + 1) w3 v2 ms) := HM2.out.below hb3
    have HB3 : Hid (Below w.heap.size w w3) := below_then HB2.out hb3
    clear hb3 hnew hblk HM1 HM2 HB2
    go_wp2_with fail
    refine (same_callsR _ _ _ _ _ ms HM3.out HM4.out (by have := HBD.out; omega) (fun m hm => by have := (HBD.out.1 m hm).2.1; have := HBD.out; omega)).mono ?_
    rintro e w4 ⟨rfl, hb4⟩
    have hb5 := below_then HB3.out hb4
    go_wp2_with fail
    go_ret
    exact ⟨rfl, hb5⟩
  | error f =>
    obtain ⟨p, c⟩ := f
    have HR := Lib.hid hR
    clear hR
    go_enter Tryz.func3, Tryz.ntmps3
    go_wp2_with fail
    refine (marks_err s _ HG.out hs p c HR.out).mono ?_
    rintro e w1 ⟨rfl, hb1⟩
    have HB1 := Lib.hid hb1
    clear hb1
    go_wp2_with fail
    refine (refMarks_err s _ p c HR.out).mono ?_
    rintro e w2 ⟨v2, rfl, hm2, hb2⟩
    have HB2 : Hid (Below w.heap.size w (w2.alloc (.cells #[.int .i64 p, .int .i64 c] 27))) := (below_then HB1.out hb2).alloc (below_then HB1.out hb2).size _
    have HM2 : Hid (MksR (w1.heap.size + 1) (w2.alloc (.cells #[.int .i64 p, .int .i64 c] 27)) v2 []) := hm2.below ((Below.refl _ _).alloc (Nat.le_refl _) _)
    clear hb2 hm2 HB1
    go_wp2_with fail
    refine (awake_calls _ (HG.out.below HB2.out)).mono ?_
    rintro e w3 ⟨rfl, hb3⟩
    have hnew := heap_alloc_new w2 (.cells #[.int .i64 p, .int .i64 c] 27)
    have hblk : w3.heap[w2.heap.size]? = some (.cells #[.int .i64 p, .int .i64 c] 27 (0, 0)) := (hb3.block _ (by rw [sz_alloc]; omega)).trans hnew
    have x0 := cell_of_row w3 w2.heap.size 0 _ _ _ hblk
    have x1 := cell_of_row w3 w2.heap.size 1 _ _ _ hblk
    have HM4 : Hid (MksR (w1.heap.size + 1) w3 v2 []) := HM2.out.below hb3
    have HB3 : Hid (Below w.heap.size w w3) := below_then HB2.out hb3
    clear hb3 hnew hblk HM2 HB2
    go_wp2_with fail
    refine (same_callsR 0 _ _ _ _ [] (MksAt.nil 0 w3) HM4.out (by simp) (by simp)).mono ?_
    rintro e w4 ⟨rfl, hb4⟩
    have hb5 := below_then HB3.out hb4
    go_wp2_with fail
    go_ret
    exact ⟨rfl, hb5⟩
end Go.Proofs.YtokdclmikllepaaGreatDoor
