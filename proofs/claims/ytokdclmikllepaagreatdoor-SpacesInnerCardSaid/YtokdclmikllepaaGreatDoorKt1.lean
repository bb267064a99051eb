import Derived.Test.YtokdclmikllepaaGreatDoorKt0
import Derived.Test.YtokdclmikllepaaGreatDoorProg
import Derived.WalkKit
import Derived.WalkSpells
import Derived.WalkLawsBesides
import Derived.Lib.Hide
import Derived.Deep.QuietTactic
import Derived.BigQuiet
import Derived.Deep.RegionWith
import Derived.Deep.RegionHeld3
import Derived.Deep.DeepMust
namespace Go.Proofs.YtokdclmikllepaaGreatDoor
open Go.RowKit
set_option linter.unusedVariables false
set_option linter.unusedSimpArgs false

theorem ret_u8 {k : IntKind} {a b : Int} (h : a = b) : Ending.returned (.int k a) = .returned (.int k b) := by rw [h]

def sh (k : Int) : Int := if k = 6 then 64 else if k = 12 then 4096 else 1

set_option maxHeartbeats 400000 in
theorem putTail (k : Int) (r : Int) (b : Nat) (w : World) (h : k = 0 ∨ k = 6 ∨ k = 12) (hr : 0 ≤ r) (hr2 : r ≤ 1114111)
    (hc : w.cell? ⟨b, 0, none⟩ = some (.int .i32 r)) :
    Calls Tryz.prog 117 #[.int .i64 k, .pointer (some ⟨b, 0, none⟩)] w fun e w' => e = .returned (.int .u8 (128 + r / sh k % 64)) ∧ w = w' := by
  rcases h with rfl | rfl | rfl
  all_goals
    go_enter Tryz.func117, Tryz.ntmps117
    go_wp2
    go_ret
    exact ⟨ret_u8 (by simp [sh]), rfl⟩

theorem mk_fn (fn : Fn) (first cap : Array Value) (w : World) : (Instr.makeFunc fn first cap).run Tryz.prog w = .ok (.func fn first cap) w := rfl

/-- Bytes that were just laid, told as a text. -/
theorem conv_new (W : World) (g : Nat) (hg : g = W.heap.size) (xs : List UInt8) (k : Nat) :
    (convert 36 9 (.slice (some ⟨g, 0, none⟩) xs.length xs.length)).run Tryz.prog ((W.alloc (.cells (xs.map fun x => Value.int .u8 (x.toNat : Int)).toArray 5)).drewN k) =
      .ok (.string ⟨xs.toArray⟩) ((W.alloc (.cells (xs.map fun x => Value.int .u8 (x.toNat : Int)).toArray 5)).drewN k) := by
  subst hg
  refine run_convert_bytes_back _ 36 9 5 ⟨W.heap.size, 0, none⟩ xs.length xs Tryz.underlying36 Tryz.underlying5 Tryz.underlying9 (fun j hj => ?_)
  have : ((⟨W.heap.size, 0, none⟩ : Addr).add j) = ⟨W.heap.size, j, none⟩ := by unfold Addr.add; split <;> simp_all
  rw [this]
  have h1 : ((W.alloc (.cells (xs.map fun x => Value.int .u8 (x.toNat : Int)).toArray 5)).drewN k).cell? ⟨W.heap.size, j, none⟩ = (xs.map fun x => Value.int .u8 (x.toNat : Int)).toArray[j]? :=
    cell_of_row (W.alloc _) W.heap.size j _ 5 (0, 0) (heap_alloc_new W _)
  rw [h1]
  simp [hj]

theorem u8_of (x : Int) (h0 : 0 ≤ x) (h1 : x < 256) : ((UInt8.ofNat x.toNat).toNat : Int) = x := by
  simp [UInt8.toNat_ofNat]; omega

theorem conv_2 (W : World) (g : Nat) (hg : g = W.heap.size) (x y : Int) (hx : 0 ≤ x ∧ x < 256) (hy : 0 ≤ y ∧ y < 256) :
    (convert 36 9 (.slice (some ⟨g, 0, none⟩) 2 2)).run Tryz.prog (W.alloc (.cells #[.int .u8 x, .int .u8 y] 5)).drew =
      .ok (.string ⟨#[UInt8.ofNat x.toNat, UInt8.ofNat y.toNat]⟩) (W.alloc (.cells #[.int .u8 x, .int .u8 y] 5)).drew := by
  have := conv_new W g hg [UInt8.ofNat x.toNat, UInt8.ofNat y.toNat] 1
  simp only [List.map, u8_of x hx.1 hx.2, u8_of y hy.1 hy.2] at this
  exact this
theorem conv_3 (W : World) (g : Nat) (hg : g = W.heap.size) (x y z : Int) (hx : 0 ≤ x ∧ x < 256) (hy : 0 ≤ y ∧ y < 256) (hz : 0 ≤ z ∧ z < 256) :
    (convert 36 9 (.slice (some ⟨g, 0, none⟩) 3 3)).run Tryz.prog (W.alloc (.cells #[.int .u8 x, .int .u8 y, .int .u8 z] 5)).drew =
      .ok (.string ⟨#[UInt8.ofNat x.toNat, UInt8.ofNat y.toNat, UInt8.ofNat z.toNat]⟩) (W.alloc (.cells #[.int .u8 x, .int .u8 y, .int .u8 z] 5)).drew := by
  have := conv_new W g hg [UInt8.ofNat x.toNat, UInt8.ofNat y.toNat, UInt8.ofNat z.toNat] 1
  simp only [List.map, u8_of x hx.1 hx.2, u8_of y hy.1 hy.2, u8_of z hz.1 hz.2] at this
  exact this
theorem conv_4 (W : World) (g : Nat) (hg : g = W.heap.size) (x y z u : Int) (hx : 0 ≤ x ∧ x < 256) (hy : 0 ≤ y ∧ y < 256) (hz : 0 ≤ z ∧ z < 256) (hu : 0 ≤ u ∧ u < 256) :
    (convert 36 9 (.slice (some ⟨g, 0, none⟩) 4 4)).run Tryz.prog (W.alloc (.cells #[.int .u8 x, .int .u8 y, .int .u8 z, .int .u8 u] 5)).drew =
      .ok (.string ⟨#[UInt8.ofNat x.toNat, UInt8.ofNat y.toNat, UInt8.ofNat z.toNat, UInt8.ofNat u.toNat]⟩) (W.alloc (.cells #[.int .u8 x, .int .u8 y, .int .u8 z, .int .u8 u] 5)).drew := by
  have := conv_new W g hg [UInt8.ofNat x.toNat, UInt8.ofNat y.toNat, UInt8.ofNat z.toNat, UInt8.ofNat u.toNat] 1
  simp only [List.map, u8_of x hx.1 hx.2, u8_of y hy.1 hy.2, u8_of z hz.1 hz.2, u8_of u hu.1 hu.2] at this
  exact this
theorem conv_1 (W : World) (g : Nat) (hg : g = W.heap.size) (x : Int) (hx : 0 ≤ x ∧ x < 256) :
    (convert 36 9 (.slice (some ⟨g, 0, none⟩) 1 1)).run Tryz.prog (W.alloc (.cells #[.int .u8 x] 5)) =
      .ok (.string ⟨#[UInt8.ofNat x.toNat]⟩) (W.alloc (.cells #[.int .u8 x] 5)) := by
  have := conv_new W g hg [UInt8.ofNat x.toNat] 0
  simp only [List.map, u8_of x hx.1 hx.2] at this
  exact this

theorem sh0 : sh 0 = 1 := rfl
theorem sh6 : sh 6 = 64 := rfl
theorem sh12 : sh 12 = 4096 := rfl

set_option maxHeartbeats 1000000 in
set_option maxRecDepth 100000 in
theorem put_2 (r : Int) (w : World) (h0 : 128 ≤ r) (h1 : r < 2048) :
    Calls Tryz.prog 86 #[.int .i32 r] w fun e w' => e = .returned (.string ⟨(Sp.put r).toArray⟩) ∧ Below w.heap.size w w' := by
  have hfin : Sp.put r = [UInt8.ofNat (192 + r / 64).toNat, UInt8.ofNat (128 + r % 64).toNat] := by
    have : Sp.isRune r = true := by simp [Sp.isRune]; omega
    simp only [Sp.put, Sp.putI, this, if_true]
    rw [if_neg (by omega), if_pos (by omega)]
    rfl
  have HF := Lib.hid hfin
  clear hfin
  have hmf := mk_fn
  have e1 : IntKind.u8.wrap (r / 64) = r / 64 := IntWalk.u8_in _ (by omega)
  have e2 : bits BinOp.or IntKind.u8 192 (r / 64) = 192 + r / 64 := u8_or192 _ (by omega) (by omega)
  have e3 := conv_2 (w.alloc (.cells #[.int .i32 r] 21)) (w.heap.size + 1) (by simp) (192 + r / 64) (128 + r % 64) (by omega) (by omega)
  have e4 := sh0
  go_enter Tryz.func86, Tryz.ntmps86
  go_wp2_with fail
  go_region_with (go_at_call 117; refine (putTail _ r w.heap.size _ ?_ ?_ ?_ ?_).mono ?_; (· omega); (· omega); (· omega); (· simp [go_sem]); rintro e w' ⟨rfl, rfl⟩)
  all_goals
    go_wp2
    go_ret
    exact ⟨by rw [HF.out]; rfl, (((Below.refl _ _).alloc (Nat.le_refl _) _).alloc (by simp) _).drew⟩
set_option maxHeartbeats 2000000 in
set_option maxRecDepth 100000 in
theorem put_3 (r : Int) (w : World) (h0 : 2048 ≤ r) (h1 : r < 65536) (hs : r < 55296 ∨ 57343 < r) :
    Calls Tryz.prog 86 #[.int .i32 r] w fun e w' => e = .returned (.string ⟨(Sp.put r).toArray⟩) ∧ Below w.heap.size w w' := by
  have hfin : Sp.put r = [UInt8.ofNat (224 + r / 4096).toNat, UInt8.ofNat (128 + r / 64 % 64).toNat, UInt8.ofNat (128 + r % 64).toNat] := by
    have : Sp.isRune r = true := by simp [Sp.isRune]; omega
    simp only [Sp.put, Sp.putI, this, if_true]
    rw [if_neg (by omega), if_neg (by omega), if_pos (by omega)]
    rfl
  have HF := Lib.hid hfin
  clear hfin
  have hmf := mk_fn
  have e1 : IntKind.u8.wrap (r / 4096) = r / 4096 := IntWalk.u8_in _ (by omega)
  have e2 : bits BinOp.or IntKind.u8 224 (r / 4096) = 224 + r / 4096 := u8_or224 _ (by omega) (by omega)
  have e3 := conv_3 (w.alloc (.cells #[.int .i32 r] 21)) (w.heap.size + 1) (by simp) (224 + r / 4096) (128 + r / 64 % 64) (128 + r % 64) (by omega) (by omega) (by omega)
  have e4 := sh0
  have e5 := sh6
  rcases hs with hs | hs
  all_goals
    go_enter Tryz.func86, Tryz.ntmps86
    go_wp2_with fail
    go_region_with (go_at_call 117; refine (putTail _ r w.heap.size _ ?_ ?_ ?_ ?_).mono ?_; (· omega); (· omega); (· omega); (· simp [go_sem]); rintro e w' ⟨rfl, rfl⟩)
    all_goals
      go_wp2
      go_ret
      exact ⟨by rw [HF.out]; rfl, (((Below.refl _ _).alloc (Nat.le_refl _) _).alloc (by simp) _).drew⟩

set_option maxHeartbeats 2000000 in
set_option maxRecDepth 100000 in
theorem put_4 (r : Int) (w : World) (h0 : 65536 ≤ r) (h1 : r ≤ 1114111) (hs : 57343 < r ∨ False) :
    Calls Tryz.prog 86 #[.int .i32 r] w fun e w' => e = .returned (.string ⟨(Sp.put r).toArray⟩) ∧ Below w.heap.size w w' := by
  have hfin : Sp.put r = [UInt8.ofNat (240 + r / 262144).toNat, UInt8.ofNat (128 + r / 4096 % 64).toNat, UInt8.ofNat (128 + r / 64 % 64).toNat, UInt8.ofNat (128 + r % 64).toNat] := by
    have : Sp.isRune r = true := by simp [Sp.isRune]; omega
    simp only [Sp.put, Sp.putI, this, if_true]
    rw [if_neg (by omega), if_neg (by omega), if_neg (by omega)]
    rfl
  have HF := Lib.hid hfin
  clear hfin
  have hmf := mk_fn
  have e1 : IntKind.u8.wrap (r / 262144) = r / 262144 := IntWalk.u8_in _ (by omega)
  have e2 : bits BinOp.or IntKind.u8 240 (r / 262144) = 240 + r / 262144 := u8_or240 _ (by omega) (by omega)
  have e3 := conv_4 (w.alloc (.cells #[.int .i32 r] 21)) (w.heap.size + 1) (by simp) (240 + r / 262144) (128 + r / 4096 % 64) (128 + r / 64 % 64) (128 + r % 64) (by omega) (by omega) (by omega) (by omega)
  have e4 := sh0
  have e5 := sh6
  have e6 := sh12
  rcases hs with hs | hs
  case inr => exact hs.elim
  all_goals
    go_enter Tryz.func86, Tryz.ntmps86
    go_wp2_with fail
    go_region_with (go_at_call 117; refine (putTail _ r w.heap.size _ ?_ ?_ ?_ ?_).mono ?_; (· omega); (· omega); (· omega); (· simp [go_sem]); rintro e w' ⟨rfl, rfl⟩)
    all_goals
      go_wp2
      go_ret
      exact ⟨by rw [HF.out]; rfl, (((Below.refl _ _).alloc (Nat.le_refl _) _).alloc (by simp) _).drew⟩

set_option maxHeartbeats 2000000 in
set_option maxRecDepth 100000 in
theorem put_1 (r : Int) (w : World) (h0 : 0 ≤ r) (h1 : r < 128) :
    Calls Tryz.prog 86 #[.int .i32 r] w fun e w' => e = .returned (.string ⟨(Sp.put r).toArray⟩) ∧ Below w.heap.size w w' := by
  have hfin : Sp.put r = [UInt8.ofNat r.toNat] := by
    have : Sp.isRune r = true := by simp [Sp.isRune]; omega
    simp only [Sp.put, Sp.putI, this, if_true]
    rw [if_pos (by omega)]
    rfl
  have HF := Lib.hid hfin
  clear hfin
  have hmf := mk_fn
  have e3 := conv_1 (w.alloc (.cells #[.int .i32 r] 21)) (w.heap.size + 1) (by simp) r (by omega)
  go_enter Tryz.func86, Tryz.ntmps86
  go_wp2_with fail
  go_ret
  exact ⟨by rw [HF.out]; rfl, ((Below.refl _ _).alloc (Nat.le_refl _) _).alloc (by simp) _⟩

set_option maxHeartbeats 2000000 in
set_option maxRecDepth 100000 in
theorem put_0 (r : Int) (w : World) (hs : r < 0 ∨ 1114111 < r ∨ (55296 ≤ r ∧ r ≤ 57343)) :
    Calls Tryz.prog 86 #[.int .i32 r] w fun e w' => e = .returned (.string ⟨(Sp.put r).toArray⟩) ∧ Below w.heap.size w w' := by
  have hfin : Sp.put r = [] := by
    have : Sp.isRune r = false := by simp [Sp.isRune]; omega
    simp [Sp.put, Sp.putI, this]
  have HF := Lib.hid hfin
  clear hfin
  have hmf := mk_fn
  rcases hs with hs | hs | ⟨hs, hs2⟩
  all_goals
    go_enter Tryz.func86, Tryz.ntmps86
    go_wp2_with fail
    all_goals
      go_ret
      exact ⟨by rw [HF.out]; rfl, (Below.refl _ _).alloc (Nat.le_refl _) _⟩

theorem put_calls (r : Int) (w : World) :
    Calls Tryz.prog 86 #[.int .i32 r] w fun e w' => e = .returned (.string ⟨(Sp.put r).toArray⟩) ∧ Below w.heap.size w w' := by
  by_cases h : r < 0 ∨ 1114111 < r ∨ (55296 ≤ r ∧ r ≤ 57343)
  · exact put_0 r w h
  by_cases h1 : r < 128
  · exact put_1 r w (by omega) h1
  by_cases h2 : r < 2048
  · exact put_2 r w (by omega) h2
  by_cases h3 : r < 65536
  · exact put_3 r w (by omega) h3 (by omega)
  · exact put_4 r w (by omega) (by omega) (.inl (by omega))

end Go.Proofs.YtokdclmikllepaaGreatDoor
