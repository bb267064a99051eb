import Derived.Test.YtokdclmikllepaaGreatDoorMf30
import Derived.Test.YtokdclmikllepaaGreatDoorMf37
import Derived.Test.YtokdclmikllepaaGreatDoorMf40
import Derived.Test.YtokdclmikllepaaGreatDoorMf41
namespace Go.Proofs.YtokdclmikllepaaGreatDoor
open Go.RowKit
set_option linter.unusedVariables false
set_option linter.unusedSimpArgs false

theorem bs_append (x y : List UInt8) : (⟨x.toArray⟩ : ByteArray) ++ ⟨y.toArray⟩ = ⟨(x ++ y).toArray⟩ := by
  have := ByteArray.data_append (l := ⟨x.toArray⟩) (l' := ⟨y.toArray⟩)
  exact ByteArray.ext (by rw [this]; simp)
theorem mk_size (l : List UInt8) : (⟨l.toArray⟩ : ByteArray).size = l.length := by simp [ByteArray.size]

theorem hexD_ext : ∀ n, n < 16 → (⟨#[48, 49, 50, 51, 52, 53, 54, 55, 56, 57, 97, 66, 99, 68, 101, 70]⟩ : ByteArray).extract n (n + 1) = ⟨[hexD n].toArray⟩ := by decide

theorem hex_f : ∀ (k n : Nat), n < 4294967296 → n + 1 < k → YtokdclmikllepaaGreatDoorP.pavanelaw08_hex.f k (n : Int) = some ⟨(hexL n).toArray⟩ := by
  intro k
  induction k with
  | zero => intro n hn hk; omega
  | succ k ih =>
    intro n hn hk
    rw [YtokdclmikllepaaGreatDoorP.pavanelaw08_hex.f]
    by_cases h : n < 16
    · have e0 : ((n : Int) + 1) % 4294967296 = ((n + 1 : Nat) : Int) := by omega
      rw [if_pos (by omega), if_pos (by omega), e0, if_pos (by omega), if_pos (by omega)]
      unfold hexL
      rw [dif_pos h]
      congr 1
      exact hexD_ext n h
    · have e1 : Int.tdiv (n : Int) 16 % 4294967296 = ((n / 16 : Nat) : Int) := by
        rw [Int.tdiv_eq_ediv_of_nonneg (by omega)]; omega
      have e2 : Int.tmod (n : Int) 16 = ((n % 16 : Nat) : Int) := by
        rw [Int.tmod_eq_emod_of_nonneg (by omega)]; omega
      rw [if_neg (by omega), e1, e2, ih (n / 16) (by omega) (by omega), ih (n % 16) (by omega) (by omega)]
      simp only [Option.bind_some]
      have hl := hexL_len 7 (n / 16) (by omega)
      have h2 : hexL (n % 16) = [hexD (n % 16)] := by unfold hexL; rw [dif_pos (by omega)]
      rw [h2, mk_size, mk_size, if_pos (by simp only [List.length_cons, List.length_nil]; omega), bs_append]
      conv => rhs; unfold hexL
      rw [dif_neg h]

theorem hex_calls (n : Nat) (w : World) (hn : n < 4294967296) :
    Calls Tryz.prog 21 #[.int .u32 n] w fun e w' => e = .returned (.string ⟨(hexL n).toArray⟩) ∧ Below w.heap.size w w' :=
  (YtokdclmikllepaaGreatDoorP.pavanelaw08_hex.calls (n + 2) (n : Int) _ w (hex_f (n + 2) n hn (by omega))).mono fun e w' h => ⟨h.1, h.2.below⟩

theorem OwnB.below2 {base : Nat} {w w' : World} {v : Value} {l : List UInt8} (h : OwnB base w v l) (hb : Below w.heap.size w w') : OwnB base w' v l := by
  refine World.ownsRow.kept h (row := none) ⟨hb.os, hb.tape, hb.output, hb.size, fun i hi _ => hb.block i hi⟩ ?_
  cases hv : v.ownBlock <;> simp

set_option maxHeartbeats 4000000 in
set_option maxRecDepth 100000 in
theorem decimal_any : ∀ (k n : Nat) (w : World), n < k → n < 4294967296 →
    Calls Tryz.prog 20 #[.int .u32 n] w fun e w' => e = .returned (.string ⟨(decL n).toArray⟩) ∧ Below w.heap.size w w' := by
  intro k
  induction k with
  | zero => intro n w hk hn; omega
  | succ k ih =>
    intro n w hk hn
    by_cases h : n < 10
    · have hd : decide ((n : Int) < 10) = true := by simp; omega
      obtain ⟨c, hcn⟩ : ∃ c, UInt8.ofNat (48 + n) = c := ⟨_, rfl⟩
      have hct : 48 + (n : Int) = (c.toNat : Int) := by rw [← hcn]; simp; omega
      have hL : decL n = [c] := by unfold decL; rw [dif_pos h, hcn]
      have hc := (OwnB.one w.heap.size w c (48 + (n : Int)) hct (Nat.le_refl _)).conv
      rw [hL]
      have h0 : (0 : Int) ≤ n := by omega
      have h1 : (n : Int) < 10 := by omega
      clear hL hk hn hcn hct
      go_enter Tryz.func20, Tryz.ntmps20
      go_wp2_with fail
      go_ret
      exact ⟨rfl, (Below.refl _ _).alloc (Nat.le_refl _) _⟩
    · have hd : decide ((n : Int) < 10) = false := by simp; omega
      obtain ⟨c, hcn⟩ : ∃ c, UInt8.ofNat (48 + n % 10) = c := ⟨_, rfl⟩
      have hct : ((48 + n % 10 : Nat) : Int) = (c.toNat : Int) := by rw [← hcn]; simp; omega
      have hL : decL n = decL (n / 10) ++ [c] := by
        conv => lhs; unfold decL
        rw [dif_neg h, hcn]
      have hlen := decL_len 9 (n / 10) (by omega)
      obtain ⟨m, hm⟩ : ∃ m, n / 10 = m := ⟨_, rfl⟩
      obtain ⟨r, hr⟩ : ∃ r, n % 10 = r := ⟨_, rfl⟩
      have hr9 : r < 10 := by omega
      have hm9 : m < 4294967296 := by omega
      have hmk : m < k := by omega
      have e1 : Int.tdiv (n : Int) 10 = (m : Int) := by rw [Int.tdiv_eq_ediv_of_nonneg (by omega)]; omega
      have e2 : Int.tmod (n : Int) 10 = (r : Int) := by rw [Int.tmod_eq_emod_of_nonneg (by omega)]; omega
      rw [hm] at hL hlen
      rw [hr] at hct
      clear hcn hm hr hk hn
      have e3 : IntKind.u32.wrap (m : Int) = (m : Int) := by simp [IntKind.wrap, IntKind.signed, IntKind.bits]; omega
      have e4 : IntKind.u8.wrap (r : Int) = (r : Int) := by simp [IntKind.wrap, IntKind.signed, IntKind.bits]; omega
      have e5 : IntKind.u8.wrap (48 + (r : Int)) = 48 + (r : Int) := by simp [IntKind.wrap, IntKind.signed, IntKind.bits]; omega
      have hct2 : 48 + (r : Int) = (c.toNat : Int) := by omega
      have hsz : (⟨(decL m).toArray⟩ : ByteArray).size ≤ 100 := by rw [mk_size]; omega
      obtain ⟨d, hdm⟩ : ∃ d, (⟨(decL m).toArray⟩ : ByteArray) = d := ⟨_, rfl⟩
      rw [hdm] at hsz
      have hfin : (⟨(decL n).toArray⟩ : ByteArray) = d ++ ⟨[c].toArray⟩ := by rw [hL, ← hdm, bs_append]
      rw [hfin]
      have hih : ∀ w, Calls Tryz.prog 20 #[.int .u32 m] w fun e w' => e = .returned (.string d) ∧ Below w.heap.size w w' := fun w => hdm ▸ ih m w hmk hm9
      have HIH := Lib.hid hih
      have hc : ∀ W : World, (convert 36 9 (.slice (some ⟨W.heap.size, 0, none⟩) 1 1)).run Tryz.prog (W.alloc (.cells #[.int .u8 (48 + (r : Int))] 5)) = .ok (.string ⟨[c].toArray⟩) (W.alloc (.cells #[.int .u8 (48 + (r : Int))] 5)) :=
        fun W => (OwnB.one W.heap.size W c _ hct2 (Nat.le_refl _)).conv
      have hcd : ∀ W : World, (convert 36 9 (.slice (some ⟨W.heap.size, 0, none⟩) 1 1)).run Tryz.prog (W.alloc (.cells #[.int .u8 (48 + (r : Int))] 5)).drew = .ok (.string ⟨[c].toArray⟩) (W.alloc (.cells #[.int .u8 (48 + (r : Int))] 5)).drew :=
        fun W => OwnB.conv (w := (W.alloc (.cells #[.int .u8 (48 + (r : Int))] 5)).drew) (OwnB.one W.heap.size W c _ hct2 (Nat.le_refl _))
      have HOW : Hid (∀ W w1 : World, Below (W.alloc (.cells #[.int .u8 (48 + (r : Int))] 5)).heap.size (W.alloc (.cells #[.int .u8 (48 + (r : Int))] 5)) w1 → (convert 36 9 (.slice (some ⟨W.heap.size, 0, none⟩) 1 1)).run Tryz.prog w1 = .ok (.string ⟨[c].toArray⟩) w1) :=
        fun W w1 hb => ((OwnB.one W.heap.size W c _ hct2 (Nat.le_refl _)).below2 hb).conv
      have HOWd : Hid (∀ W w1 : World, Below (W.alloc (.cells #[.int .u8 (48 + (r : Int))] 5)).drew.heap.size (W.alloc (.cells #[.int .u8 (48 + (r : Int))] 5)).drew w1 → (convert 36 9 (.slice (some ⟨W.heap.size, 0, none⟩) 1 1)).run Tryz.prog w1 = .ok (.string ⟨[c].toArray⟩) w1) :=
        fun W w1 hb => (OwnB.below2 (w := (W.alloc (.cells #[.int .u8 (48 + (r : Int))] 5)).drew) (OwnB.one W.heap.size W c _ hct2 (Nat.le_refl _)) hb).conv
      have hr0 : (0 : Int) ≤ r := by omega
      have hr1 : (r : Int) < 10 := by omega
      clear ih hL hlen hdm hfin hih hct hct2 hr9 hm9 hmk
      go_enter Tryz.func20, Tryz.ntmps20
      go_wp2_with fail
      go_region_with (first
        | (go_at_call 20
           refine (HIH.out _).mono ?_
           rintro e w1 ⟨rfl, hb1⟩
           first | have hc2 := HOWd.out _ _ hb1 | have hc2 := HOW.out _ _ hb1 | skip))
      all_goals
        go_wp2_with fail
        go_ret
        refine ⟨rfl, ?_⟩
        first
          | exact (((Below.refl _ _).alloc (Nat.le_refl _) _).drew).trans (hb1.mono (by show w.heap.size ≤ (World.alloc _ _).heap.size; rw [sz_alloc]; omega))
          | exact ((Below.refl _ _).drew.trans hb1).alloc (by first | exact hb1.size | exact Nat.le_trans (Nat.le_refl _) hb1.size) _
end Go.Proofs.YtokdclmikllepaaGreatDoor
