import Derived.Test.YtokdclmikllepaaGreatDoorKt1
import Derived.Lib.ConvBytes
import Derived.Lib.Strings
import Derived.LoopTactic
namespace Go.Proofs.YtokdclmikllepaaGreatDoor
open Go.RowKit
set_option linter.unusedVariables false
set_option linter.unusedSimpArgs false

/-- A text's bytes. -/
abbrev L (s : ByteArray) : List UInt8 := s.data.toList

theorem L_length (s : ByteArray) : (L s).length = s.size := by simp [L]
theorem L_get (s : ByteArray) (p : Nat) (h : p < s.size) : (L s)[p]? = some s[p] := by
  rw [List.getElem?_eq_getElem (by rw [L_length]; exact h)]; rfl
theorem L_drop (s : ByteArray) (p : Nat) (h : p < s.size) : (L s).drop p = s[p] :: (L s).drop (p + 1) := by
  rw [List.drop_eq_getElem_cons (by rw [L_length]; exact h)]; rfl
theorem L_extract (s : ByteArray) (a b : Nat) : L (s.extract a b) = ((L s).drop a).take (b - a) := by
  simp [L, Lib.extract_data]

theorem cont_bits (c : UInt8) : (bits BinOp.and IntKind.u8 (c.toNat : Int) 192 != 128) = !Sp.contB c := by
  have h : ∀ n : Fin 256, (bits BinOp.and IntKind.u8 ((n : Nat) : Int) 192 != 128) = !(decide (128 ≤ (n : Nat)) && decide ((n : Nat) < 192)) := by decide +kernel
  exact h ⟨c.toNat, c.toNat_lt⟩

theorem foldR_snoc (r : Int) (l : List UInt8) (c : UInt8) : Sp.foldR r (l ++ [c]) = Sp.foldR r l * 64 + ((c.toNat : Int) - 128) := by
  simp [Sp.foldR]

theorem foldR_bd (r : Int) (m : Int) (l : List UInt8) (h0 : 0 ≤ r) (hm : r ≤ m) (hl : l.all Sp.contB = true) : 0 ≤ Sp.foldR r l ∧ Sp.foldR r l < (m + 1) * 64 ^ l.length := by
  induction l generalizing r m with
  | nil => simp [Sp.foldR]; omega
  | cons c l ih =>
    simp only [List.all_cons, Bool.and_eq_true] at hl
    have hc := hl.1
    simp only [Sp.contB, Bool.and_eq_true, decide_eq_true_eq] at hc
    have := ih (r * 64 + ((c.toNat : Int) - 128)) (m * 64 + 63) (by omega) (by omega) hl.2
    refine ⟨this.1, ?_⟩
    have h2 := this.2
    simp only [Sp.foldR, List.foldl_cons, List.length_cons] at h2 ⊢
    have e : ∀ q : Int, (m + 1) * (q * 64) = (m * 64 + 63 + 1) * q := fun q => by
      rw [Int.mul_comm q 64, ← Int.mul_assoc, Int.add_mul m 1 64, Int.one_mul, Int.add_assoc]; rfl
    rw [Int.pow_succ, e]
    exact h2

theorem take_all {l : List UInt8} {k : Nat} {c : UInt8} (hk : l[k]? = some c) (h : (l.take k).all Sp.contB = true) (hc : Sp.contB c = true) : (l.take (k + 1)).all Sp.contB = true := by
  rw [List.take_add_one, hk]; simp only [Option.toList, List.all_append, h, List.all_cons, hc, List.all_nil, Bool.and_self]
theorem take_fold {l : List UInt8} {k : Nat} {c : UInt8} (r : Int) (hk : l[k]? = some c) : Sp.foldR r (l.take (k + 1)) = Sp.foldR r (l.take k) * 64 + ((c.toNat : Int) - 128) := by
  rw [List.take_add_one, hk, Option.toList, foldR_snoc]
theorem not_all {l : List UInt8} {k : Nat} {c : UInt8} (hk : l[k]? = some c) (hc : Sp.contB c = false) : l.all Sp.contB = false := by
  rw [Bool.eq_false_iff]
  intro h
  have := List.all_eq_true.1 h c (List.mem_of_getElem? hk)
  rw [hc] at this; cases this

theorem below_then {w w1 w2 : World} (h : Below w.heap.size w w1) (k : Below w1.heap.size w1 w2) : Below w.heap.size w w2 := h.trans (k.mono h.size)

theorem put_len (r : Int) : (Sp.put r).length = (Sp.putI r).length := by simp [Sp.put]

set_option maxHeartbeats 2000000 in
set_option maxRecDepth 100000 in
theorem next_2 (s : ByteArray) (p : Nat) (w : World) (hp : p < s.size) (hs : s.size ≤ 140737488351232) (h0 : 192 ≤ s[p].toNat) (h1 : s[p].toNat < 224) (hn : p + 2 ≤ s.size) :
    Calls Tryz.prog 85 #[.string s, .int .i64 p] w fun e w' => e = .returned (.tuple #[.int .i32 (Sp.tailR 2 ((s[p].toNat : Int) - 192) ((L s).drop (p + 1))).1, .int .i64 (Sp.tailR 2 ((s[p].toNat : Int) - 192) ((L s).drop (p + 1))).2]) ∧ Below w.heap.size w w' := by
  have hcv := fun (W : World) (x : ByteArray) => Lib.run_convert_string_bytes (P := Tryz.prog) W 9 36 5 x Tryz.underlying9 Tryz.underlying36 Tryz.underlying5
  obtain ⟨l, hl⟩ : ∃ l, ((L s).drop (p + 1)).take 1 = l := ⟨_, rfl⟩
  have hll : l.length = 1 := by rw [← hl]; simp; omega
  have hx : L (s.extract (p + 1) (p + 2)) = l := by rw [L_extract, ← hl]; congr 1; omega
  have hxs : (s.extract (p + 1) (p + 2)).size = 1 := by rw [← L_length, hx, hll]
  have htail : Sp.tailR 2 ((s[p].toNat : Int) - 192) ((L s).drop (p + 1)) = if l.all Sp.contB = true then if (Sp.putI (Sp.foldR ((s[p].toNat : Int) - 192) l)).length = 2 then (Sp.foldR ((s[p].toNat : Int) - 192) l, 2) else (0, 0) else (0, 0) := by
    have hlen : ¬ ((L s).drop (p + 1)).length < 1 := by simp; omega
    unfold Sp.tailR
    rw [if_neg hlen, show 2 - 1 = 1 from rfl, hl]
  have hcell : ∀ k, k < 1 → ∃ c, l[k]? = some c ∧ (Lib.bytesWorld w 5 (s.extract (p + 1) (p + 2))).cell? ⟨w.heap.size, k, none⟩ = some (.int .u8 (c.toNat : Int)) := fun k hk => by
    refine ⟨l[k]'(by omega), List.getElem?_eq_getElem (by omega), ?_⟩
    rw [Lib.bytesWorld_cell _ _ _ _ (by omega), show (s.extract (p + 1) (p + 2)).data.toList = l from hx, List.getD_eq_getElem?_getD, List.getElem?_eq_getElem (by omega)]
    rfl
  have HT := Lib.hid htail
  have HX := Lib.hid hxs
  have HL := Lib.hid hll
  have HCE := Lib.hid hcell
  have hbw : Below w.heap.size w (Lib.bytesWorld w 5 (s.extract (p + 1) (p + 2))) :=
    ⟨rfl, rfl, rfl, by rw [Lib.bytesWorld_size]; omega, fun i hi => Lib.bytesWorld_at_old w _ _ i hi⟩
  have hx1 : (s.extract (p + 1) (p + 2)).size ≤ 1 := by omega
  have hx2 : 1 ≤ (s.extract (p + 1) (p + 2)).size := by omega
  clear htail hxs hll hcell hl hx
  go_enter Tryz.func85, Tryz.ntmps85
  go_wp2_with fail
  go_loop [6, 63] (fun r i => ∃ k : Nat, k ≤ 1 ∧ i = .int .i64 k ∧ r = .int .i32 (Sp.foldR ((s[p].toNat : Int) - 192) (l.take k)) ∧ (l.take k).all Sp.contB = true) (fun _ i => 1 - (intOf i).toNat)
  case atStart => exact ⟨0, Nat.zero_le _, rfl, by simp [Sp.foldR]; omega, rfl⟩
  case round =>
    obtain ⟨k, hk, rfl, rfl, hall⟩ := hrel
    have HA := Lib.hid hall
    clear hall
    by_cases hlt : k < 1
    · obtain ⟨c, hc1, hc2⟩ := HCE.out k hlt
      have hbd := foldR_bd ((s[p].toNat : Int) - 192) 31 (l.take k) (by omega) (by omega) HA.out
      have hlk : (l.take k).length = k := by rw [List.length_take, HL.out]; omega
      rw [hlk] at hbd
      have hb0 := hbd.1
      have hb1 : Sp.foldR ((s[p].toNat : Int) - 192) (l.take k) < 32 := by
        refine Int.lt_of_lt_of_le hbd.2 ?_
        have : k = 0 ∨ k = 1 ∨ k = 2 := by omega
        rcases this with rfl | rfl | rfl <;> first | decide | omega
      have HB := Lib.hid (cont_bits c)
      have H1 := Lib.hid hc1
      have hcu : c.toNat < 256 := c.toNat_lt
      clear hbd hlk hc1
      by_cases hcc : Sp.contB c = true
      · have hcb : (bits BinOp.and IntKind.u8 (c.toNat : Int) 192 != 128) = false := by rw [HB.out, hcc]; rfl
        have hcr := hcc
        simp only [Sp.contB, Bool.and_eq_true, decide_eq_true_eq] at hcr
        have hcr1 := hcr.1
        have hcr2 := hcr.2
        have HCC := Lib.hid hcc
        clear hcc hcr
        go_wp2
        go_round
        case rel => exact ⟨k + 1, by omega, by go_num, by rw [take_fold _ H1.out]; refine congrArg _ ?_; omega, take_all H1.out HA.out HCC.out⟩
        case measure => simp [intOf]; omega
      · have hcf : Sp.contB c = false := by simpa using hcc
        have hcb : (bits BinOp.and IntKind.u8 (c.toNat : Int) 192 != 128) = true := by rw [HB.out, hcf]; rfl
        have HCC := Lib.hid hcf
        clear hcc hcf
        go_wp2
        go_ret2
        exact ⟨by rw [HT.out, not_all H1.out HCC.out]; rfl, hbw⟩
    · have hkk : k = 1 := by omega
      subst hkk
      have htk : l.take 1 = l := List.take_of_length_le (by rw [HL.out]; omega)
      rw [htk] at HA
      rw [htk]
      have HTK := Lib.hid htk
      clear htk
      by_cases hput : (Sp.putI (Sp.foldR ((s[p].toNat : Int) - 192) l)).length = 2
      · have hsz : (((Sp.put (Sp.foldR ((s[p].toNat : Int) - 192) l)).length : Int) != 2) = false := by rw [put_len, hput]; rfl
        have HP := Lib.hid hput
        clear hput
        go_wp2_with (go_at_call 86; refine (put_calls _ _).mono ?_; rintro e w' ⟨rfl, hb⟩)
        go_ret2
        exact ⟨by rw [HT.out, HA.out, if_pos rfl, if_pos HP.out]; rfl, below_then hbw hb⟩
      · have hsz : (((Sp.put (Sp.foldR ((s[p].toNat : Int) - 192) l)).length : Int) != 2) = true := by rw [put_len, bne_iff_ne]; omega
        have HP := Lib.hid hput
        clear hput
        go_wp2_with (go_at_call 86; refine (put_calls _ _).mono ?_; rintro e w' ⟨rfl, hb⟩)
        go_ret2
        exact ⟨by rw [HT.out, HA.out, if_pos rfl, if_neg HP.out]; rfl, below_then hbw hb⟩

set_option maxHeartbeats 2000000 in
set_option maxRecDepth 100000 in
theorem next_3 (s : ByteArray) (p : Nat) (w : World) (hp : p < s.size) (hs : s.size ≤ 140737488351232) (h0 : 224 ≤ s[p].toNat) (h1 : s[p].toNat < 240) (hn : p + 3 ≤ s.size) :
    Calls Tryz.prog 85 #[.string s, .int .i64 p] w fun e w' => e = .returned (.tuple #[.int .i32 (Sp.tailR 3 ((s[p].toNat : Int) - 224) ((L s).drop (p + 1))).1, .int .i64 (Sp.tailR 3 ((s[p].toNat : Int) - 224) ((L s).drop (p + 1))).2]) ∧ Below w.heap.size w w' := by
  have hcv := fun (W : World) (x : ByteArray) => Lib.run_convert_string_bytes (P := Tryz.prog) W 9 36 5 x Tryz.underlying9 Tryz.underlying36 Tryz.underlying5
  obtain ⟨l, hl⟩ : ∃ l, ((L s).drop (p + 1)).take 2 = l := ⟨_, rfl⟩
  have hll : l.length = 2 := by rw [← hl]; simp; omega
  have hx : L (s.extract (p + 1) (p + 3)) = l := by rw [L_extract, ← hl]; congr 1; omega
  have hxs : (s.extract (p + 1) (p + 3)).size = 2 := by rw [← L_length, hx, hll]
  have htail : Sp.tailR 3 ((s[p].toNat : Int) - 224) ((L s).drop (p + 1)) = if l.all Sp.contB = true then if (Sp.putI (Sp.foldR ((s[p].toNat : Int) - 224) l)).length = 3 then (Sp.foldR ((s[p].toNat : Int) - 224) l, 3) else (0, 0) else (0, 0) := by
    have hlen : ¬ ((L s).drop (p + 1)).length < 2 := by simp; omega
    unfold Sp.tailR
    rw [if_neg hlen, show 3 - 1 = 2 from rfl, hl]
  have hcell : ∀ k, k < 2 → ∃ c, l[k]? = some c ∧ (Lib.bytesWorld w 5 (s.extract (p + 1) (p + 3))).cell? ⟨w.heap.size, k, none⟩ = some (.int .u8 (c.toNat : Int)) := fun k hk => by
    refine ⟨l[k]'(by omega), List.getElem?_eq_getElem (by omega), ?_⟩
    rw [Lib.bytesWorld_cell _ _ _ _ (by omega), show (s.extract (p + 1) (p + 3)).data.toList = l from hx, List.getD_eq_getElem?_getD, List.getElem?_eq_getElem (by omega)]
    rfl
  have HT := Lib.hid htail
  have HX := Lib.hid hxs
  have HL := Lib.hid hll
  have HCE := Lib.hid hcell
  have hbw : Below w.heap.size w (Lib.bytesWorld w 5 (s.extract (p + 1) (p + 3))) :=
    ⟨rfl, rfl, rfl, by rw [Lib.bytesWorld_size]; omega, fun i hi => Lib.bytesWorld_at_old w _ _ i hi⟩
  have hx1 : (s.extract (p + 1) (p + 3)).size ≤ 2 := by omega
  have hx2 : 2 ≤ (s.extract (p + 1) (p + 3)).size := by omega
  clear htail hxs hll hcell hl hx
  go_enter Tryz.func85, Tryz.ntmps85
  go_wp2_with fail
  go_loop [6, 63] (fun r i => ∃ k : Nat, k ≤ 2 ∧ i = .int .i64 k ∧ r = .int .i32 (Sp.foldR ((s[p].toNat : Int) - 224) (l.take k)) ∧ (l.take k).all Sp.contB = true) (fun _ i => 2 - (intOf i).toNat)
  case atStart => exact ⟨0, Nat.zero_le _, rfl, by simp [Sp.foldR]; omega, rfl⟩
  case round =>
    obtain ⟨k, hk, rfl, rfl, hall⟩ := hrel
    have HA := Lib.hid hall
    clear hall
    by_cases hlt : k < 2
    · obtain ⟨c, hc1, hc2⟩ := HCE.out k hlt
      have hbd := foldR_bd ((s[p].toNat : Int) - 224) 15 (l.take k) (by omega) (by omega) HA.out
      have hlk : (l.take k).length = k := by rw [List.length_take, HL.out]; omega
      rw [hlk] at hbd
      have hb0 := hbd.1
      have hb1 : Sp.foldR ((s[p].toNat : Int) - 224) (l.take k) < 1024 := by
        refine Int.lt_of_lt_of_le hbd.2 ?_
        have : k = 0 ∨ k = 1 ∨ k = 2 := by omega
        rcases this with rfl | rfl | rfl <;> first | decide | omega
      have HB := Lib.hid (cont_bits c)
      have H1 := Lib.hid hc1
      have hcu : c.toNat < 256 := c.toNat_lt
      clear hbd hlk hc1
      by_cases hcc : Sp.contB c = true
      · have hcb : (bits BinOp.and IntKind.u8 (c.toNat : Int) 192 != 128) = false := by rw [HB.out, hcc]; rfl
        have hcr := hcc
        simp only [Sp.contB, Bool.and_eq_true, decide_eq_true_eq] at hcr
        have hcr1 := hcr.1
        have hcr2 := hcr.2
        have HCC := Lib.hid hcc
        clear hcc hcr
        go_wp2
        go_round
        case rel => exact ⟨k + 1, by omega, by go_num, by rw [take_fold _ H1.out]; refine congrArg _ ?_; omega, take_all H1.out HA.out HCC.out⟩
        case measure => simp [intOf]; omega
      · have hcf : Sp.contB c = false := by simpa using hcc
        have hcb : (bits BinOp.and IntKind.u8 (c.toNat : Int) 192 != 128) = true := by rw [HB.out, hcf]; rfl
        have HCC := Lib.hid hcf
        clear hcc hcf
        go_wp2
        go_ret2
        exact ⟨by rw [HT.out, not_all H1.out HCC.out]; rfl, hbw⟩
    · have hkk : k = 2 := by omega
      subst hkk
      have htk : l.take 2 = l := List.take_of_length_le (by rw [HL.out]; omega)
      rw [htk] at HA
      rw [htk]
      have HTK := Lib.hid htk
      clear htk
      by_cases hput : (Sp.putI (Sp.foldR ((s[p].toNat : Int) - 224) l)).length = 3
      · have hsz : (((Sp.put (Sp.foldR ((s[p].toNat : Int) - 224) l)).length : Int) != 3) = false := by rw [put_len, hput]; rfl
        have HP := Lib.hid hput
        clear hput
        go_wp2_with (go_at_call 86; refine (put_calls _ _).mono ?_; rintro e w' ⟨rfl, hb⟩)
        go_ret2
        exact ⟨by rw [HT.out, HA.out, if_pos rfl, if_pos HP.out]; rfl, below_then hbw hb⟩
      · have hsz : (((Sp.put (Sp.foldR ((s[p].toNat : Int) - 224) l)).length : Int) != 3) = true := by rw [put_len, bne_iff_ne]; omega
        have HP := Lib.hid hput
        clear hput
        go_wp2_with (go_at_call 86; refine (put_calls _ _).mono ?_; rintro e w' ⟨rfl, hb⟩)
        go_ret2
        exact ⟨by rw [HT.out, HA.out, if_pos rfl, if_neg HP.out]; rfl, below_then hbw hb⟩

set_option maxHeartbeats 2000000 in
set_option maxRecDepth 100000 in
theorem next_4 (s : ByteArray) (p : Nat) (w : World) (hp : p < s.size) (hs : s.size ≤ 140737488351232) (h0 : 240 ≤ s[p].toNat) (h1 : s[p].toNat < 248) (hn : p + 4 ≤ s.size) :
    Calls Tryz.prog 85 #[.string s, .int .i64 p] w fun e w' => e = .returned (.tuple #[.int .i32 (Sp.tailR 4 ((s[p].toNat : Int) - 240) ((L s).drop (p + 1))).1, .int .i64 (Sp.tailR 4 ((s[p].toNat : Int) - 240) ((L s).drop (p + 1))).2]) ∧ Below w.heap.size w w' := by
  have hcv := fun (W : World) (x : ByteArray) => Lib.run_convert_string_bytes (P := Tryz.prog) W 9 36 5 x Tryz.underlying9 Tryz.underlying36 Tryz.underlying5
  obtain ⟨l, hl⟩ : ∃ l, ((L s).drop (p + 1)).take 3 = l := ⟨_, rfl⟩
  have hll : l.length = 3 := by rw [← hl]; simp; omega
  have hx : L (s.extract (p + 1) (p + 4)) = l := by rw [L_extract, ← hl]; congr 1; omega
  have hxs : (s.extract (p + 1) (p + 4)).size = 3 := by rw [← L_length, hx, hll]
  have htail : Sp.tailR 4 ((s[p].toNat : Int) - 240) ((L s).drop (p + 1)) = if l.all Sp.contB = true then if (Sp.putI (Sp.foldR ((s[p].toNat : Int) - 240) l)).length = 4 then (Sp.foldR ((s[p].toNat : Int) - 240) l, 4) else (0, 0) else (0, 0) := by
    have hlen : ¬ ((L s).drop (p + 1)).length < 3 := by simp; omega
    unfold Sp.tailR
    rw [if_neg hlen, show 4 - 1 = 3 from rfl, hl]
  have hcell : ∀ k, k < 3 → ∃ c, l[k]? = some c ∧ (Lib.bytesWorld w 5 (s.extract (p + 1) (p + 4))).cell? ⟨w.heap.size, k, none⟩ = some (.int .u8 (c.toNat : Int)) := fun k hk => by
    refine ⟨l[k]'(by omega), List.getElem?_eq_getElem (by omega), ?_⟩
    rw [Lib.bytesWorld_cell _ _ _ _ (by omega), show (s.extract (p + 1) (p + 4)).data.toList = l from hx, List.getD_eq_getElem?_getD, List.getElem?_eq_getElem (by omega)]
    rfl
  have HT := Lib.hid htail
  have HX := Lib.hid hxs
  have HL := Lib.hid hll
  have HCE := Lib.hid hcell
  have hbw : Below w.heap.size w (Lib.bytesWorld w 5 (s.extract (p + 1) (p + 4))) :=
    ⟨rfl, rfl, rfl, by rw [Lib.bytesWorld_size]; omega, fun i hi => Lib.bytesWorld_at_old w _ _ i hi⟩
  have hx1 : (s.extract (p + 1) (p + 4)).size ≤ 3 := by omega
  have hx2 : 3 ≤ (s.extract (p + 1) (p + 4)).size := by omega
  clear htail hxs hll hcell hl hx
  go_enter Tryz.func85, Tryz.ntmps85
  go_wp2_with fail
  go_loop [6, 63] (fun r i => ∃ k : Nat, k ≤ 3 ∧ i = .int .i64 k ∧ r = .int .i32 (Sp.foldR ((s[p].toNat : Int) - 240) (l.take k)) ∧ (l.take k).all Sp.contB = true) (fun _ i => 3 - (intOf i).toNat)
  case atStart => exact ⟨0, Nat.zero_le _, rfl, by simp [Sp.foldR]; omega, rfl⟩
  case round =>
    obtain ⟨k, hk, rfl, rfl, hall⟩ := hrel
    have HA := Lib.hid hall
    clear hall
    by_cases hlt : k < 3
    · obtain ⟨c, hc1, hc2⟩ := HCE.out k hlt
      have hbd := foldR_bd ((s[p].toNat : Int) - 240) 7 (l.take k) (by omega) (by omega) HA.out
      have hlk : (l.take k).length = k := by rw [List.length_take, HL.out]; omega
      rw [hlk] at hbd
      have hb0 := hbd.1
      have hb1 : Sp.foldR ((s[p].toNat : Int) - 240) (l.take k) < 32768 := by
        refine Int.lt_of_lt_of_le hbd.2 ?_
        have : k = 0 ∨ k = 1 ∨ k = 2 := by omega
        rcases this with rfl | rfl | rfl <;> first | decide | omega
      have HB := Lib.hid (cont_bits c)
      have H1 := Lib.hid hc1
      have hcu : c.toNat < 256 := c.toNat_lt
      clear hbd hlk hc1
      by_cases hcc : Sp.contB c = true
      · have hcb : (bits BinOp.and IntKind.u8 (c.toNat : Int) 192 != 128) = false := by rw [HB.out, hcc]; rfl
        have hcr := hcc
        simp only [Sp.contB, Bool.and_eq_true, decide_eq_true_eq] at hcr
        have hcr1 := hcr.1
        have hcr2 := hcr.2
        have HCC := Lib.hid hcc
        clear hcc hcr
        go_wp2
        go_round
        case rel => exact ⟨k + 1, by omega, by go_num, by rw [take_fold _ H1.out]; refine congrArg _ ?_; omega, take_all H1.out HA.out HCC.out⟩
        case measure => simp [intOf]; omega
      · have hcf : Sp.contB c = false := by simpa using hcc
        have hcb : (bits BinOp.and IntKind.u8 (c.toNat : Int) 192 != 128) = true := by rw [HB.out, hcf]; rfl
        have HCC := Lib.hid hcf
        clear hcc hcf
        go_wp2
        go_ret2
        exact ⟨by rw [HT.out, not_all H1.out HCC.out]; rfl, hbw⟩
    · have hkk : k = 3 := by omega
      subst hkk
      have htk : l.take 3 = l := List.take_of_length_le (by rw [HL.out]; omega)
      rw [htk] at HA
      rw [htk]
      have HTK := Lib.hid htk
      clear htk
      by_cases hput : (Sp.putI (Sp.foldR ((s[p].toNat : Int) - 240) l)).length = 4
      · have hsz : (((Sp.put (Sp.foldR ((s[p].toNat : Int) - 240) l)).length : Int) != 4) = false := by rw [put_len, hput]; rfl
        have HP := Lib.hid hput
        clear hput
        go_wp2_with (go_at_call 86; refine (put_calls _ _).mono ?_; rintro e w' ⟨rfl, hb⟩)
        go_ret2
        exact ⟨by rw [HT.out, HA.out, if_pos rfl, if_pos HP.out]; rfl, below_then hbw hb⟩
      · have hsz : (((Sp.put (Sp.foldR ((s[p].toNat : Int) - 240) l)).length : Int) != 4) = true := by rw [put_len, bne_iff_ne]; omega
        have HP := Lib.hid hput
        clear hput
        go_wp2_with (go_at_call 86; refine (put_calls _ _).mono ?_; rintro e w' ⟨rfl, hb⟩)
        go_ret2
        exact ⟨by rw [HT.out, HA.out, if_pos rfl, if_neg HP.out]; rfl, below_then hbw hb⟩

end Go.Proofs.YtokdclmikllepaaGreatDoor
