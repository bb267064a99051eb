import Derived.Test.YtokdclmikllepaaGreatDoorKt5
import Derived.Test.YtokdclmikllepaaGreatDoorKt6
import Derived.StillTailTactics
import Derived.Deep.AppendLies
import Derived.Deep.RegionLaw
namespace Go.Proofs.YtokdclmikllepaaGreatDoor
open Go.RowKit
set_option linter.unusedVariables false
set_option linter.unusedSimpArgs false

def optI (o : Option Nat) : Int := match o with | some i => (i : Int) | none => -1

theorem index_find (sub l : List UInt8) : Lib.index l sub = optI (Sp.find sub l) := by
  induction l with
  | nil =>
    unfold Lib.index Sp.find optI
    cases sub <;> simp
  | cons b l ih =>
    unfold Lib.index Sp.find
    rw [ih]
    split
    · rfl
    · cases h : Sp.find sub l with
      | none => rfl
      | some i =>
        have : ¬ (((optI (some i)) == -1) = true) := by simp [optI]
        rw [if_neg this]
        simp [optI]

theorem find_le (sub l : List UInt8) (i : Nat) (h : Sp.find sub l = some i) : i + sub.length ≤ l.length := by
  induction l generalizing i with
  | nil =>
    unfold Sp.find at h
    split at h
    · rename_i hs; subst hs; simp at h; omega
    · cases h
  | cons b l ih =>
    unfold Sp.find at h
    split at h
    · rename_i hp
      have := (List.isPrefixOf_iff_prefix.1 hp).length_le
      simp at h; omega
    · cases hf : Sp.find sub l with
      | none => rw [hf] at h; cases h
      | some j =>
        rw [hf] at h
        have := ih j hf
        simp at h ⊢; omega

theorem index_is (s sub : ByteArray) (m : Int) (w : World) (hs : s.size < 4294967281) (hm : w.cell? ⟨0, 0, none⟩ = some (.int .i64 m)) (l k : List UInt8) (hl : L s = l) (hk : L sub = k) (o : Option Nat) (ho : Sp.find k l = o) :
    Calls Tryz.prog 119 #[.string s, .string sub] w fun e w' => e = .returned (.int .i64 (optI o)) ∧ w' = w := by
  subst hl hk ho
  rw [← index_find]
  exact Tryz.strings_Index s sub m w hs hm

set_option maxHeartbeats 2000000 in
set_option maxRecDepth 100000 in
theorem until_hit (s what : ByteArray) (k i : Nat) (g p fr : Nat) (out : Value) (w : World) (m : Int) (hm : w.cell? ⟨0, 0, none⟩ = some (.int .i64 m)) (hr : Rd w g s p fr out) (hs : s.size ≤ 65536) (hp : p + k ≤ s.size) (hw : what.size ≤ 100)
    (hf : Sp.find (L what) ((L s).drop (p + k)) = some i) :
    Calls Tryz.prog 89 #[.pointer (some ⟨g, 0, none⟩), .string what, .int .i64 k] w fun e w' =>
      e = .returned (.string (s.extract (p + k) (p + k + i))) ∧ Only g w w' ∧ Rd w' g s (p + k + i + what.size) fr out := by
  have hle := find_le _ _ _ hf
  rw [List.length_drop, L_length, L_length] at hle
  have h0 := hr.c0
  have h1 := hr.c1
  have hf1 := hr.fz 1
  have e1 : IntKind.i64.wrap ((p : Int) + k) = ((p + k : Nat) : Int) := by rw [IntWalk.i64_in _ (by omega)]; rfl
  have e2 : IntKind.i64.wrap ((((p + k : Nat) : Int)) + i) = ((p + k + i : Nat) : Int) := by rw [IntWalk.i64_in _ (by omega)]; rfl
  have b1 : (0 : Int) ≤ ((p + k : Nat) : Int) := by omega
  have b2 : ((p + k : Nat) : Int) ≤ s.size := by omega
  have b3 : ((p + k : Nat) : Int) ≤ ((p + k + i : Nat) : Int) := by omega
  have b4 : ((p + k + i : Nat) : Int) ≤ s.size := by omega
  have hsz : (s.extract (p + k) s.size).size < 4294967281 := by rw [← L_length, L_from]; simp; omega
  have HF := Lib.hid hf
  clear hf
  go_enter Tryz.func89, Tryz.ntmps89
  go_wp2_with fail
  go_quiet ((go_at_call 119; go_must (exact quiet_same (index_is _ _ m _ hsz (by exact hm) _ _ (L_from s (p + k)) rfl _ HF.out))))
  have e4 : optI (some i) = (i : Int) := rfl
  rw [e4]
  have b5 : decide ((i : Int) < 0) = false := by simp
  clear e4
  go_wp2_with fail
  go_quiet (fail)
  go_wp2_with fail
  go_ret
  have e5 : (((p : Int) + (k + i + what.size))) = ((p + k + i + what.size : Nat) : Int) := by omega
  exact ⟨rfl, ((Only.refl g w).drewN _).set 1 _, by rw [e5]; exact Rd.set1 (hr.drewN _) _⟩

set_option maxHeartbeats 2000000 in
set_option maxRecDepth 100000 in
theorem until_miss (s what : ByteArray) (k : Nat) (g p fr : Nat) (out : Value) (w : World) (m : Int) (hm : w.cell? ⟨0, 0, none⟩ = some (.int .i64 m)) (hr : Rd w g s p fr out) (hs : s.size ≤ 65536) (hp : p + k ≤ s.size)
    (hf : Sp.find (L what) ((L s).drop (p + k)) = none) :
    Calls Tryz.prog 89 #[.pointer (some ⟨g, 0, none⟩), .string what, .int .i64 k] w fun e w' => e = pan (fr, 84) ∧ ∃ n, w' = w.drewN n := by
  have h0 := hr.c0
  have h1 := hr.c1
  have h2 := hr.c2
  have e1 : IntKind.i64.wrap ((p : Int) + k) = ((p + k : Nat) : Int) := by rw [IntWalk.i64_in _ (by omega)]; rfl
  have b1 : (0 : Int) ≤ ((p + k : Nat) : Int) := by omega
  have b2 : ((p + k : Nat) : Int) ≤ s.size := by omega
  have hsz : (s.extract (p + k) s.size).size < 4294967281 := by rw [← L_length, L_from]; simp; omega
  have HF := Lib.hid hf
  clear hf
  go_enter Tryz.func89, Tryz.ntmps89
  go_wp2_with fail
  go_quiet ((go_at_call 119; exact quiet_same (index_is _ _ m _ hsz (by exact hm) _ _ (L_from s (p + k)) rfl _ HF.out)))
  have e4 : optI none = (-1 : Int) := rfl
  rw [e4]
  clear e4
  go_wp2_with fail
  exact ⟨rfl, rfl, _, rfl⟩

theorem mk_len (l : List UInt8) : (⟨l.toArray⟩ : ByteArray).size = l.length := rfl
theorem L_mk (l : List UInt8) : L ⟨l.toArray⟩ = l := rfl

set_option maxHeartbeats 1000000 in
theorem lines_calls (s : ByteArray) (w : World) (m : Int) (hm : w.cell? ⟨0, 0, none⟩ = some (.int .i64 m)) (hs : s.size ≤ 65536) :
    Calls Tryz.prog 121 #[.string s] w fun e w' => e = .returned (.string ⟨(Sp.lines (L s)).toArray⟩) ∧ Below w.heap.size w w' := by
  have hc1 : Lib.countB s ⟨#[13, 10]⟩ ≤ s.size := Lib.countB_le _ (by decide) _ s (Nat.le_refl _)
  have hfin := replaced_lines (L s)
  obtain ⟨t, ht⟩ : ∃ t, Lib.replaceAll (L s) [13, 10] [10] = t := ⟨_, rfl⟩
  have htl : t.length ≤ s.size := by
    rw [← ht, replaceAll_RA _ _ _ (by simp), RA_crlf _ _ (Nat.le_refl _), ← L_length]; exact crlf_len _ _ (Nat.le_refl _)
  have hc2 : Lib.countB ⟨t.toArray⟩ ⟨#[13]⟩ ≤ t.length := Lib.countB_le _ (by decide) t.length ⟨t.toArray⟩ (Nat.le_refl _)
  rw [ht] at hfin
  have HF := Lib.hid hfin
  have HT := Lib.hid ht
  clear hfin ht
  go_enter Tryz.func121, Tryz.ntmps121
  go_wp2_with fail
  refine (Tryz.strings_ReplaceAll _ _ _ m _ ?_ ?_ ?_ ?_).mono ?_
  · omega
  · exact hm
  · decide
  · show _ + _ * 1 ≤ _; omega
  rintro e w1 ⟨he, hb⟩
  rw [show Lib.replaceAll s.data.toList (⟨#[13, 10]⟩ : ByteArray).data.toList (⟨#[10]⟩ : ByteArray).data.toList = t from HT.out] at he
  subst he
  have hm1 : w1.cell? ⟨0, 0, none⟩ = some (.int .i64 m) := (hb.cell (p := ⟨0, 0, none⟩) (World.block_lt_of_cell? w _ hm)).trans hm
  go_wp2_with fail
  refine (Tryz.strings_ReplaceAll _ _ _ m _ ?_ ?_ ?_ ?_).mono ?_
  · rw [mk_len]; omega
  · exact hm1
  · decide
  · rw [mk_len]; show _ + _ * 1 ≤ _; omega
  rintro e w2 ⟨he, hb2⟩
  rw [show Lib.replaceAll (⟨t.toArray⟩ : ByteArray).data.toList (⟨#[13]⟩ : ByteArray).data.toList (⟨#[10]⟩ : ByteArray).data.toList = Sp.lines (L s) from HF.out] at he
  subst he
  go_wp2_with fail
  go_ret
  exact ⟨rfl, below_then hb hb2⟩

theorem toList_L (x : ByteArray) : x.toList = L x := by
  rw [ByteArray.toList_eq]

set_option maxHeartbeats 2000000 in
theorem named_calls (x : ByteArray) (w : World) :
    Calls Tryz.prog 175 #[.string x] w fun e w' => e = .returned (.tuple #[.string ⟨((Sp.namedO (L x)).getD []).toArray⟩, .bool (Sp.namedO (L x)).isSome]) ∧ w = w' := by
  have e0 : x.toList = L x := toList_L x
  rw [← e0]
  unfold Sp.namedO
  by_cases h1 : x.toList = [108, 116]
  · have b1 : (x.toList == [108, 116]) = true := by simp [h1]
    rw [if_pos h1]
    clear h1 e0
    go_enter Tryz.func175, Tryz.ntmps175
    go_wp2_with fail
    go_ret2
    exact ⟨rfl, rfl⟩
  have b1 : (x.toList == [108, 116]) = false := by simpa using h1
  rw [if_neg h1]
  by_cases h2 : x.toList = [103, 116]
  · have b2 : (x.toList == [103, 116]) = true := by simp [h2]
    rw [if_pos h2]
    clear h1 h2 e0
    go_enter Tryz.func175, Tryz.ntmps175
    go_wp2_with fail
    go_ret2
    exact ⟨rfl, rfl⟩
  have b2 : (x.toList == [103, 116]) = false := by simpa using h2
  rw [if_neg h2]
  by_cases h3 : x.toList = [97, 109, 112]
  · have b3 : (x.toList == [97, 109, 112]) = true := by simp [h3]
    rw [if_pos h3]
    clear h1 h2 h3 e0
    go_enter Tryz.func175, Tryz.ntmps175
    go_wp2_with fail
    go_ret2
    exact ⟨rfl, rfl⟩
  have b3 : (x.toList == [97, 109, 112]) = false := by simpa using h3
  rw [if_neg h3]
  by_cases h4 : x.toList = [97, 112, 111, 115]
  · have b4 : (x.toList == [97, 112, 111, 115]) = true := by simp [h4]
    rw [if_pos h4]
    clear h1 h2 h3 h4 e0
    go_enter Tryz.func175, Tryz.ntmps175
    go_wp2_with fail
    go_ret2
    exact ⟨rfl, rfl⟩
  have b4 : (x.toList == [97, 112, 111, 115]) = false := by simpa using h4
  rw [if_neg h4]
  by_cases h5 : x.toList = [113, 117, 111, 116]
  · have b5 : (x.toList == [113, 117, 111, 116]) = true := by simp [h5]
    rw [if_pos h5]
    clear h1 h2 h3 h4 h5 e0
    go_enter Tryz.func175, Tryz.ntmps175
    go_wp2_with fail
    go_ret2
    exact ⟨rfl, rfl⟩
  have b5 : (x.toList == [113, 117, 111, 116]) = false := by simpa using h5
  rw [if_neg h5]
  clear h1 h2 h3 h4 h5 e0
  go_enter Tryz.func175, Tryz.ntmps175
  go_wp2_with fail
  go_ret2
  exact ⟨rfl, rfl⟩

end Go.Proofs.YtokdclmikllepaaGreatDoor
