import Derived.Test.YtokdclmikllepaaGreatDoorKt42
import Derived.StillTailTactics
namespace Go.Proofs.YtokdclmikllepaaGreatDoor
open Go.RowKit
set_option linter.unusedVariables false
set_option linter.unusedSimpArgs false

/-! ### elements in memory, cell by cell -/
theorem ElsAt.cell {B : Nat} {w : World} {v : Value} {l : List Sp.EE} (h : ElsAt B w v l) (h0 : 0 < l.length) :
    ∃ g cap, v = .slice (some ⟨g, 0, none⟩) l.length cap ∧ B ≤ g ∧ g < w.heap.size ∧ ∀ i x, l[i]? = some x → ∃ av, EasAt B w av x.attrs ∧
      w.cell? ⟨g, i * 5, none⟩ = some (.string ⟨x.name.toArray⟩) ∧ w.cell? ⟨g, i * 5 + 1, none⟩ = some av ∧ w.cell? ⟨g, i * 5 + 2, none⟩ = some (.string ⟨x.text.toArray⟩) ∧
      w.cell? ⟨g, i * 5 + 3, none⟩ = some (.int .i64 x.up) ∧ w.cell? ⟨g, i * 5 + 4, none⟩ = some (.int .i64 x.at_) := by
  obtain ⟨ps, hps, hat, hown⟩ := h
  have hpl : ps.length = l.length := by rw [← hps, List.length_map]
  obtain ⟨g, cap, rfl, hb, hlt, hc⟩ := ownsRow_cells hown (by omega)
  refine ⟨g, cap, by rw [hpl], hb, hlt, fun i x hx => ?_⟩
  rw [← hps, List.getElem?_map] at hx
  obtain ⟨y, hy, rfl⟩ := Option.map_eq_some_iff.1 hx
  have hf := fun k hk => flat_get (fun x : Sp.EE × Value => eeCells x.1 x.2) 5 (fun _ => rfl) ps i k hk
  refine ⟨y.2, hat y (List.mem_of_getElem? hy), hc _ _ ?_, hc _ _ ?_, hc _ _ ?_, hc _ _ ?_, hc _ _ ?_⟩
  · rw [show i * 5 = i * 5 + 0 from rfl, hf 0 (by omega), hy]; rfl
  · rw [hf 1 (by omega), hy]; rfl
  · rw [hf 2 (by omega), hy]; rfl
  · rw [hf 3 (by omega), hy]; rfl
  · rw [hf 4 (by omega), hy]; rfl

/-! ### the answers that the document fixes -/
def tdoc1 : ByteArray := ⟨#[60, 97, 62, 120, 60, 98, 47, 62, 121, 60, 47, 97, 62]⟩
def tdoc2 : ByteArray := ⟨#[60, 97, 62, 60, 47, 98, 62]⟩
def tels1 : List Sp.EE := [⟨[97], [], [120, 121], -1, 0⟩, ⟨[98], [], [], 0, 4⟩]
theorem tdoc1_parse : Sp.parse (L tdoc1) = .ok tels1 := by rfl
theorem tdoc2_parse : Sp.parse (L tdoc2) = .error (3, 91) := by rfl
theorem tels1_write : Sp.write tels1 = some [60, 97, 62, 120, 121, 60, 98, 47, 62, 60, 47, 97, 62] := by rfl
theorem writeR_is (l : List Sp.EE) (lv : Value) (w : World) (hl : ElsR w lv l) (hsm : ∀ x ∈ l, wtEE x ≤ 100000) (hl3 : l.length ≤ 100000000) (R : Option Sp.Bs) (hR : Sp.write l = R) :
    Calls Tryz.prog 42 #[lv] w (WEnd R w) := hR ▸ write_calls l lv w hl hsm hl3
theorem write_ok (l : List Sp.EE) (lv : Value) (w : World) (hl : ElsR w lv l) (hsm : ∀ x ∈ l, wtEE x ≤ 100000) (hl3 : l.length ≤ 100000000) (T : Sp.Bs) (hR : Sp.write l = some T) :
    Calls Tryz.prog 42 #[lv] w fun e w' => e = .returned (.tuple #[.string ⟨T.toArray⟩, .int .i64 0]) ∧ Below w.heap.size w w' :=
  (writeR_is l lv w hl hsm hl3 _ hR).mono fun e w' h => h
theorem parse_err_is (s : ByteArray) (w : World) (hG : Gl w) (hs : s.size ≤ 140737488351232) (p c : Nat) (hR : Sp.parse (L s) = .error (p, c)) :
    Calls Tryz.prog 37 #[.string s] w fun e w' => e = .returned (.tuple #[.slice none 0 0, .int .i64 p, .int .i64 c]) ∧ Below w.heap.size w w' :=
  (parse_is s w hG hs _ hR).mono fun e w' ⟨hb, he⟩ => ⟨he, hb⟩

set_option maxHeartbeats 4000000 in
set_option maxRecDepth 100000 in
theorem tawake_calls (w : World) (hG : Gl w) : Calls Tryz.prog 39 #[] w fun e w' => e = .returned (.bool true) ∧ Below w.heap.size w w' := by
  have HG := Lib.hid hG
  clear hG
  go_enter Tryz.func39, Tryz.ntmps39
  go_wp2_with fail
  refine (parse_is tdoc1 _ HG.out (by decide) _ tdoc1_parse).mono ?_
  rintro e w1 ⟨hb1, v, rfl, hm⟩
  have HR := Lib.hid hm.toR
  obtain ⟨g, cap, rfl, hg1, hg2, hc⟩ := hm.cell (by decide)
  obtain ⟨av, hat, c0, c1, c2, c3, c4⟩ := hc 0 _ rfl
  obtain ⟨av', hat', d0, d1, d2, d3, d4⟩ := hc 1 _ rfl
  clear hc hat hat' hm
  have HB1 := Lib.hid hb1
  clear hb1
  go_wp2_with fail
  refine (parse_err_is tdoc2 _ (HG.out.below HB1.out) (by decide) 3 91 tdoc2_parse).mono ?_
  rintro e w2 ⟨rfl, hb2⟩
  go_wp2_with fail
  refine (write_ok tels1 _ _ (HR.out.below hb2) (by decide) (by decide) _ tels1_write).mono ?_
  rintro e w3 ⟨rfl, hb3⟩
  have k : ∀ b i u, b < w1.heap.size → w1.cell? ⟨b, i, none⟩ = some u → w3.cell? ⟨b, i, none⟩ = some u := fun b i u hb h =>
    (World.cell?_of_block ((below_then hb2 hb3).block b hb)).trans h
  have e2 := k _ _ _ hg2 c2
  have e3 := k _ _ _ hg2 c3
  have x0 := k _ _ _ hg2 d0
  have x3 := k _ _ _ hg2 d3
  have HB3 := Lib.hid (below_then HB1.out (below_then hb2 hb3))
  clear k c0 c1 c2 c3 c4 d0 d1 d2 d3 d4 hb2 hb3 HB1 HR
  simp only [Nat.zero_mul, Nat.zero_add, Nat.one_mul, Nat.reduceAdd] at e2 e3 x0 x3
  go_wp2_with fail
  go_ret
  exact ⟨rfl, HB3.out⟩
end Go.Proofs.YtokdclmikllepaaGreatDoor
