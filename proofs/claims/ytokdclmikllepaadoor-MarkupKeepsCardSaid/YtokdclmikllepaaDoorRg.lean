/-
  MarkupKeeps holds for every string: a document with a comment laid ahead of it has the same marks, or the same fault, so much further on. No condition but what the row lists of package-level variables.
-/
import Derived.Test.YtokdclmikllepaaDoorRows
import Derived.Test.YtokdclmikllepaaDoorTie
import Derived.Test.YtokdclmikllepaaDoorCards
import Derived.Test.YtokdclmikllepaaDoorRk
import Derived.Deep.DeepHandedRow
import Derived.Deep.DeepWitnessRowRef
import Derived.Lib.LaidIn
import Derived.Lib.LaidU8
import Derived.PinnedBridge
import Derived.LaidLaws
import Derived.ProofKit
import Derived.Lay
import Derived.SevenTiedAt
import Derived.SizedLaws
import Derived.Shelf.Vars
namespace Go.Proofs.YtokdclmikllepaaDoor
open Go.ChangeShapes Go.WideShapes Go.ChangeAt Go.RowKit Go.Lib
open Go.ChangeMaps (open_string shut_string)
set_option linter.unusedVariables false

theorem own_ : ownKnob Tryd.prog.godebug = none := by kernel_rfl
theorem accept_eq : (Rows.laid_unicode_utf8_acceptRanges : DataW Unit) = acceptData := by kernel_rfl
theorem gSyn : Tryd.prog.globalNamed "strconv.ErrSyntax" = some 3 := by kernel_rfl
theorem gRng : Tryd.prog.globalNamed "strconv.ErrRange" = some 4 := by kernel_rfl
theorem ySyn : (Tryd.prog.globals[3]?).map (·.type) = some 70 := by kernel_rfl
theorem yRng : (Tryd.prog.globals[4]?).map (·.type) = some 70 := by kernel_rfl

/-- A variable that holds an error. -/
theorem err_cell {w : World} {n : String} {g : Nat} {nm : String} {d : DataW Unit} (hg : Tryd.prog.globalNamed n = some g) (hy : (Tryd.prog.globals[g]?).map (·.type) = some 70) (h : VarReads Tryd.prog w n (.iface nm d)) :
    ∃ t p, w.cell? ⟨g, 0, none⟩ = some (.iface t p) := by
  obtain ⟨g', t, cs, fuel, p, hg', ht, hv, hd⟩ := h
  obtain rfl := Option.some.inj (hg.symm.trans hg')
  obtain rfl := Option.some.inj (hy.symm.trans ht)
  obtain ⟨_, u, v, hcs, _, _⟩ := iface_of_trod Tryd.underlying70 hd
  refine ⟨u, v, ?_⟩
  have := World.var?_cell hg hv 0
  rw [this, ← Array.getElem?_toList, hcs]
  rfl

/-- What the row's list gives the walks. -/
theorem gl_of_laid {W : World} (hL : laidMet Tryd.prog Rows.markupKeepsRow.laid W) (hsh : W.ShapedOpen Tryd.prog) (hbig : 8 ≤ W.heap.size) : Gl W :=
  { big := hbig
    mx := cell_of_shapedOpen_int (g := 0) (t := 3) (zero := #[.int .i64 0]) hsh (of_decide_eq_true (by kernel_rfl)) (by kernel_rfl) rfl (by kernel_rfl) (by kernel_rfl) Tryd.underlying3
    tabs := utf8Tabs_of_reads (ρ := Tryd.lays260_ren) { Tryd.lays260 with } ⟨by kernel_rfl, by kernel_rfl, by kernel_rfl, by kernel_rfl, by kernel_rfl, by kernel_rfl, by kernel_rfl⟩
      (Pinned.utf8First_eq ▸ Lib.laidMet.reads hL (.tail _ (.tail _ (.tail _ (.tail _ (.tail _ (.tail _ (.head _))))))))
      (accept_eq ▸ Lib.laidMet.reads hL (.tail _ (.tail _ (.tail _ (.head _)))))
    esyn := err_cell gSyn ySyn (Lib.laidMet.reads hL (.tail _ (.tail _ (.tail _ (.tail _ (.tail _ (.head _)))))))
    erng := err_cell gRng yRng (Lib.laidMet.reads hL (.tail _ (.tail _ (.tail _ (.tail _ (.head _)))))) }

theorem keeps_met (os : Os) (args : Array Value) : laidMet Tryd.prog Rows.markupKeepsRow.laid ((World.laidAll Tryd.prog os Rows.markupKeepsRow.laid).forCall (fun _ _ => 0) ⟨#[], args, []⟩).memory :=
  laidMet_laidAll _ (by kernel_rfl) (by kernel_rfl)
theorem keeps_witness (os : Os) {H : Type} (enc : TypeId × Value → H) :
    (OpenSpec.ofChange Rows.markupKeepsSpec).preRow enc Tryd.prog Tryd.f4 Rows.markupKeepsRow.domain false Rows.markupKeepsRow.laid ((World.laidAll Tryd.prog os Rows.markupKeepsRow.laid).forCall (fun _ _ => 0) ⟨#[], #[.string ⟨#[]⟩], []⟩).memory #[.string ⟨#[]⟩] := by
  have hw : (DataW.whole enc Tryd.prog ((World.laidAll Tryd.prog os Rows.markupKeepsRow.laid).forCall (fun _ _ => 0) ⟨#[], #[.string ⟨#[]⟩], []⟩).memory Tryd.f4.params.toList (OpenSpec.ofChange Rows.markupKeepsSpec).vars false #[Value.string ⟨#[]⟩].toList 8).map (fun x => (x.1, x.2.1)) =
      some ([.lit (.string [])], []) := by kernel_rfl
  obtain ⟨⟨x1, x2, x3⟩, hx, hx1⟩ := Option.map_eq_some_iff.1 hw
  simp only [Prod.mk.injEq] at hx1
  obtain ⟨rfl, rfl⟩ := hx1
  exact OpenSpec.preRow_of_cond 8 hx (by kernel_rfl) (fun k hk => by cases hk) (by kernel_rfl) (keeps_met os _)

set_option maxRecDepth 100000 in
set_option maxHeartbeats 2000000 in
theorem keeps_lifted (os : Os) (started : os.Started) (H : Type) (enc : TypeId × Value → H) (F : Stop.Interp) :
    ReturnsInHanded {} Tryd.checked os 4 .any ((OpenSpec.ofChange Rows.markupKeepsSpec).preRow enc Tryd.prog Tryd.f4 Rows.markupKeepsRow.domain false Rows.markupKeepsRow.laid) (((OpenSpec.ofChange Rows.markupKeepsSpec).at F).post enc Tryd.prog Tryd.f4 false true false false) := by
  refine returnsInHanded_of_row (C := Tryd.checked) (s := OpenSpec.ofChange Rows.markupKeepsSpec) own_ started (by kernel_rfl) Tryd.func4
    (witness_row_atRef (enc := enc) (C := Tryd.checked) false (World.laidAll Tryd.prog os Rows.markupKeepsRow.laid) #[.string ⟨#[]⟩] (World.laidAll_os _ _ _) (by kernel_rfl) (by kernel_rfl) (by kernel_rfl) (keeps_witness os enc)) ?_
  intro W base args ds gs before hval0 hW _ _ hsz0 hL hsh _
  have hsz : (DataW.weightsEach Tryd.prog (Tryd.f4.params.toList ++ (OpenSpec.ofChange Rows.markupKeepsSpec).bare.plain.varTypes Tryd.prog) (ds ++ gs)).all (· ≤ reachBytes) = true := hsz0
  clear hsz0
  have hval : ∀ (j : Nat) t v, Tryd.f4.params[j]? = some t → args[j]? = some v → Value.okWide Tryd.prog W .any base t v := hval0
  have hW' := hW
  obtain ⟨p, q, hA0, hV0, rfl, _, _⟩ := hW
  have hA : DataW.TrodAll enc Tryd.prog W 0 (fun _ => true) true Tryd.f4.params.toList args.toList ds p := hA0
  rw [Tryd.params4] at hA hval hsz
  obtain ⟨v0, d0, rfl, rfl, h0⟩ := trodAll_one hA
  obtain ⟨rfl, rfl⟩ := trodVars_none hV0
  obtain ⟨s, rfl, rfl, rfl, ws⟩ := open_string Tryd.underlying9 (hval 0 9 v0 rfl rfl) h0
  clear hA0 hV0 hval0
  have hs : s.size ≤ 140737488351232 := by
    have := sized_string hsz (j := 0) (t := 9) (bytes := s.data.toList) rfl rfl
    unfold reachBytes at this
    have e : s.data.toList.length = s.size := by simp
    omega
  have hbig : 8 ≤ W.heap.size := by
    have h7 : (((begin Tryd.prog (fun _ _ => 0) default).world.heap[7]?).bind Obj.row?).isSome = true := by kernel_rfl
    obtain ⟨⟨zero, t⟩, h0⟩ := Option.isSome_iff_exists.1 h7
    obtain ⟨cs, hh, _⟩ := hsh.1 7 zero t (of_decide_eq_true (by kernel_rfl)) h0
    have := (Array.getElem?_eq_some_iff.1 hh).1
    omega
  refine (keeps_calls s W (gl_of_laid hL hsh hbig) hs).mono ?_
  rintro e W' ⟨rfl, bel⟩
  have e1 : ((OpenSpec.ofChange Rows.markupKeepsSpec).at F).fn H ([.lit (.string s.data.toList)] ++ []) = { results := [.lit (.bool true)], args := [.lit (.string s.data.toList)] } := rfl
  refine ⟨_, rfl, _, _, _, [], [], [], hW', ?_, ?_, ?_, bel.frame _, fun h => by cases h⟩
  · rw [e1]; exact trodAll_mk1 (shut_bool Tryd.underlying4 _)
  · rw [e1]; exact trodAll_mk1 (shut_string Tryd.underlying9 ws)
  · rw [e1]; rfl

theorem keeps_row : Rows.MarkupKeepsSaid :=
  OpenClaim.holds_of_cond 4 Tryd.f4 rfl rfl rfl rfl rfl rfl rfl ⟨rfl, rfl, rfl, rfl, rfl⟩ rfl rfl rfl rfl rfl (by kernel_rfl) Tryd.func4 (by kernel_rfl)
    (of_decide_eq_true (by kernel_rfl)) (by unfold Func.isWrapper; first | (rw [if_pos (by decide +kernel)]; kernel_rfl) | (rw [if_neg (by decide +kernel)]; exact ⟨rfl, rfl⟩))
    (fun os started H enc _ F0 => by rw [OpenClaim.pre_eq_preRow]; exact keeps_lifted os started H enc F0)

theorem markupKeeps_holds : Rows.MarkupKeepsCardSaid :=
  Claim7.holds_tied_plain_at .later [] [.data, .data, .data, .data, .sentinel, .sentinel, .pinned] true (true, "37d0127cef413fff899d372e17c39ce0f031489cd3fc9af7db27f4ee6118bb83") true keeps_row (fun _ h => by cases h) (by kernel_rfl) (fun _ h => by cases h) markupKeeps_row_tie rfl ⟨rfl, rfl⟩ (by kernel_rfl) rfl
    (fun f fn hf hfn => by
      obtain rfl : f = 4 := Option.some.inj ((show Tryd.prog.funcNamed "pavane/pavanelaw08.MarkupKeeps" = some 4 by kernel_rfl).symm.trans hf) |>.symm
      obtain rfl : fn = Tryd.f4 := (Option.some.inj (Tryd.func4.symm.trans hfn)).symm
      exact ⟨by kernel_rfl, fun j t ht => by
        rw [Tryd.params4] at ht
        have hm : t ∈ [9] := by simpa using Array.mem_of_getElem? ht
        have hall : ([9].all fun u => !Tryd.prog.wantsStandIn u) = true := by kernel_rfl
        exact (show Tryd.prog.wantsStandIn t = false by simpa using List.all_eq_true.1 hall t hm)⟩)
    (by kernel_rfl)
#print axioms markupKeeps_holds
end Go.Proofs.YtokdclmikllepaaDoor
