/-
  SpacesInner holds for every list of elements and every number: what stands within an element means there what it would mean, if all that holds were declared at it itself. No condition but what the row lists of package-level variables.
-/
import Derived.Test.YtokdclmikllepaaGreatDoorSv
import Derived.Test.YtokdclmikllepaaGreatDoorRows
import Derived.Test.YtokdclmikllepaaGreatDoorTie
import Derived.Test.YtokdclmikllepaaGreatDoorCards
import Derived.Test.YtokdclmikllepaaGreatDoorMf
import Derived.Test.YtokdclmikllepaaGreatDoorMa
import Derived.Test.YtokdclmikllepaaGreatDoorBti
import Derived.Deep.DeepHandedRow
import Derived.Deep.DeepWitnessRowRef
import Derived.Lib.LaidIn
import Derived.Lib.LaidU8
import Derived.PinnedBridge
import Derived.LaidLaws
import Derived.ProofKit
import Derived.Lay
import Derived.SevenTiedAt
import Derived.SizedLaws
import Derived.Shelf.Vars
import Derived.WideKeyArgs
namespace Go.Proofs.YtokdclmikllepaaGreatDoor
open Go.ChangeShapes Go.WideShapes Go.ChangeAt Go.RowKit Go.Lib
open Go.ChangeMaps (open_string shut_string)
set_option linter.unusedVariables false

theorem own_ : ownKnob Tryz.prog.godebug = none := by kernel_rfl
theorem accept_eq : (Rows.laid_unicode_utf8_acceptRanges : DataW Unit) = acceptData := by kernel_rfl
theorem gSyn : Tryz.prog.globalNamed "strconv.ErrSyntax" = some 3 := by kernel_rfl
theorem gRng : Tryz.prog.globalNamed "strconv.ErrRange" = some 4 := by kernel_rfl
theorem ySyn : (Tryz.prog.globals[3]?).map (·.type) = some 117 := by kernel_rfl
theorem yRng : (Tryz.prog.globals[4]?).map (·.type) = some 117 := by kernel_rfl

/-- A variable that holds an error. -/
theorem err_cell {w : World} {n : String} {g : Nat} {nm : String} {d : DataW Unit} (hg : Tryz.prog.globalNamed n = some g) (hy : (Tryz.prog.globals[g]?).map (·.type) = some 117) (h : VarReads Tryz.prog w n (.iface nm d)) :
    ∃ t p, w.cell? ⟨g, 0, none⟩ = some (.iface t p) := by
  obtain ⟨g', t, cs, fuel, p, hg', ht, hv, hd⟩ := h
  obtain rfl := Option.some.inj (hg.symm.trans hg')
  obtain rfl := Option.some.inj (hy.symm.trans ht)
  obtain ⟨_, u, v, hcs, _, _⟩ := iface_of_trod Tryz.underlying117 hd
  refine ⟨u, v, ?_⟩
  have := World.var?_cell hg hv 0
  rw [this, ← Array.getElem?_toList, hcs]
  rfl

/-- What the row's list gives the walks. -/
theorem gl_of_laid {W : World} (hL : laidMet Tryz.prog Rows.spacesInnerRow.laid W) (hsh : W.ShapedOpen Tryz.prog) (hbig : 8 ≤ W.heap.size) : Gl W :=
  { big := hbig
    mx := cell_of_shapedOpen_int (g := 0) (t := 3) (zero := #[.int .i64 0]) hsh (of_decide_eq_true (by kernel_rfl)) (by kernel_rfl) rfl (by kernel_rfl) (by kernel_rfl) Tryz.underlying3
    tabs := utf8Tabs_of_reads (ρ := Tryz.lays260_ren) { Tryz.lays260 with } ⟨by kernel_rfl, by kernel_rfl, by kernel_rfl, by kernel_rfl, by kernel_rfl, by kernel_rfl, by kernel_rfl⟩
      (Pinned.utf8First_eq ▸ Lib.laidMet.reads hL (.tail _ (.tail _ (.tail _ (.tail _ (.tail _ (.tail _ (.head _))))))))
      (accept_eq ▸ Lib.laidMet.reads hL (.tail _ (.tail _ (.tail _ (.head _)))))
    esyn := err_cell gSyn ySyn (Lib.laidMet.reads hL (.tail _ (.tail _ (.tail _ (.tail _ (.tail _ (.head _)))))))
    erng := err_cell gRng yRng (Lib.laidMet.reads hL (.tail _ (.tail _ (.tail _ (.tail _ (.head _)))))) }

theorem sinner_met (os : Os) (args : Array Value) : laidMet Tryz.prog Rows.spacesInnerRow.laid ((World.laidAll Tryz.prog os Rows.spacesInnerRow.laid).forCall (fun _ _ => 0) ⟨#[], args, []⟩).memory :=
  laidMet_laidAll _ (by kernel_rfl) (by kernel_rfl)
theorem sinner_witness (os : Os) {H : Type} (enc : TypeId × Value → H) :
    (OpenSpec.ofChange Rows.spacesInnerSpec).preRow enc Tryz.prog Tryz.f8 Rows.spacesInnerRow.domain false Rows.spacesInnerRow.laid ((World.laidAll Tryz.prog os Rows.spacesInnerRow.laid).forCall (fun _ _ => 0) ⟨#[], #[.slice none 0 0, .int .i64 0], []⟩).memory #[.slice none 0 0, .int .i64 0] := by
  have hw : (DataW.whole enc Tryz.prog ((World.laidAll Tryz.prog os Rows.spacesInnerRow.laid).forCall (fun _ _ => 0) ⟨#[], #[.slice none 0 0, .int .i64 0], []⟩).memory Tryz.f8.params.toList (OpenSpec.ofChange Rows.spacesInnerSpec).vars false #[Value.slice none 0 0, Value.int .i64 0].toList 8).map (fun x => (x.1, x.2.1)) =
      some ([.nil, .lit (.int .i64 0)], []) := by kernel_rfl
  obtain ⟨⟨x1, x2, x3⟩, hx, hx1⟩ := Option.map_eq_some_iff.1 hw
  simp only [Prod.mk.injEq] at hx1
  obtain ⟨rfl, rfl⟩ := hx1
  exact OpenSpec.preRow_of_cond 8 hx (by kernel_rfl) (fun k hk => by cases hk) (by kernel_rfl) (sinner_met os _)

set_option maxRecDepth 100000 in
set_option maxHeartbeats 2000000 in
theorem sinner_lifted (os : Os) (started : os.Started) (H : Type) (enc : TypeId × Value → H) (F : Stop.Interp) :
    ReturnsInHanded {} Tryz.checked os 8 .any ((OpenSpec.ofChange Rows.spacesInnerSpec).preRow enc Tryz.prog Tryz.f8 Rows.spacesInnerRow.domain false Rows.spacesInnerRow.laid) (((OpenSpec.ofChange Rows.spacesInnerSpec).at F).post enc Tryz.prog Tryz.f8 false true false false) := by
  refine returnsInHanded_of_row (C := Tryz.checked) (s := OpenSpec.ofChange Rows.spacesInnerSpec) own_ started (by kernel_rfl) Tryz.func8
    (witness_row_atRef (enc := enc) (C := Tryz.checked) false (World.laidAll Tryz.prog os Rows.spacesInnerRow.laid) #[.slice none 0 0, .int .i64 0] (World.laidAll_os _ _ _) (by kernel_rfl) (by kernel_rfl) (by kernel_rfl) (sinner_witness os enc)) ?_
  intro W base args ds gs before hval0 hW _ _ hsz0 hL hsh _
  have hsz : (DataW.weightsEach Tryz.prog (Tryz.f8.params.toList ++ (OpenSpec.ofChange Rows.spacesInnerSpec).bare.plain.varTypes Tryz.prog) (ds ++ gs)).all (· ≤ reachBytes) = true := hsz0
  clear hsz0
  have hval : ∀ (j : Nat) t v, Tryz.f8.params[j]? = some t → args[j]? = some v → Value.okWide Tryz.prog W .any base t v := hval0
  have hW' := hW
  obtain ⟨p, q, hA0, hV0, rfl, _, _⟩ := hW
  have hA : DataW.TrodAll enc Tryz.prog W 0 (fun _ => true) true Tryz.f8.params.toList args.toList ds p := hA0
  rw [Tryz.params8] at hA hval hsz
  obtain ⟨v0, v1, d0, d1, p0, p1, rfl, rfl, rfl, h0, h1⟩ := trodAll_two hA
  obtain ⟨rfl, rfl⟩ := trodVars_none hV0
  obtain ⟨ni, rfl, rfl, rfl, wn⟩ := open_int Tryz.underlying3 (hval 1 3 v1 rfl rfl) h1
  obtain ⟨va, vl, vc, rfl⟩ := okWide_slice Tryz.underlying45 (hval 0 45 v0 rfl rfl)
  have h0' := h0
  obtain ⟨fuel, hf0⟩ := h0'
  have hf : DataW.trod enc Tryz.prog W 0 (fun _ => true) true fuel 45 [.slice va vl vc] = some (d0, p0) := by simpa [Value.cells] using hf0
  obtain ⟨l, hl1, hl2, hl3⟩ := els_of_trod hf (fun n hn => by have := List.all_eq_true.1 hsz n (DataW.weights_mem_each (j := 0) rfl rfl n hn); unfold reachBytes at this; simpa using this)
  clear hA0 hV0 hval0
  have hbig : 8 ≤ W.heap.size := by
    have h7 : (((begin Tryz.prog (fun _ _ => 0) default).world.heap[7]?).bind Obj.row?).isSome = true := by kernel_rfl
    obtain ⟨⟨zero, t⟩, h0⟩ := Option.isSome_iff_exists.1 h7
    obtain ⟨cs, hh, _⟩ := hsh.1 7 zero t (of_decide_eq_true (by kernel_rfl)) h0
    have := (Array.getElem?_eq_some_iff.1 hh).1
    omega
  refine (inner_calls W _ ni l (gl_of_laid hL hsh hbig) hl1 hl2 hl3).mono ?_
  rintro e W' ⟨rfl, bel⟩
  have e1 : ((OpenSpec.ofChange Rows.spacesInnerSpec).at F).fn H ([d0, .lit (.int .i64 ni)] ++ []) = { results := [.lit (.bool true)], args := [d0, .lit (.int .i64 ni)] } := rfl
  have hlt : ∀ x ∈ p0, x.block < W.heap.size := fun x hx => by simpa using hW'.lt x (by simpa using hx)
  have ARG : DataW.Trod enc Tryz.prog W' 0 (fun x => decide (x < W.heap.size)) true 45 (.slice va vl vc) d0 p0 :=
    WideElems.Trod_stays (by kernel_rfl) (by kernel_rfl) (of_decide_eq_true (by kernel_rfl)) h0 (fun x hx => bel.same (hlt x hx)) (fun x hx => by simpa using hlt x hx)
  refine ⟨_, rfl, _, _, _, [], p0 ++ [], [], hW', ?_, ?_, ?_, bel.frame _, fun h => by cases h⟩
  · rw [e1]; exact trodAll_mk1 (shut_bool Tryz.underlying4 _)
  · rw [e1]; exact trodAll_mk2 ARG (shut_int Tryz.underlying3 wn)
  · rw [e1]; rfl

theorem sinner_row : Rows.SpacesInnerSaid :=
  OpenClaim.holds_of_cond 8 Tryz.f8 rfl rfl rfl rfl rfl rfl rfl ⟨rfl, rfl, rfl, rfl, rfl⟩ rfl rfl rfl rfl rfl sinner_named Tryz.func8 sinner_joined
    sinner_inst sinner_wrap
    (fun os started H enc _ F0 => by rw [OpenClaim.pre_eq_preRow]; exact sinner_lifted os started H enc F0)

theorem spacesInner_holds : Rows.SpacesInnerCardSaid :=
  Claim7.holds_tied_plain_at .later [] [.data, .data, .data, .data, .sentinel, .sentinel, .pinned] true (true, "a203dd287369a0f2cd47524931cbd015b18cb2db62ac0ef814e87fdb3d83a7f0") true sinner_row (fun _ h => by cases h) (by kernel_rfl) (fun _ h => by cases h) spacesInner_row_tie rfl ⟨rfl, rfl⟩ (by kernel_rfl) rfl
    (fun f fn hf hfn => by
      obtain rfl : f = 8 := Option.some.inj ((show Tryz.prog.funcNamed "pavane/pavanelaw10.SpacesInner" = some 8 by kernel_rfl).symm.trans hf) |>.symm
      obtain rfl : fn = Tryz.f8 := (Option.some.inj (Tryz.func8.symm.trans hfn)).symm
      exact ⟨by kernel_rfl, fun j t ht => by
        rw [Tryz.params8] at ht
        have hm : t ∈ [45, 3] := by simpa using Array.mem_of_getElem? ht
        have hall : ([45, 3].all fun u => !Tryz.prog.wantsStandIn u) = true := by kernel_rfl
        exact (show Tryz.prog.wantsStandIn t = false by simpa using List.all_eq_true.1 hall t hm)⟩)
    (by kernel_rfl)
#print axioms spacesInner_holds
end Go.Proofs.YtokdclmikllepaaGreatDoor
