/-
  TreeTurned holds for every string: elements that stand within a root stand likewise within another one around it. No condition but what the row lists of package-level variables.
-/
import Derived.Test.YtokdclmikllepaaGreatDoorSv
import Derived.Test.YtokdclmikllepaaGreatDoorRows
import Derived.Test.YtokdclmikllepaaGreatDoorTie
import Derived.Test.YtokdclmikllepaaGreatDoorCards
import Derived.Test.YtokdclmikllepaaGreatDoorLv
import Derived.Test.YtokdclmikllepaaGreatDoorBtt
import Derived.Deep.DeepHandedRow
import Derived.Deep.DeepWitnessRowRef
import Derived.Lib.LaidIn
import Derived.Lib.LaidU8
import Derived.PinnedBridge
import Derived.LaidLaws
import Derived.ProofKit
import Derived.Lay
import Derived.SevenTiedAt
import Derived.SizedLaws
import Derived.Shelf.Vars
namespace Go.Proofs.YtokdclmikllepaaGreatDoor
open Go.ChangeShapes Go.WideShapes Go.ChangeAt Go.RowKit Go.Lib
open Go.ChangeMaps (open_string shut_string)
set_option linter.unusedVariables false

theorem own_ : ownKnob Tryz.prog.godebug = none := by kernel_rfl
theorem accept_eq : (Rows.laid_unicode_utf8_acceptRanges : DataW Unit) = acceptData := by kernel_rfl
theorem gSyn : Tryz.prog.globalNamed "strconv.ErrSyntax" = some 3 := by kernel_rfl
theorem gRng : Tryz.prog.globalNamed "strconv.ErrRange" = some 4 := by kernel_rfl
theorem ySyn : (Tryz.prog.globals[3]?).map (·.type) = some 117 := by kernel_rfl
theorem yRng : (Tryz.prog.globals[4]?).map (·.type) = some 117 := by kernel_rfl

/-- A variable that holds an error. -/
theorem err_cell {w : World} {n : String} {g : Nat} {nm : String} {d : DataW Unit} (hg : Tryz.prog.globalNamed n = some g) (hy : (Tryz.prog.globals[g]?).map (·.type) = some 117) (h : VarReads Tryz.prog w n (.iface nm d)) :
    ∃ t p, w.cell? ⟨g, 0, none⟩ = some (.iface t p) := by
  obtain ⟨g', t, cs, fuel, p, hg', ht, hv, hd⟩ := h
  obtain rfl := Option.some.inj (hg.symm.trans hg')
  obtain rfl := Option.some.inj (hy.symm.trans ht)
  obtain ⟨_, u, v, hcs, _, _⟩ := iface_of_trod Tryz.underlying117 hd
  refine ⟨u, v, ?_⟩
  have := World.var?_cell hg hv 0
  rw [this, ← Array.getElem?_toList, hcs]
  rfl

/-- What the row's list gives the walks. -/
theorem gl_of_laid {W : World} (hL : laidMet Tryz.prog Rows.treeTurnedRow.laid W) (hsh : W.ShapedOpen Tryz.prog) (hbig : 8 ≤ W.heap.size) : Gl W :=
  { big := hbig
    mx := cell_of_shapedOpen_int (g := 0) (t := 3) (zero := #[.int .i64 0]) hsh (of_decide_eq_true (by kernel_rfl)) (by kernel_rfl) rfl (by kernel_rfl) (by kernel_rfl) Tryz.underlying3
    tabs := utf8Tabs_of_reads (ρ := Tryz.lays260_ren) { Tryz.lays260 with } ⟨by kernel_rfl, by kernel_rfl, by kernel_rfl, by kernel_rfl, by kernel_rfl, by kernel_rfl, by kernel_rfl⟩
      (Pinned.utf8First_eq ▸ Lib.laidMet.reads hL (.tail _ (.tail _ (.tail _ (.tail _ (.tail _ (.tail _ (.head _))))))))
      (accept_eq ▸ Lib.laidMet.reads hL (.tail _ (.tail _ (.tail _ (.head _)))))
    esyn := err_cell gSyn ySyn (Lib.laidMet.reads hL (.tail _ (.tail _ (.tail _ (.tail _ (.tail _ (.head _)))))))
    erng := err_cell gRng yRng (Lib.laidMet.reads hL (.tail _ (.tail _ (.tail _ (.tail _ (.head _)))))) }

theorem turned_met (os : Os) (args : Array Value) : laidMet Tryz.prog Rows.treeTurnedRow.laid ((World.laidAll Tryz.prog os Rows.treeTurnedRow.laid).forCall (fun _ _ => 0) ⟨#[], args, []⟩).memory :=
  laidMet_laidAll _ (by kernel_rfl) (by kernel_rfl)
theorem turned_witness (os : Os) {H : Type} (enc : TypeId × Value → H) :
    (OpenSpec.ofChange Rows.treeTurnedSpec).preRow enc Tryz.prog Tryz.f14 Rows.treeTurnedRow.domain false Rows.treeTurnedRow.laid ((World.laidAll Tryz.prog os Rows.treeTurnedRow.laid).forCall (fun _ _ => 0) ⟨#[], #[.string ⟨#[]⟩], []⟩).memory #[.string ⟨#[]⟩] := by
  have hw : (DataW.whole enc Tryz.prog ((World.laidAll Tryz.prog os Rows.treeTurnedRow.laid).forCall (fun _ _ => 0) ⟨#[], #[.string ⟨#[]⟩], []⟩).memory Tryz.f14.params.toList (OpenSpec.ofChange Rows.treeTurnedSpec).vars false #[Value.string ⟨#[]⟩].toList 8).map (fun x => (x.1, x.2.1)) =
      some ([.lit (.string [])], []) := by kernel_rfl
  obtain ⟨⟨x1, x2, x3⟩, hx, hx1⟩ := Option.map_eq_some_iff.1 hw
  simp only [Prod.mk.injEq] at hx1
  obtain ⟨rfl, rfl⟩ := hx1
  exact OpenSpec.preRow_of_cond 8 hx (by kernel_rfl) (fun k hk => by cases hk) (by kernel_rfl) (turned_met os _)

set_option maxRecDepth 100000 in
set_option maxHeartbeats 2000000 in
theorem turned_lifted (os : Os) (started : os.Started) (H : Type) (enc : TypeId × Value → H) (F : Stop.Interp) :
    ReturnsInHanded {} Tryz.checked os 14 .any ((OpenSpec.ofChange Rows.treeTurnedSpec).preRow enc Tryz.prog Tryz.f14 Rows.treeTurnedRow.domain false Rows.treeTurnedRow.laid) (((OpenSpec.ofChange Rows.treeTurnedSpec).at F).post enc Tryz.prog Tryz.f14 false true false false) := by
  refine returnsInHanded_of_row (C := Tryz.checked) (s := OpenSpec.ofChange Rows.treeTurnedSpec) own_ started (by kernel_rfl) Tryz.func14
    (witness_row_atRef (enc := enc) (C := Tryz.checked) false (World.laidAll Tryz.prog os Rows.treeTurnedRow.laid) #[.string ⟨#[]⟩] (World.laidAll_os _ _ _) (by kernel_rfl) (by kernel_rfl) (by kernel_rfl) (turned_witness os enc)) ?_
  intro W base args ds gs before hval0 hW _ _ hsz0 hL hsh _
  have hsz : (DataW.weightsEach Tryz.prog (Tryz.f14.params.toList ++ (OpenSpec.ofChange Rows.treeTurnedSpec).bare.plain.varTypes Tryz.prog) (ds ++ gs)).all (· ≤ reachBytes) = true := hsz0
  clear hsz0
  have hval : ∀ (j : Nat) t v, Tryz.f14.params[j]? = some t → args[j]? = some v → Value.okWide Tryz.prog W .any base t v := hval0
  have hW' := hW
  obtain ⟨p, q, hA0, hV0, rfl, _, _⟩ := hW
  have hA : DataW.TrodAll enc Tryz.prog W 0 (fun _ => true) true Tryz.f14.params.toList args.toList ds p := hA0
  rw [Tryz.params14] at hA hval hsz
  obtain ⟨v0, d0, rfl, rfl, h0⟩ := trodAll_one hA
  obtain ⟨rfl, rfl⟩ := trodVars_none hV0
  obtain ⟨s, rfl, rfl, rfl, ws⟩ := open_string Tryz.underlying9 (hval 0 9 v0 rfl rfl) h0
  clear hA0 hV0 hval0
  have hs : s.size ≤ 140737488351232 := by
    have := sized_string hsz (j := 0) (t := 9) (bytes := s.data.toList) rfl rfl
    unfold reachBytes at this
    have e : s.data.toList.length = s.size := by simp
    omega
  have hbig : 8 ≤ W.heap.size := by
    have h7 : (((begin Tryz.prog (fun _ _ => 0) default).world.heap[7]?).bind Obj.row?).isSome = true := by kernel_rfl
    obtain ⟨⟨zero, t⟩, h0⟩ := Option.isSome_iff_exists.1 h7
    obtain ⟨cs, hh, _⟩ := hsh.1 7 zero t (of_decide_eq_true (by kernel_rfl)) h0
    have := (Array.getElem?_eq_some_iff.1 hh).1
    omega
  refine (turned_calls s W (gl_of_laid hL hsh hbig) hs).mono ?_
  rintro e W' ⟨rfl, bel⟩
  have e1 : ((OpenSpec.ofChange Rows.treeTurnedSpec).at F).fn H ([.lit (.string s.data.toList)] ++ []) = { results := [.lit (.bool true)], args := [.lit (.string s.data.toList)] } := rfl
  refine ⟨_, rfl, _, _, _, [], [], [], hW', ?_, ?_, ?_, bel.frame _, fun h => by cases h⟩
  · rw [e1]; exact trodAll_mk1 (shut_bool Tryz.underlying4 _)
  · rw [e1]; exact trodAll_mk1 (shut_string Tryz.underlying9 ws)
  · rw [e1]; rfl

theorem turned_row : Rows.TreeTurnedSaid :=
  OpenClaim.holds_of_cond 14 Tryz.f14 rfl rfl rfl rfl rfl rfl rfl ⟨rfl, rfl, rfl, rfl, rfl⟩ rfl rfl rfl rfl rfl turned_named Tryz.func14 turned_joined
    turned_inst turned_wrap
    (fun os started H enc _ F0 => by rw [OpenClaim.pre_eq_preRow]; exact turned_lifted os started H enc F0)

theorem treeTurned_holds : Rows.TreeTurnedCardSaid :=
  Claim7.holds_tied_plain_at .later [] [.data, .data, .data, .data, .sentinel, .sentinel, .pinned] true (true, "a203dd287369a0f2cd47524931cbd015b18cb2db62ac0ef814e87fdb3d83a7f0") true turned_row (fun _ h => by cases h) (by kernel_rfl) (fun _ h => by cases h) treeTurned_row_tie rfl ⟨rfl, rfl⟩ (by kernel_rfl) rfl
    (fun f fn hf hfn => by
      obtain rfl : f = 14 := Option.some.inj ((show Tryz.prog.funcNamed "pavane/pavanelaw09.TreeTurned" = some 14 by kernel_rfl).symm.trans hf) |>.symm
      obtain rfl : fn = Tryz.f14 := (Option.some.inj (Tryz.func14.symm.trans hfn)).symm
      exact ⟨by kernel_rfl, fun j t ht => by
        rw [Tryz.params14] at ht
        have hm : t ∈ [9] := by simpa using Array.mem_of_getElem? ht
        have hall : ([9].all fun u => !Tryz.prog.wantsStandIn u) = true := by kernel_rfl
        exact (show Tryz.prog.wantsStandIn t = false by simpa using List.all_eq_true.1 hall t hm)⟩)
    (by kernel_rfl)
#print axioms treeTurned_holds
end Go.Proofs.YtokdclmikllepaaGreatDoor
