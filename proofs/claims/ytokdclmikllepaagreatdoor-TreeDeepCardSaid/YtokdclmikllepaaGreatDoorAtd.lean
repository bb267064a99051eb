/-
  TreeDeep holds for every pair of numbers: just so many elements lie within one another, and just so many there are. No condition but what the row lists of package-level variables.
-/
import Derived.Test.YtokdclmikllepaaGreatDoorSv
import Derived.Test.YtokdclmikllepaaGreatDoorRows
import Derived.Test.YtokdclmikllepaaGreatDoorTie
import Derived.Test.YtokdclmikllepaaGreatDoorCards
import Derived.Test.YtokdclmikllepaaGreatDoorLs
import Derived.Test.YtokdclmikllepaaGreatDoorBtd
import Derived.Deep.DeepHandedRow
import Derived.Deep.DeepWitnessRowRef
import Derived.Lib.LaidIn
import Derived.Lib.LaidU8
import Derived.PinnedBridge
import Derived.LaidLaws
import Derived.ProofKit
import Derived.Lay
import Derived.SevenTiedAt
import Derived.SizedLaws
import Derived.Shelf.Vars
namespace Go.Proofs.YtokdclmikllepaaGreatDoor
open Go.ChangeShapes Go.WideShapes Go.ChangeAt Go.RowKit Go.Lib
open Go.ChangeMaps (open_string shut_string)
set_option linter.unusedVariables false

theorem own_ : ownKnob Tryz.prog.godebug = none := by kernel_rfl
theorem accept_eq : (Rows.laid_unicode_utf8_acceptRanges : DataW Unit) = acceptData := by kernel_rfl
theorem gSyn : Tryz.prog.globalNamed "strconv.ErrSyntax" = some 3 := by kernel_rfl
theorem gRng : Tryz.prog.globalNamed "strconv.ErrRange" = some 4 := by kernel_rfl
theorem ySyn : (Tryz.prog.globals[3]?).map (·.type) = some 117 := by kernel_rfl
theorem yRng : (Tryz.prog.globals[4]?).map (·.type) = some 117 := by kernel_rfl

/-- A variable that holds an error. -/
theorem err_cell {w : World} {n : String} {g : Nat} {nm : String} {d : DataW Unit} (hg : Tryz.prog.globalNamed n = some g) (hy : (Tryz.prog.globals[g]?).map (·.type) = some 117) (h : VarReads Tryz.prog w n (.iface nm d)) :
    ∃ t p, w.cell? ⟨g, 0, none⟩ = some (.iface t p) := by
  obtain ⟨g', t, cs, fuel, p, hg', ht, hv, hd⟩ := h
  obtain rfl := Option.some.inj (hg.symm.trans hg')
  obtain rfl := Option.some.inj (hy.symm.trans ht)
  obtain ⟨_, u, v, hcs, _, _⟩ := iface_of_trod Tryz.underlying117 hd
  refine ⟨u, v, ?_⟩
  have := World.var?_cell hg hv 0
  rw [this, ← Array.getElem?_toList, hcs]
  rfl

/-- What the row's list gives the walks. -/
theorem gl_of_laid {W : World} (hL : laidMet Tryz.prog Rows.treeDeepRow.laid W) (hsh : W.ShapedOpen Tryz.prog) (hbig : 8 ≤ W.heap.size) : Gl W :=
  { big := hbig
    mx := cell_of_shapedOpen_int (g := 0) (t := 3) (zero := #[.int .i64 0]) hsh (of_decide_eq_true (by kernel_rfl)) (by kernel_rfl) rfl (by kernel_rfl) (by kernel_rfl) Tryz.underlying3
    tabs := utf8Tabs_of_reads (ρ := Tryz.lays260_ren) { Tryz.lays260 with } ⟨by kernel_rfl, by kernel_rfl, by kernel_rfl, by kernel_rfl, by kernel_rfl, by kernel_rfl, by kernel_rfl⟩
      (Pinned.utf8First_eq ▸ Lib.laidMet.reads hL (.tail _ (.tail _ (.tail _ (.tail _ (.tail _ (.tail _ (.head _))))))))
      (accept_eq ▸ Lib.laidMet.reads hL (.tail _ (.tail _ (.tail _ (.head _)))))
    esyn := err_cell gSyn ySyn (Lib.laidMet.reads hL (.tail _ (.tail _ (.tail _ (.tail _ (.tail _ (.head _)))))))
    erng := err_cell gRng yRng (Lib.laidMet.reads hL (.tail _ (.tail _ (.tail _ (.tail _ (.head _)))))) }

theorem deep_met (os : Os) (args : Array Value) : laidMet Tryz.prog Rows.treeDeepRow.laid ((World.laidAll Tryz.prog os Rows.treeDeepRow.laid).forCall (fun _ _ => 0) ⟨#[], args, []⟩).memory :=
  laidMet_laidAll _ (by kernel_rfl) (by kernel_rfl)
theorem deep_witness (os : Os) {H : Type} (enc : TypeId × Value → H) :
    (OpenSpec.ofChange Rows.treeDeepSpec).preRow enc Tryz.prog Tryz.f13 Rows.treeDeepRow.domain false Rows.treeDeepRow.laid ((World.laidAll Tryz.prog os Rows.treeDeepRow.laid).forCall (fun _ _ => 0) ⟨#[], #[.int .u8 0, .int .u16 0], []⟩).memory #[.int .u8 0, .int .u16 0] := by
  have hw : (DataW.whole enc Tryz.prog ((World.laidAll Tryz.prog os Rows.treeDeepRow.laid).forCall (fun _ _ => 0) ⟨#[], #[.int .u8 0, .int .u16 0], []⟩).memory Tryz.f13.params.toList (OpenSpec.ofChange Rows.treeDeepSpec).vars false #[Value.int .u8 0, Value.int .u16 0].toList 8).map (fun x => (x.1, x.2.1)) =
      some ([.lit (.int .u8 0), .lit (.int .u16 0)], []) := by kernel_rfl
  obtain ⟨⟨x1, x2, x3⟩, hx, hx1⟩ := Option.map_eq_some_iff.1 hw
  simp only [Prod.mk.injEq] at hx1
  obtain ⟨rfl, rfl⟩ := hx1
  exact OpenSpec.preRow_of_cond 8 hx (by kernel_rfl) (fun k hk => by cases hk) (by kernel_rfl) (deep_met os _)

set_option maxRecDepth 100000 in
set_option maxHeartbeats 2000000 in
theorem deep_lifted (os : Os) (started : os.Started) (H : Type) (enc : TypeId × Value → H) (F : Stop.Interp) :
    ReturnsInHanded {} Tryz.checked os 13 .any ((OpenSpec.ofChange Rows.treeDeepSpec).preRow enc Tryz.prog Tryz.f13 Rows.treeDeepRow.domain false Rows.treeDeepRow.laid) (((OpenSpec.ofChange Rows.treeDeepSpec).at F).post enc Tryz.prog Tryz.f13 false true false false) := by
  refine returnsInHanded_of_row (C := Tryz.checked) (s := OpenSpec.ofChange Rows.treeDeepSpec) own_ started (by kernel_rfl) Tryz.func13
    (witness_row_atRef (enc := enc) (C := Tryz.checked) false (World.laidAll Tryz.prog os Rows.treeDeepRow.laid) #[.int .u8 0, .int .u16 0] (World.laidAll_os _ _ _) (by kernel_rfl) (by kernel_rfl) (by kernel_rfl) (deep_witness os enc)) ?_
  intro W base args ds gs before hval0 hW _ _ hsz0 hL hsh _
  have hsz : (DataW.weightsEach Tryz.prog (Tryz.f13.params.toList ++ (OpenSpec.ofChange Rows.treeDeepSpec).bare.plain.varTypes Tryz.prog) (ds ++ gs)).all (· ≤ reachBytes) = true := hsz0
  clear hsz0
  have hval : ∀ (j : Nat) t v, Tryz.f13.params[j]? = some t → args[j]? = some v → Value.okWide Tryz.prog W .any base t v := hval0
  have hW' := hW
  obtain ⟨p, q, hA0, hV0, rfl, _, _⟩ := hW
  have hA : DataW.TrodAll enc Tryz.prog W 0 (fun _ => true) true Tryz.f13.params.toList args.toList ds p := hA0
  rw [Tryz.params13] at hA hval hsz
  obtain ⟨v0, v1, d0, d1, p0, p1, rfl, rfl, rfl, h0, h1⟩ := trodAll_two hA
  obtain ⟨rfl, rfl⟩ := trodVars_none hV0
  obtain ⟨n, rfl, rfl, rfl, wn⟩ := open_int Tryz.underlying5 (hval 0 5 v0 rfl rfl) h0
  obtain ⟨m, rfl, rfl, rfl, wm⟩ := open_int Tryz.underlying70 (hval 1 70 v1 rfl rfl) h1
  clear hA0 hV0 hval0
  have hn : 0 ≤ n ∧ n < 256 := by
    have h2 := wn
    unfold Lit.wf at h2
    rw [Bool.and_eq_true, decide_eq_true_eq, decide_eq_true_eq] at h2
    have e1 : (IntKind.u8.min : Int) = 0 := rfl
    have e2 : (IntKind.u8.max : Int) = 255 := rfl
    omega
  have hm : 0 ≤ m ∧ m < 65536 := by
    have h2 := wm
    unfold Lit.wf at h2
    rw [Bool.and_eq_true, decide_eq_true_eq, decide_eq_true_eq] at h2
    have e1 : (IntKind.u16.min : Int) = 0 := rfl
    have e2 : (IntKind.u16.max : Int) = 65535 := rfl
    omega
  obtain ⟨n, rfl⟩ := Int.eq_ofNat_of_zero_le hn.1
  obtain ⟨m, rfl⟩ := Int.eq_ofNat_of_zero_le hm.1
  have hbig : 8 ≤ W.heap.size := by
    have h7 : (((begin Tryz.prog (fun _ _ => 0) default).world.heap[7]?).bind Obj.row?).isSome = true := by kernel_rfl
    obtain ⟨⟨zero, t⟩, h0⟩ := Option.isSome_iff_exists.1 h7
    obtain ⟨cs, hh, _⟩ := hsh.1 7 zero t (of_decide_eq_true (by kernel_rfl)) h0
    have := (Array.getElem?_eq_some_iff.1 hh).1
    omega
  refine (deep_calls n m (by omega) (by omega) W (gl_of_laid hL hsh hbig)).mono ?_
  rintro e W' ⟨rfl, bel⟩
  have e1 : ((OpenSpec.ofChange Rows.treeDeepSpec).at F).fn H ([.lit (.int .u8 (n : Int)), .lit (.int .u16 (m : Int))] ++ []) = { results := [.lit (.bool true)], args := [.lit (.int .u8 (n : Int)), .lit (.int .u16 (m : Int))] } := rfl
  refine ⟨_, rfl, _, _, _, [], [], [], hW', ?_, ?_, ?_, bel.frame _, fun h => by cases h⟩
  · rw [e1]; exact trodAll_mk1 (shut_bool Tryz.underlying4 _)
  · rw [e1]; exact trodAll_mk2 (shut_int Tryz.underlying5 wn) (shut_int Tryz.underlying70 wm)
  · rw [e1]; rfl

theorem deep_row : Rows.TreeDeepSaid :=
  OpenClaim.holds_of_cond 13 Tryz.f13 rfl rfl rfl rfl rfl rfl rfl ⟨rfl, rfl, rfl, rfl, rfl⟩ rfl rfl rfl rfl rfl deep_named Tryz.func13 deep_joined
    deep_inst deep_wrap
    (fun os started H enc _ F0 => by rw [OpenClaim.pre_eq_preRow]; exact deep_lifted os started H enc F0)

theorem treeDeep_holds : Rows.TreeDeepCardSaid :=
  Claim7.holds_tied_plain_at .later [] [.data, .data, .data, .data, .sentinel, .sentinel, .pinned] true (true, "a203dd287369a0f2cd47524931cbd015b18cb2db62ac0ef814e87fdb3d83a7f0") true deep_row (fun _ h => by cases h) (by kernel_rfl) (fun _ h => by cases h) treeDeep_row_tie rfl ⟨rfl, rfl⟩ (by kernel_rfl) rfl
    (fun f fn hf hfn => by
      obtain rfl : f = 13 := Option.some.inj ((show Tryz.prog.funcNamed "pavane/pavanelaw09.TreeDeep" = some 13 by kernel_rfl).symm.trans hf) |>.symm
      obtain rfl : fn = Tryz.f13 := (Option.some.inj (Tryz.func13.symm.trans hfn)).symm
      exact ⟨by kernel_rfl, fun j t ht => by
        rw [Tryz.params13] at ht
        have hm : t ∈ [5, 70] := by simpa using Array.mem_of_getElem? ht
        have hall : ([5, 70].all fun u => !Tryz.prog.wantsStandIn u) = true := by kernel_rfl
        exact (show Tryz.prog.wantsStandIn t = false by simpa using List.all_eq_true.1 hall t hm)⟩)
    (by kernel_rfl)
#print axioms treeDeep_holds
end Go.Proofs.YtokdclmikllepaaGreatDoor
