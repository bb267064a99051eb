import Derived.Test.YtokdclmikllepaaGreatDoorKt26
import Derived.Test.YtokdclmikllepaaGreatDoorKt23
import Derived.Test.YtokdclmikllepaaGreatDoorKt27
import Derived.Deep.DeepCutAuto
import Derived.Laws.AppendOwn
import Derived.Laws.MakeOwn
import Derived.Great.Walk
import Derived.Deep.DeepMust
import Derived.Laws.IdiomStrings
namespace Go.Proofs.YtokdclmikllepaaGreatDoor
open Go.RowKit
set_option linter.unusedVariables false
set_option linter.unusedSimpArgs false

/-- What a Replacer is built of: single bytes, and what they become. -/
abbrev Prs := List (UInt8 × ByteArray)
def pairVals (ps : Prs) : List Value := ps.flatMap fun x => [.string ⟨#[x.1]⟩, .string x.2]
theorem pairVals_length (ps : Prs) : (pairVals ps).length = 2 * ps.length := by
  induction ps with
  | nil => rfl
  | cons x t ih => simp [pairVals] at *; omega
theorem pairVals_old (ps : Prs) (i : Nat) (x : UInt8 × ByteArray) (h : ps[i]? = some x) : (pairVals ps)[i * 2]? = some (.string ⟨#[x.1]⟩) := by
  have := flat_get (fun x : UInt8 × ByteArray => [Value.string ⟨#[x.1]⟩, Value.string x.2]) 2 (fun _ => rfl) ps i 0 (by omega)
  rw [Nat.add_zero, h] at this
  exact this
theorem pairVals_new (ps : Prs) (i : Nat) (x : UInt8 × ByteArray) (h : ps[i]? = some x) : (pairVals ps)[i * 2 + 1]? = some (.string x.2) := by
  have := flat_get (fun x : UInt8 × ByteArray => [Value.string ⟨#[x.1]⟩, Value.string x.2]) 2 (fun _ => rfl) ps i 1 (by omega)
  rw [h] at this
  exact this

/-- What a byteStringReplacer's cells are: the table's 256, then the bytes that it looks for. -/
def bsrCells (T : Array Value) (v : Value) : Array Value := T.push v
def bsrNil : Array Value := Array.replicate 256 (.slice none 0 0)
theorem bsr_size : (Tryz.prog.info? 202).map (·.size) = some 257 := by kernel_rfl
theorem bsr_one (a : Option Addr) (l c : Nat) : (bsrCells bsrNil (.slice a l c)).all (·.oneCell') = true := by kernel_rfl
theorem bsr_len (v : Value) : (bsrCells bsrNil v).size = 257 := by simp [bsrCells, bsrNil]

/-- The table at block h. -/
def Bt (w : World) (h : Nat) (T : Array Value) (v : Value) : Prop := T.size = 256 ∧ w.heap[h]? = some (.cells (bsrCells T v) 202 (0, 0))
section
variable {w w' : World} {h : Nat} {T : Array Value} {v : Value}
theorem Bt.lt (hb : Bt w h T v) : h < w.heap.size := (Array.getElem?_eq_some_iff.1 hb.2).1
theorem Bt.cell (hb : Bt w h T v) (c : Nat) (u : Value) (hc : T[c]? = some u) : w.cell? ⟨h, c, none⟩ = some u := by
  have := cell_of_row w h c _ _ _ hb.2
  rw [this]
  unfold bsrCells
  have hlt := (Array.getElem?_eq_some_iff.1 hc).1
  rw [Array.getElem?_push, if_neg (by omega), hc]
theorem Bt.last (hb : Bt w h T v) : w.cell? ⟨h, 256, none⟩ = some v := by
  have := cell_of_row w h 256 _ _ _ hb.2
  rw [this]
  unfold bsrCells
  rw [Array.getElem?_push, if_pos hb.1.symm]
theorem Bt.fz (hb : Bt w h T v) (i : Nat) : w.frozen? ⟨h, i, none⟩ = false := by
  have h2 := hb.2
  simp [World.frozen?, h2]
theorem Bt.set (hb : Bt w h T v) (c : Nat) (u : Value) (hc : c < 256) : Bt (w.setCell ⟨h, c, none⟩ u) h (T.setIfInBounds c u) v := by
  refine ⟨by simp [hb.1], (heap_set w h c _ _ _ u hb.2).trans ?_⟩
  unfold bsrCells
  congr 2
  apply Array.ext_getElem?
  intro i
  have h1 := hb.1
  simp only [Array.getElem?_setIfInBounds, Array.getElem?_push, Array.size_push, Array.size_setIfInBounds]
  by_cases hi : c = i
  · subst hi; simp [show c < T.size + 1 by omega, show c < T.size by omega, show ¬ c = T.size by omega]
  · simp [hi]
theorem Bt.setLast (hb : Bt w h T v) (u : Value) : Bt (w.setCell ⟨h, 256, none⟩ u) h T u := by
  refine ⟨hb.1, (heap_set w h 256 _ _ _ u hb.2).trans ?_⟩
  unfold bsrCells
  congr 2
  apply Array.ext_getElem?
  intro i
  have h1 := hb.1
  simp only [Array.getElem?_setIfInBounds, Array.getElem?_push, Array.size_push, Array.size_setIfInBounds]
  by_cases hi : 256 = i
  · subst hi; simp [h1]
  · simp [hi, h1, show ¬ i = 256 from fun e => hi e.symm]
theorem Bt.below (hb : Bt w h T v) (k : Below w.heap.size w w') : Bt w' h T v := ⟨hb.1, (k.block h hb.lt).trans hb.2⟩
theorem Bt.grown {row : Option Nat} (hb : Bt w h T v) (hg : w.grownBy w' row) (hne : row ≠ some h) : Bt w' h T v := ⟨hb.1, (hg.block h hb.lt (fun e => hne e.symm)).trans hb.2⟩
end

theorem infoStr : (Tryz.prog.info? 9).map (fun i => (i.zero, i.size, i.bytes)) = some (some (.string ⟨#[]⟩), 1, 16) := by kernel_rfl

/-- What the table says of a byte: nothing, or a row of bytes that was made. -/
def TabIs (B : Nat) (w : World) (r : Option ByteArray) (u : Value) : Prop :=
  match r with
  | none => u = .slice none 0 0
  | some r => ∃ g C fz, u = .slice (some ⟨g, 0, none⟩) r.size C ∧ B ≤ g ∧ w.heap[g]? = some (.cells (bytesRow r C) 5 fz)
theorem TabIs.grown {B : Nat} {w w' : World} {r : Option ByteArray} {u : Value} {row : Option Nat} (h : TabIs B w r u) (hg : w.grownBy w' row) (hne : ∀ k cs fz, row = some k → w.heap[k]? ≠ some (.cells cs 5 fz)) : TabIs B w' r u := by
  cases r with
  | none => exact h
  | some r =>
    obtain ⟨g, C, fz, rfl, hb, hh⟩ := h
    exact ⟨g, C, fz, rfl, hb, (hg.block g (Array.getElem?_eq_some_iff.1 hh).1 (fun e => hne g _ _ e.symm hh)).trans hh⟩
def oldVals (ps : Prs) : List Value := (ps.map fun x => Value.string ⟨#[x.1]⟩).reverse

/-- The table is built of these pairs. -/
def Built (B h : Nat) (ps : Prs) (w : World) : Prop :=
  ∃ T tv, Bt w h T tv ∧ B ≤ h ∧ w.ownsRow B 9 1 tv ps.length (oldVals ps) ∧ ∀ c : UInt8, ∃ u, T[c.toNat]? = some u ∧ TabIs B w (ps.lookup c) u

theorem own_slice {w : World} {base : Nat} {e : TypeId} {size n : Nat} {v : Value} {xs : List Value} (h : w.ownsRow base e size v n xs) : ∃ a c, v = .slice a n c := by
  rcases h.2 with ⟨rfl, h0⟩ | ⟨g, cap, cur, rfl, _⟩
  · exact ⟨none, 0, by rw [h0]⟩
  · exact ⟨_, cap, rfl⟩
theorem wpList_appStr {ops : Array Oper} {rest : List Oper} {o : Oper} {a : Act} {Q : Exit → Act → World → Prop} (hgd : o.guard = none) (s x : Operand)
    (ho : o.op = .call { callee := .builtin .append, args := #[s, x], argTypes := #[139, 139] })
    {base n : Nat} {W : World} {v : Value} {xs : List Value} (t : ByteArray) (hs : a.eval s = v) (hv : W.ownsRow base 9 1 v n xs) (hbase : base ≤ W.heap.size) (hn : n < 1000)
    (hx : a.eval x = .slice (some ⟨W.heap.size, 0, none⟩) 1 1)
    (h : ∀ v' w', w'.ownsRow base 9 1 v' (n + 1) (xs ++ [.string t]) → (W.alloc (.cells #[.string t] 9)).grownBy w' v.ownBlock → wpList Tryz.prog ops Q rest (a.put o.dst v') w') :
    wpList Tryz.prog ops Q (o :: rest) a (W.alloc (.cells #[.string t] 9)) := by
  obtain ⟨i0, hi, hz0, hz1, hz2⟩ := info_parts infoStr
  refine wpList_append_own _ hgd s x 139 ho base 9 i0 _ 1 16 Tryz.underlying139 hi hz0 hz1 hz2 rfl (by decide) v n xs hs (hv.alloc _) ⟨W.heap.size, 0, none⟩ 1 1 [.string t] hx rfl
    (World.news_of_block (cs := #[.string t]) (heap_alloc_new W _)) ?_ (by unfold maxLen; omega) (by omega) (by rw [sz_alloc]; omega) ?_
  · intro u hu
    rw [List.mem_singleton.1 hu]
    rfl
  · intro v' w' h1 h2 _
    exact h v' w' h1 h2

/-- '[]byte(s)' at the operation: a new row. -/
theorem wpList_bytesOf {ops : Array Oper} {rest : List Oper} {o : Oper} {a : Act} {Q : Exit → Act → World → Prop} (hgd : o.guard = none) (x : Operand) (ho : o.op = .convert 9 36 x) (s : ByteArray) (hx : a.eval x = .string s) (W : World)
    (h : ∀ C fz w', w'.heap[W.heap.size]? = some (.cells (bytesRow s C) 5 fz) → Below W.heap.size W w' → wpList Tryz.prog ops Q rest (a.put o.dst (.slice (some ⟨W.heap.size, 0, none⟩) s.size C)) w') :
    wpList Tryz.prog ops Q (o :: rest) a W := by
  refine wpList_plain hgd fun K hK' => ?_
  have hr := run_bytes_of_string (P := Tryz.prog) W 9 36 5 s Tryz.underlying9 Tryz.underlying36 Tryz.underlying5
  unfold Oper.wp
  simp [execOp, ho, hx, hr, Result.andThen]
  exact hK' _ _ (h _ _ _ (heap_alloc_new W.drew _) (((Below.refl _ _).drew).alloc (Nat.le_refl _) _))

theorem below_grown {w w' : World} (h : Below w.heap.size w w') : w.grownBy w' none := ⟨h.os, h.tape, h.output, h.size, fun i hi _ => h.block i hi⟩
theorem Bt.noByte {w : World} {h : Nat} {T : Array Value} {v : Value} (hb : Bt w h T v) : ∀ k cs fz, some h = some k → w.heap[k]? ≠ some (.cells cs 5 fz) := by
  intro k cs fz hk e
  injection hk with hk
  subst hk
  rw [hb.2] at e
  injection e with e
  injection e with _ e _
  exact absurd e (by decide)
theorem own_noByte {w : World} {B n : Nat} {v : Value} {xs : List Value} (ho : w.ownsRow B 9 1 v n xs) : ∀ k cs fz, v.ownBlock = some k → w.heap[k]? ≠ some (.cells cs 5 fz) :=
  fun k cs fz hk e => own_ne ho e (by decide) hk

theorem built_next {B h : Nat} {wr w2 w4 : World} {ps : Prs} {x1 : UInt8} {x2 : ByteArray} {T : Array Value} {tv V : Value} {o1 o2 : Obj} {C : Nat} {fz : Nat × Nat} (hB : B ≤ wr.heap.size) (hBh : B ≤ h) (hbt : Bt wr h T tv)
    (hown : wr.ownsRow B 9 1 tv ps.length (oldVals ps)) (htab : ∀ c : UInt8, ∃ u, T[c.toNat]? = some u ∧ TabIs B wr (ps.lookup c) u)
    (hg2 : ((wr.alloc o1).alloc o2).grownBy w2 tv.ownBlock) (ho2 : w2.ownsRow B 9 1 V (ps.length + 1) (oldVals ps ++ [.string ⟨#[x1]⟩]))
    (hn4 : w4.heap[(w2.setCell ⟨h, 256, none⟩ V).heap.size]? = some (.cells (bytesRow x2 C) 5 fz)) (hb4 : Below (w2.setCell ⟨h, 256, none⟩ V).heap.size (w2.setCell ⟨h, 256, none⟩ V) w4) :
    Built B h ((x1, x2) :: ps) (w4.setCell ⟨h, x1.toNat, none⟩ (.slice (some ⟨w2.heap.size, 0, none⟩) x2.size C)) ∧ Below B wr (w4.setCell ⟨h, x1.toNat, none⟩ (.slice (some ⟨w2.heap.size, 0, none⟩) x2.size C)) := by
  have hbA : Below wr.heap.size wr ((wr.alloc o1).alloc o2) := ((Below.refl _ _).alloc (Nat.le_refl _) _).alloc (by rw [sz_alloc]; omega) _
  have hne := own_ne hown hbt.2 (by decide)
  have hbtA := hbt.below hbA
  have hownA := hown.kept (below_grown hbA) (by cases tv.ownBlock <;> simp)
  have hbt2 : Bt w2 h T tv := hbtA.grown hg2 hne
  have hne2 := own_ne ho2 hbt2.2 (by decide)
  have hgs : w2.grownBy (w2.setCell ⟨h, 256, none⟩ V) (some h) := (Only.refl h w2).set 256 V
  have hbt3 := hbt2.setLast V
  have ho3 := ho2.kept hgs (.inr hne2)
  have hsz3 : (w2.setCell ⟨h, 256, none⟩ V).heap.size = w2.heap.size := by simp [World.setCell]
  have hbt4 := hbt3.below hb4
  have ho4 := ho3.kept (below_grown hb4) (by cases V.ownBlock <;> simp)
  have hlt := UInt8.toNat_lt x1
  have hbt5 := hbt4.set x1.toNat (.slice (some ⟨w2.heap.size, 0, none⟩) x2.size C) (by omega)
  have hgs4 : w4.grownBy (w4.setCell ⟨h, x1.toNat, none⟩ (.slice (some ⟨w2.heap.size, 0, none⟩) x2.size C)) (some h) := (Only.refl h w4).set _ _
  have ho5 := ho4.kept hgs4 (.inr (own_ne ho4 hbt4.2 (by decide)))
  have hBw2 : B ≤ w2.heap.size := Nat.le_trans hB (Nat.le_trans hbA.size hg2.size)
  refine ⟨⟨_, _, hbt5, hBh, ?_, fun c => ?_⟩, ?_⟩
  · unfold oldVals at ho5 ⊢
    rw [List.map_cons, List.reverse_cons, List.length_cons]
    exact ho5
  · obtain ⟨u, hu, hu2⟩ := htab c
    have hk : TabIs B (w4.setCell ⟨h, x1.toNat, none⟩ (.slice (some ⟨w2.heap.size, 0, none⟩) x2.size C)) (ps.lookup c) u :=
      ((((hu2.grown (below_grown hbA) (by simp)).grown hg2 (own_noByte hownA)).grown hgs hbt2.noByte).grown (below_grown hb4) (by simp)).grown hgs4 hbt4.noByte
    by_cases hc : c = x1
    · subst hc
      refine ⟨.slice (some ⟨w2.heap.size, 0, none⟩) x2.size C, by simp [hbt.1, hlt], ?_⟩
      rw [List.lookup_cons_self]
      refine ⟨w2.heap.size, C, fz, rfl, hBw2, ?_⟩
      rw [hsz3] at hn4
      exact (hgs4.block _ (Array.getElem?_eq_some_iff.1 hn4).1 (fun e => by injection e with e; have := hbt2.lt; omega)).trans hn4
    · refine ⟨u, ?_, ?_⟩
      · rw [Array.getElem?_setIfInBounds, if_neg (fun e => hc (UInt8.toNat_inj.1 e.symm))]
        exact hu
      · rw [List.lookup_cons, show (c == x1) = false from by simpa using hc]
        exact hk
  · have hBA : Below B wr ((wr.alloc o1).alloc o2) := hbA.mono hB
    refine ⟨hgs4.os.trans (hb4.os.trans (hgs.os.trans (hg2.os.trans hBA.os))), hgs4.tape.trans (hb4.tape.trans (hgs.tape.trans (hg2.tape.trans hBA.tape))), hgs4.output.trans (hb4.output.trans (hgs.output.trans (hg2.output.trans hBA.output))),
      Nat.le_trans hBA.size (Nat.le_trans hg2.size (Nat.le_trans hgs.size (Nat.le_trans hb4.size hgs4.size))), fun k hk => ?_⟩
    have k1 : k < ((wr.alloc o1).alloc o2).heap.size := by have := hbA.size; omega
    have k2 : k < w2.heap.size := by omega
    have k3 : k < (w2.setCell ⟨h, 256, none⟩ V).heap.size := by omega
    have k4 : k < w4.heap.size := by have := hb4.size; omega
    have hkh : some k ≠ some h := fun e => by injection e with e; omega
    exact (hgs4.block k k4 hkh).trans ((hb4.block k k3).trans ((hgs.block k k2 hkh).trans ((hg2.block k k1 (fun e => by have := (hown.lt k e.symm).1; omega)).trans (hBA.block k hk))))

set_option maxHeartbeats 4000000 in
set_option maxRecDepth 100000 in
theorem build_calls (ps : Prs) (b g n : Nat) (cap : Nat) (r : Value) (w : World) (hr : Rp w b 0 1 0 r (.slice (some ⟨g, 0, none⟩) n cap)) (hn : n = 2 * ps.length) (h2 : 2 ≤ ps.length) (h9 : ps.length < 100) (hnd : (ps.map Prod.fst).Nodup)
    (hc : ∀ j u, (pairVals ps)[j]? = some u → w.cell? ⟨g, j, none⟩ = some u) (hnew : ∀ x ∈ ps, x.2.size ≠ 1) :
    Calls Tryz.prog 131 #[.pointer (some ⟨b, 0, none⟩)] w fun e w' => ∃ h, e = .returned (.iface 203 (.pointer (some ⟨h, 0, none⟩))) ∧ Below w.heap.size w w' ∧ Built w.heap.size h ps w' := by
  have h4 := hr.c4
  have hHC := Lib.hid hc
  have hHN := Lib.hid hnew
  have hn2 : ((n : Int) == 2) = false := by rw [beq_eq_false_iff_ne]; omega
  have hq : ((n : Int)).tdiv 2 = ps.length := by subst hn; rw [Int.natCast_mul]; exact Int.mul_tdiv_cancel_left _ (by decide)
  have HN := Lib.hid hn
  obtain ⟨i0, hi, hz0, hz1, hz2⟩ := info_parts infoStr
  have HND := Lib.hid hnd
  have hnil : ∀ w : World, (binOp .eql 36 (.slice none 0 0) (.slice none 0 0)).run Tryz.prog w = .ok (.bool true) w := fun _ => by kernel_rfl
  clear hc hnew hn hnd
  go_enter Tryz.func131, Tryz.ntmps131
  go_wp2_with fail
  go_loopg [4, 5] (n + 1) (fun kk x4 x5 wr => ∃ k : Nat, x5 = .int .i64 (2 * k : Nat) ∧ x4 = .bool (decide (k = 0)) ∧ k ≤ ps.length ∧ ps.length - k < kk ∧ w = wr)
  case atStart => have := HN.out; exact ⟨0, rfl, rfl, by omega, by omega, rfl⟩
  case round =>
    obtain ⟨k, rfl, rfl, hk, hkk, rfl⟩ := hrel
    have hn := HN.out
    by_cases hlt : k < ps.length
    · have hd : decide (((2 * k : Nat) : Int) < n) = true := by simp; omega
      have c0 := hHC.out _ _ (pairVals_old ps k _ (List.getElem?_eq_getElem hlt))
      have c1 := hHC.out _ _ (pairVals_new ps k _ (List.getElem?_eq_getElem hlt))
      have hz := hHN.out _ (List.getElem_mem hlt)
      rw [Nat.mul_comm] at c0 c1
      have hz2 : ((((ps[k].2).size : Nat) : Int) != 1) = true := by rw [bne_iff_ne]; omega
      generalize ps[k].2 = x2 at *
      generalize ps[k].1 = x1 at *
      have b1 : ((2 * k : Nat) : Int) + 1 < n := by omega
      have b0 : ((2 * k : Nat) : Int) < n := by omega
      have b2 : (0 : Int) ≤ ((2 * k : Nat) : Int) := by omega
      have b3 : (0 : Int) ≤ ((2 * k : Nat) : Int) + 1 := by omega
      have hbk : 2 * (k + 1) = 2 * k + 2 := by omega
      clear hn
      generalize hm : 2 * k = m at *
      go_wp2_with fail
      go_roundg (gk - 1)
      case measure => omega
      case rel => exact ⟨k + 1, by rw [hbk]; simp, by simp, by omega, by omega, rfl⟩
    · obtain rfl : k = ps.length := by omega
      obtain ⟨m, hm⟩ : ∃ m, 2 * ps.length = m := ⟨_, rfl⟩
      rw [hm]
      have hd : ¬ m < n := by omega
      have hk0 : decide (ps.length = 0) = false := by rw [decide_eq_false_iff_not]; omega
      rw [hk0]
      clear hn
      go_wp2_with (first
        | (refine wpList_make_own _ rfl _ _ 139 rfl w.heap.size 9 i0 _ 1 Tryz.underlying139 hi hz0 hz1 .i64 .i64 ps.length ps.length (by rfl) (by rfl) rfl (by rw [hz2]; omega) (by unfold maxLen; omega) (Nat.le_refl _) ?_; intro w1 ho1 hg1)
        | (refine wpList_store_rowTo rfl 202 _ _ rfl rfl w1.heap.size (bsrCells bsrNil (.slice (some ⟨w.heap.size, 0, none⟩) 0 ps.length)) rfl ?_ _ _ (heap_alloc_new w1 _) ?_ ?_ (bsr_one _ _ _) ?_; (· go_must (kernel_rfl)); (· go_must (rw [bsr_size, bsr_len])); (· go_must (kernel_rfl))))
      have hbt : Bt ((w1.alloc (.cells Tryz.zeroCells202 202)).setRow w1.heap.size (bsrCells bsrNil (.slice (some ⟨w.heap.size, 0, none⟩) 0 ps.length))) w1.heap.size bsrNil (.slice (some ⟨w.heap.size, 0, none⟩) 0 ps.length) := ⟨by simp [bsrNil], setRow_heap _ _ _ _ _ _ (heap_alloc_new w1 _)⟩
      have hgr : (w1.alloc (.cells Tryz.zeroCells202 202)).grownBy ((w1.alloc (.cells Tryz.zeroCells202 202)).setRow w1.heap.size (bsrCells bsrNil (.slice (some ⟨w.heap.size, 0, none⟩) 0 ps.length))) (some w1.heap.size) := ⟨rfl, rfl, rfl, by simp, fun k _ hk => setRow_other _ _ k _ (fun e => hk (by simp [e]))⟩
      have hsz := hg1.size
      have hlt1 := ho1.lt w.heap.size rfl
      have hown := (ho1.alloc (.cells Tryz.zeroCells202 202)).kept hgr (.inr (by simp only [Value.ownBlock]; intro e; injection e with e; omega))
      have HB : Hid (Built w.heap.size w1.heap.size [] _) := ⟨_, _, hbt, hsz, hown, fun c => ⟨.slice none 0 0, by
        unfold bsrNil
        rw [Array.getElem?_replicate, if_pos (UInt8.toNat_lt c)], rfl⟩⟩
      have HW : Hid (Below w.heap.size w ((w1.alloc (.cells Tryz.zeroCells202 202)).setRow w1.heap.size (bsrCells bsrNil (.slice (some ⟨w.heap.size, 0, none⟩) 0 ps.length)))) := ⟨hgr.os.trans hg1.os, hgr.tape.trans hg1.tape, hgr.output.trans hg1.output, Nat.le_trans hsz (Nat.le_trans (by rw [sz_alloc]; omega) hgr.size), fun j hj => (hgr.block j (by rw [sz_alloc]; omega) (fun e => by injection e with e; omega)).trans ((heap_alloc_old _ _ (by omega)).trans (hg1.block j hj (by simp)))⟩
      clear hown hgr hbt ho1 hg1
      generalize ((w1.alloc (.cells Tryz.zeroCells202 202)).setRow w1.heap.size (bsrCells bsrNil (.slice (some ⟨w.heap.size, 0, none⟩) 0 ps.length))) = W0 at *
      generalize w1.heap.size = h at *
      go_loopg [12] (ps.length + 1) (fun kk x12 wx => ∃ (k : Nat) (i : Int), x12 = .int .i64 i ∧ i = 2 * (k : Int) - 2 ∧ k ≤ ps.length ∧ k < kk ∧ Hid (Built w.heap.size h (ps.drop k) wx) ∧ Hid (Below w.heap.size w wx))
      case atStart => have := HN.out; exact ⟨ps.length, _, rfl, by omega, Nat.le_refl _, by omega, by rw [List.drop_length]; exact HB, HW⟩
      case round =>
        obtain ⟨k, i, rfl, hik, hkn, hkk, HB1, HW1⟩ := hrel
        cases k with
        | zero =>
          have hneg : ¬ (0 : Int) ≤ i := by omega
          clear hik
          go_wp2_with fail
          go_ret
          rw [List.drop_zero] at HB1
          exact ⟨h, rfl, HW1.out, HB1.out⟩
        | succ k =>
          have hx := List.getElem?_eq_getElem (show k < ps.length by omega)
          have hdk : ps.drop k = ps[k] :: ps.drop (k + 1) := List.drop_eq_getElem_cons (by omega)
          have c0' := hHC.out _ _ (pairVals_old ps k _ hx)
          have c1' := hHC.out _ _ (pairVals_new ps k _ hx)
          have hlk : (ps.drop (k + 1)).lookup ps[k].1 = none := by
            have hp := HND.out
            rw [← List.take_append_drop k ps, List.map_append, hdk, List.map_cons] at hp
            have := (List.nodup_append.1 hp).2.1
            have h3 := (List.nodup_cons.1 this).1
            rw [List.lookup_eq_none_iff]
            intro x hx2
            rw [bne_iff_ne]
            intro hne
            exact h3 (List.mem_map.2 ⟨x, hx2, hne.symm⟩)
          obtain ⟨T, tv, hbt, hBh, hown, htab⟩ := HB1.out
          obtain ⟨u, hu, hu2⟩ := htab ps[k].1
          rw [hlk] at hu2
          obtain rfl : u = .slice none 0 0 := hu2
          generalize ps[k] = x at *
          obtain ⟨x1, x2⟩ := x
          simp only at hu c0' c1' hlk
          have c0 : wr.cell? ⟨g, k * 2, none⟩ = _ := cell_later HW1.out c0'
          have c1 : wr.cell? ⟨g, k * 2 + 1, none⟩ = _ := cell_later HW1.out c1'
          have e0 := hbt.cell _ _ hu
          have e1 := hbt.last
          have hlast := hbt.fz 256
          have hfx := hbt.fz x1.toNat
          have hlen : (ps.drop (k + 1)).length = ps.length - (k + 1) := List.length_drop
          have hi : i = ((k * 2 : Nat) : Int) := by omega
          subst hi
          have hn := HN.out
          have b0 : (((k * 2 : Nat) : Int)) < n := by omega
          have b1 : (((k * 2 : Nat) : Int)) + 1 < n := by omega
          have b2 : (0 : Int) ≤ ((k * 2 : Nat) : Int) := by omega
          have b3 : (0 : Int) ≤ ((k * 2 : Nat) : Int) + 1 := by omega
          have b4 : ((x1.toNat : Int)) < 256 := by have := UInt8.toNat_lt x1; omega
          generalize hm2 : k * 2 = j at *
          have HJ := Lib.hid hm2
          have hx0 : (ByteArray.mk #[x1])[0]'(by show 0 < 1; decide) = x1 := rfl
          clear hn c0' c1' hik hm2
          have hcs : ∀ W : World, (convert 36 9 (.slice (some ⟨W.heap.size, 0, none⟩) 1 1)).run Tryz.prog (W.alloc (.cells #[.int .u8 (x1.toNat : Int)] 5)) = .ok (.string ⟨#[x1]⟩) (W.alloc (.cells #[.int .u8 (x1.toNat : Int)] 5)) :=
            fun W => (OwnB.made W.heap.size W [x1] _ rfl (Nat.le_refl _) (by simp [maxLen]) _ rfl 1 rfl).conv
          have hne := own_ne hown hbt.2 (by decide)
          have hsz : w.heap.size ≤ wr.heap.size := HW1.out.size
          go_wp2_with (first
            | (at_builtin; go_loud (refine wpList_appStr rfl (.tmp 119) (.tmp 123) rfl ⟨#[x1]⟩ (by rfl) (hown.alloc _) ?_ ?_ (by rw [sz_alloc]; rfl) ?_; (· go_must (rw [sz_alloc]; omega)); (· go_must (rw [hlen]; omega)); intro v' w2 ho2 hg2; obtain ⟨va, vc, rfl⟩ := own_slice ho2; have hbt2 : Bt w2 h T tv := ((hbt.below ((Below.refl _ _).alloc (Nat.le_refl _) _)).below ((Below.refl _ _).alloc (Nat.le_refl _) _)).grown hg2 hne; have e2 := hbt2.last; have f2 := hbt2.fz 256))
            | (refine wpList_bytesOf rfl (.tmp 127) rfl x2 (by rfl) _ ?_; intro C fz w4 hn4 hb4; have hbt4 := (hbt2.setLast _).below hb4; have e4 := hbt4.cell _ _ hu; have f4 := hbt4.fz x1.toNat))
          have hbn := built_next hsz hBh hbt hown htab hg2 ho2 (by rw [hlen]; exact hn4) (by rw [hlen]; exact hb4)
          rw [← hdk] at hbn
          go_roundg (gk - 1)
          case measure => omega
          case rel => exact ⟨k, _, rfl, by have := HJ.out; omega, by omega, by omega, hbn.1, HW1.out.trans hbn.2⟩
end Go.Proofs.YtokdclmikllepaaGreatDoor
