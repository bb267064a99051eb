import Derived.Test.YtokdclmikllepaaGreatDoorKt29
import Derived.Test.YtokdclmikllepaaGreatDoorKt0
namespace Go.Proofs.YtokdclmikllepaaGreatDoor
open Go.RowKit
set_option linter.unusedVariables false
set_option linter.unusedSimpArgs false

/-- What NewReplacer makes: the Replacer at block b, its own copy of the pairs at g. -/
def NewRep (ps : Prs) (n : Nat) (w w' : World) (b g c : Nat) : Prop := Below w.heap.size w w' ∧ w.heap.size ≤ b ∧ w.heap.size ≤ g ∧ g < b ∧ Rp w' b 0 0 0 .nilIface (.slice (some ⟨g, 0, none⟩) n c) ∧ ∀ j u, (pairVals ps)[j]? = some u → w'.cell? ⟨g, j, none⟩ = some u

set_option maxHeartbeats 2000000 in
set_option maxRecDepth 100000 in
theorem newReplacer_calls (ps : Prs) (g n c : Nat) (w : World) (hn : n = 2 * ps.length) (h2 : 2 ≤ ps.length) (h9 : ps.length < 100)
    (hc : ∀ j u, (pairVals ps)[j]? = some u → w.cell? ⟨g, j, none⟩ = some u) :
    Calls Tryz.prog 61 #[.slice (some ⟨g, 0, none⟩) n c] w fun e w' => ∃ b g' c', e = .returned (.pointer (some ⟨b, 0, none⟩)) ∧ NewRep ps n w w' b g' c' := by
  obtain ⟨i0, hi, hz0, hz1, hz2⟩ := info_parts infoStr
  have hm : ((n : Int) % 2 == 1) = false := by
    rw [beq_eq_false_iff_ne]
    omega
  have hl : (pairVals ps).length = n * 1 := by rw [pairVals_length, Nat.mul_one, hn]
  have hnews : ∀ j u, (pairVals ps)[j]? = some u → w.cell? ((⟨g, 0, none⟩ : Addr).add j) = some u := fun j u hj => by
    have : ((⟨g, 0, none⟩ : Addr).add j) = ⟨g, j, none⟩ := by unfold Addr.add; split <;> simp_all
    rw [this]
    exact hc j u hj
  have h1 : ∀ u ∈ pairVals ps, u.oneCell' = true := by
    intro u hu
    simp only [pairVals, List.mem_flatMap] at hu
    obtain ⟨x, _, hx⟩ := hu
    simp only [List.mem_cons, List.not_mem_nil, or_false] at hx
    rcases hx with rfl | rfl <;> rfl
  have HH : Hid (n = 2 * ps.length) := hn
  have hn0 : 0 < n := by omega
  have hnb : n < 200 := by omega
  clear hn hc
  go_enter Tryz.func61, Tryz.ntmps61
  go_wp2_with (at_builtin; refine wpList_append_own _ rfl (.const (.slice none 0 0)) (.tmp 8) 139 rfl w.heap.size 9 i0 _ 1 16 Tryz.underlying139 hi hz0 hz1 hz2 rfl (by decide) (.slice none 0 0) 0 [] rfl (World.ownsRow_nil _ _ _ _) ⟨g, 0, none⟩ n c (pairVals ps) rfl hl hnews h1 (by unfold maxLen; omega) (by omega) (Nat.le_refl _) ?_; intro v' w1 ho1 hg1 _; obtain ⟨va, vc, rfl⟩ := own_slice ho1)
  go_ret
  rw [List.nil_append, Nat.zero_add] at ho1
  obtain ⟨q, c', hv, hq1, hq2, hq3⟩ := ownsRow_cells ho1 hn0
  simp only [Value.slice.injEq] at hv
  obtain ⟨rfl, _, rfl⟩ := hv
  have hb1 : Below w.heap.size w w1 := ⟨hg1.os, hg1.tape, hg1.output, hg1.size, fun k hk => hg1.block k hk (by simp [Value.ownBlock])⟩
  exact ⟨w1.heap.size, rfl, q, vc, hb1.alloc hb1.size _, hb1.size, hq1, hq2, heap_alloc_new w1 _, fun j u hj => (World.cell?_alloc_past _ _ _ hq2).trans (hq3 j u hj)⟩

theorem NewRep.build {ps : Prs} {n : Nat} {w w' : World} {b g c : Nat} (h : NewRep ps n w w' b g c) : Rp w' b 0 0 0 .nilIface (.slice (some ⟨g, 0, none⟩) n c) := h.2.2.2.2.1

theorem nil_rep (a : Addr) (w : World) : (nilAhead 401 203 (.pointer (some a)) "Replace").run Tryz.prog w = .ok (some false) w := by kernel_rfl
theorem method_rep (a : Addr) (w : World) : (method 401 203 (.pointer (some a)) "Replace").run Tryz.prog w = .ok (261, .pointer (some a)) w := by kernel_rfl

/-- What Do leaves behind. -/
def Made (ps : Prs) (b : Nat) (w w1 : World) (h : Nat) : Prop := Rp w1 b 1 0 0 (.iface 203 (.pointer (some ⟨h, 0, none⟩))) (.slice none 0 0) ∧ Only b w w1 ∧ Built w.heap.size h ps w1
theorem do_made (ps : Prs) (n b g c : Nat) (w0 w : World) (hN : NewRep ps n w0 w b g c) (hn : n = 2 * ps.length) (h2 : 2 ≤ ps.length) (h9 : ps.length < 100) (hnd : (ps.map Prod.fst).Nodup) (h0 : ∀ x ∈ ps, 1 < x.2.size) :
    Calls Tryz.prog 102 #[.pointer (some ⟨b, 0, none⟩), .func (.func 103) #[.pointer (some ⟨b, 0, none⟩)] #[]] w fun e w1 => e = .returned (.tuple #[]) ∧ ∃ h, Made ps b w w1 h := by
  obtain ⟨hb0, hb1, hg1, hgb, hr, hc⟩ := hN
  have hblt := hr.lt
  have hcb : ∀ j u, (pairVals ps)[j]? = some u → (w.setCell ⟨b, 1, none⟩ (.int .i32 1)).cell? ⟨g, j, none⟩ = some u := fun j u hj => by
    rw [World.cell?_setCell_other _ _ _ _ (by
      intro e
      have := congrArg Addr.block e
      simp only at this
      omega)]
    exact hc j u hj
  have hB := buildOnce_calls ps b g n c _ _ (hr.set1 1) hn h2 h9 hnd hcb (fun x hx => by have := h0 x hx; omega)
  refine (on_do b _ _ w hr _ hB (fun w2 h => by obtain ⟨h, hr2, _⟩ := h; exact ⟨_, _, hr2⟩)).mono ?_
  rintro e w1 ⟨he, w2, ⟨h, hr2, hg2, hbu⟩, rfl⟩
  refine ⟨he, h, (hr2.drew.set0 1).set1 0, ?_, ?_⟩
  · exact ((((Only.refl b w).set 1 _).trans hg2).drew.set 0 _).set 1 _
  · rw [show (w.setCell ⟨b, 1, none⟩ (.int .i32 1)).heap.size = w.heap.size by simp [World.setCell]] at hbu
    exact hbu.old ((((Only.refl b w2).drew).set 0 _).set 1 _) (fun k hk => by injection hk with hk; omega)

set_option maxHeartbeats 2000000 in
set_option maxRecDepth 100000 in
/-- A Replacer that was just made answers; the world below is as it was. -/
theorem replace_calls (ps : Prs) (n b g c : Nat) (s : ByteArray) (w0 w : World) (hN : NewRep ps n w0 w b g c) (hn : n = 2 * ps.length) (hs : s.size ≤ 6000000) (h2 : 2 ≤ ps.length) (h9 : ps.length < 100) (hnd : (ps.map Prod.fst).Nodup)
    (hM : ∀ x ∈ ps, x.2.size ≤ 100) (h0 : ∀ x ∈ ps, 1 < x.2.size) :
    Calls Tryz.prog 62 #[.pointer (some ⟨b, 0, none⟩), .string s] w fun e w' => e = .returned (.string ⟨(Sp.rep ps (L s)).toArray⟩) ∧ Below w0.heap.size w0 w' := by
  have hmf : ∀ (fn : Fn) (first cap : Array Value) (w : World), (Instr.makeFunc fn first cap).run Tryz.prog w = .ok (.func fn first cap) w := fun _ _ _ _ => rfl
  have hdo := do_made ps n b g c w0 w hN hn h2 h9 hnd h0
  have hnl := nil_rep
  have hmt := method_rep
  have HN := Lib.hid hN
  have HH : Hid (n = 2 * ps.length) := hn
  clear hN hn
  go_enter Tryz.func62, Tryz.ntmps62
  go_wp2_with (first | (go_at_call 102; refine hdo.mono ?_; rintro e w1 ⟨rfl, h, hm⟩; have c3 := hm.1.c3) | (go_at_call 261; refine (bsr_calls ps w.heap.size h s _ hm.2.2 hs h2 h9 hnd hM (fun x hx => by have := h0 x hx; omega)).mono ?_; rintro e w2 ⟨rfl, hb2⟩))
  go_ret
  obtain ⟨hb0, hb1, hg1, hgb, hr, hc⟩ := HN.out
  have ho := hm.2.1
  refine ⟨rfl, ?_⟩
  refine ⟨hb2.os.trans (ho.os.trans hb0.os), hb2.tape.trans (ho.tape.trans hb0.tape), hb2.output.trans (ho.output.trans hb0.output), Nat.le_trans hb0.size (Nat.le_trans ho.size hb2.size), fun k hk => ?_⟩
  have hk1 : k < w.heap.size := Nat.lt_of_lt_of_le hk hb0.size
  exact (hb2.block k (Nat.lt_of_lt_of_le hk1 ho.size)).trans ((ho.block k hk1 (fun e => by injection e with e; omega)).trans (hb0.block k hk))
end Go.Proofs.YtokdclmikllepaaGreatDoor
namespace Go.Proofs.YtokdclmikllepaaGreatDoor
open Go.RowKit
set_option linter.unusedVariables false
set_option linter.unusedSimpArgs false

def escPs : Prs := [(38, ⟨#[38, 97, 109, 112, 59]⟩), (60, ⟨#[38, 108, 116, 59]⟩), (62, ⟨#[38, 103, 116, 59]⟩), (13, ⟨#[38, 35, 49, 51, 59]⟩)]
def quoPs : Prs := [(38, ⟨#[38, 97, 109, 112, 59]⟩), (60, ⟨#[38, 108, 116, 59]⟩), (34, ⟨#[38, 113, 117, 111, 116, 59]⟩), (9, ⟨#[38, 35, 57, 59]⟩), (10, ⟨#[38, 35, 49, 48, 59]⟩), (13, ⟨#[38, 35, 49, 51, 59]⟩)]
def Sp.escape (l : List UInt8) : List UInt8 := Sp.rep escPs l
def Sp.quote (l : List UInt8) : List UInt8 := 34 :: Sp.rep quoPs l ++ [34]

theorem esc_nd : (escPs.map Prod.fst).Nodup := by decide
theorem quo_nd : (quoPs.map Prod.fst).Nodup := by decide
theorem esc_sz : ∀ x ∈ escPs, x.2.size ≤ 100 := by decide
theorem quo_sz : ∀ x ∈ quoPs, x.2.size ≤ 100 := by decide
theorem esc_one : ∀ x ∈ escPs, 1 < x.2.size := by decide
theorem quo_one : ∀ x ∈ quoPs, 1 < x.2.size := by decide

set_option maxHeartbeats 2000000 in
set_option maxRecDepth 100000 in
theorem escape_calls (s : ByteArray) (w : World) (hs : s.size ≤ 6000000) :
    Calls Tryz.prog 24 #[.string s] w fun e w' => e = .returned (.string ⟨(Sp.escape (L s)).toArray⟩) ∧ Below w.heap.size w w' := by
  have hc : ∀ j u, (pairVals escPs)[j]? = some u → (w.alloc (.cells (pairVals escPs).toArray 9)).cell? ⟨w.heap.size, j, none⟩ = some u := fun j u hj => by
    rw [cell_of_row _ _ j _ _ _ (heap_alloc_new w _)]
    simpa using hj
  have hc8 : (pairVals escPs).toArray = #[.string ⟨#[38]⟩, .string ⟨#[38, 97, 109, 112, 59]⟩, .string ⟨#[60]⟩, .string ⟨#[38, 108, 116, 59]⟩, .string ⟨#[62]⟩, .string ⟨#[38, 103, 116, 59]⟩, .string ⟨#[13]⟩, .string ⟨#[38, 35, 49, 51, 59]⟩] := rfl
  rw [hc8] at hc
  have HC := Lib.hid hc
  clear hc hc8
  go_enter Tryz.func24, Tryz.ntmps24
  go_wp2_with (first | (go_at_call 61; refine (newReplacer_calls escPs w.heap.size 8 8 _ rfl (by decide) (by decide) HC.out).mono ?_; rintro e w1 ⟨b, g', c', rfl, hN⟩) | (go_at_call 62; refine (replace_calls escPs 8 b g' c' s _ _ hN rfl hs (by decide) (by decide) esc_nd esc_sz esc_one).mono ?_; rintro e w2 ⟨rfl, hb2⟩))
  go_ret
  exact ⟨rfl, ((Below.refl _ _).alloc (Nat.le_refl _) _).trans (hb2.mono (by rw [sz_alloc]; omega))⟩

set_option maxHeartbeats 2000000 in
set_option maxRecDepth 100000 in
theorem quote_calls (s : ByteArray) (w : World) (hs : s.size ≤ 6000000) :
    Calls Tryz.prog 25 #[.string s] w fun e w' => e = .returned (.string ⟨(Sp.quote (L s)).toArray⟩) ∧ Below w.heap.size w w' := by
  have hc : ∀ j u, (pairVals quoPs)[j]? = some u → (w.alloc (.cells (pairVals quoPs).toArray 9)).cell? ⟨w.heap.size, j, none⟩ = some u := fun j u hj => by
    rw [cell_of_row _ _ j _ _ _ (heap_alloc_new w _)]
    simpa using hj
  have hc8 : (pairVals quoPs).toArray = #[.string ⟨#[38]⟩, .string ⟨#[38, 97, 109, 112, 59]⟩, .string ⟨#[60]⟩, .string ⟨#[38, 108, 116, 59]⟩, .string ⟨#[34]⟩, .string ⟨#[38, 113, 117, 111, 116, 59]⟩, .string ⟨#[9]⟩, .string ⟨#[38, 35, 57, 59]⟩, .string ⟨#[10]⟩, .string ⟨#[38, 35, 49, 48, 59]⟩, .string ⟨#[13]⟩, .string ⟨#[38, 35, 49, 51, 59]⟩] := rfl
  rw [hc8] at hc
  have HC := Lib.hid hc
  obtain ⟨x, hx⟩ : ∃ x : ByteArray, (⟨(Sp.rep quoPs (L s)).toArray⟩ : ByteArray) = x := ⟨_, rfl⟩
  have hxs : x.size ≤ 600000000 := by
    rw [← hx]
    have := rep_bound quoPs 100 quo_sz (by decide) (L s)
    rw [L_length] at this
    have h2 : (Sp.rep quoPs (L s)).length ≤ 600000000 := Nat.le_trans this (Nat.mul_le_mul hs (Nat.le_refl _))
    simpa [ByteArray.size] using h2
  have HX := Lib.hid hx
  clear hc hc8 hx
  go_enter Tryz.func25, Tryz.ntmps25
  go_wp2_with (first | (go_at_call 61; refine (newReplacer_calls quoPs w.heap.size 12 12 _ rfl (by decide) (by decide) HC.out).mono ?_; rintro e w1 ⟨b, g', c', rfl, hN⟩) | (go_at_call 62; refine (replace_calls quoPs 12 b g' c' s _ _ hN rfl hs (by decide) (by decide) quo_nd quo_sz quo_one).mono ?_; rw [HX.out]; rintro e w2 ⟨rfl, hb2⟩))
  go_ret
  refine ⟨?_, ((Below.refl _ _).alloc (Nat.le_refl _) _).trans (hb2.mono (by rw [sz_alloc]; omega))⟩
  have hq : (⟨(Sp.quote (L s)).toArray⟩ : ByteArray) = ⟨#[34]⟩ ++ x ++ ⟨#[34]⟩ := by
    rw [← HX.out]
    apply ByteArray.ext
    simp [Sp.quote]
  rw [hq]
  rfl
end Go.Proofs.YtokdclmikllepaaGreatDoor
namespace Go.Proofs.YtokdclmikllepaaGreatDoor.Sp

def tagA (a : EA) : Bs := 32 :: a.name ++ 61 :: quote a.value
def tag (x : EE) : Bs := 60 :: x.name ++ x.attrs.flatMap tagA
def closeT (n : Bs) : Bs := 60 :: 47 :: n ++ [62]
def nameAt (l : List EE) (i : Nat) : Bs := (l.map EE.name).getD i []
/-- The ends of elements that are open, the innermost one first. -/
def closes (l : List EE) (op : List Nat) : Bs := op.reverse.flatMap fun k => closeT (nameAt l k)
def inner (l : List EE) (i : Nat) : Bool := decide ((l[i + 1]?.map EE.up) = some (i : Int))
/-- How an element goes on behind its attributes. -/
def body (l : List EE) (i : Nat) (x : EE) : Bs :=
  if inner l i = true then 62 :: escape x.text
  else if x.text = [] then [47, 62]
  else 62 :: escape x.text ++ closeT x.name
/-- How many of the open elements stay, where one comes that stands in u. -/
def toIx (u : Int) (op : List Nat) : Nat → Nat
  | 0 => 0
  | t + 1 => if ((op.getD t 0 : Nat) : Int) = u then t + 1 else toIx u op t
abbrev Wr := Bs × List Nat
def openAt (i : Nat) (x : EE) (op : List Nat) : List Nat := if x.up = (i : Int) - 1 then op ++ [i - 1] else op
def stepW (l : List EE) (i : Nat) (x : EE) (s : Wr) : Option Wr :=
  if may x = false then none
  else if i = 0 then (if x.up = -1 then some (s.1 ++ tag x ++ body l i x, s.2) else none)
  else if toIx x.up (openAt i x s.2) (openAt i x s.2).length = 0 ∨ 16 ≤ toIx x.up (openAt i x s.2) (openAt i x s.2).length then none
  else some (s.1 ++ closes l ((openAt i x s.2).drop (toIx x.up (openAt i x s.2) (openAt i x s.2).length)) ++ tag x ++ body l i x, (openAt i x s.2).take (toIx x.up (openAt i x s.2) (openAt i x s.2).length))
def runW (l : List EE) : Nat → List EE → Wr → Option Wr
  | _, [], s => some s
  | i, x :: t, s => match stepW l i x s with | none => none | some s' => runW l (i + 1) t s'
def write (l : List EE) : Option Bs :=
  if l = [] ∨ 4096 < l.length then none
  else match runW l 0 l ([], []) with
    | none => none
    | some s => some (s.1 ++ closes l s.2)
end Go.Proofs.YtokdclmikllepaaGreatDoor.Sp
