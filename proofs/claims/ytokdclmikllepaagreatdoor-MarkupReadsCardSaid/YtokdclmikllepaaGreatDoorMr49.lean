import Derived.Test.YtokdclmikllepaaGreatDoorMr41
import Derived.Test.YtokdclmikllepaaGreatDoorMr48
import Derived.Laws.AppendOwn
namespace Go.Proofs.YtokdclmikllepaaGreatDoor
open Go.RowKit
set_option linter.unusedVariables false
set_option linter.unusedSimpArgs false

theorem reps_flat {α β : Type} {R : α → List Value → Prop} {sz : Nat} (f : β → List Value) (g : β → α) (hR : ∀ b c, R (g b) c → c = f b) (hf : ∀ b, (f b).length = sz) :
    ∀ (l : List β) (cs : List Value), YtokdclmikllepaaGreatDoorW.PrintWords.Reps R sz (l.map g) cs → cs = l.flatMap f := by
  intro l
  induction l with
  | nil => intro cs h; exact List.eq_nil_of_length_eq_zero (by have := h.1; simpa using this)
  | cons b l ih =>
    intro cs h
    have h0 := hR b _ (h.2 0 (g b) rfl)
    rw [Nat.zero_mul, List.drop_zero] at h0
    have h1 := ih (cs.drop sz) ⟨by rw [List.length_drop, h.1]; simp [Nat.succ_mul], fun j p hj => by
      have := h.2 (j + 1) p (by simpa using hj)
      rw [List.drop_drop, show sz + j * sz = (j + 1) * sz by rw [Nat.succ_mul]; omega]
      exact this⟩
    rw [List.flatMap_cons, ← h0, ← h1, List.take_append_drop]

theorem kd_ats {B : Nat} {w : World} {ok : Nat → Prop} {v : Value} {l : List Sp.At} (h : YtokdclmikllepaaGreatDoorW.PrintWords.Kd.R YtokdclmikllepaaGreatDoorP.k42 42 w B ok v (l.map atS)) : AtsAt B w v l := by
  obtain ⟨_, inner, ho, hr⟩ := h
  have e := reps_flat (sz := 3) atCells atS (fun b c hc => YtokdclmikllepaaGreatDoorP.k42_openM hc) (fun _ => rfl) l inner hr
  unfold AtsAt
  rw [← e]
  rw [List.length_map] at ho
  exact ho

theorem wpList_appM {ops : Array Oper} {rest : List Oper} {o : Oper} {a : Act} {Q : Exit → Act → World → Prop} (hgd : o.guard = none) (s x : Operand)
    (ho : o.op = .call { callee := .builtin .append, args := #[s, x], argTypes := #[22, 22] })
    {base : Nat} {wr W : World} {v av : Value} {acc : List Sp.Mk} (m : Sp.Mk) (hs : a.eval s = v) (hv : MksAt base wr v acc) (hbW : Below wr.heap.size wr W) (hav : AtsAt wr.heap.size W av m.attrs) (hbase : base ≤ wr.heap.size) (hn : acc.length < 65537)
    (cs : Array Value) (hcs : cs.toList = mkCells m av) (hx : a.eval x = .slice (some ⟨W.heap.size, 0, none⟩) 1 1)
    (h : ∀ v' w', MksAt base w' v' (acc ++ [m]) → Below base W w' → wpList Tryz.prog ops Q rest (a.put o.dst v') w') : wpList Tryz.prog ops Q (o :: rest) a (W.alloc (.cells cs 40)) := by
  obtain ⟨ps, hps, hat, hown, hap⟩ := hv
  have hpl : ps.length = acc.length := by rw [← hps, List.length_map]
  obtain ⟨i0, hi, hz0, hz1, hz2⟩ := info_parts infoMark
  have hbA : Below wr.heap.size wr (W.alloc (.cells cs 40)) := hbW.alloc hbW.size _
  have hgA : wr.grownBy (W.alloc (.cells cs 40)) none := ⟨hbA.os, hbA.tape, hbA.output, hbA.size, fun i hi _ => hbA.block i hi⟩
  have hne : ∀ v : Value, v.ownBlock = none ∨ v.ownBlock ≠ none := fun v => by cases v.ownBlock <;> simp
  have hatA : ∀ x ∈ ps, AtsAt base (W.alloc (.cells cs 40)) x.2 x.1.attrs := fun x hx => (hat x hx).kept hgA (hne _)
  have hownA := hown.kept hgA (hne v)
  have havA : AtsAt wr.heap.size (W.alloc (.cells cs 40)) av m.attrs := hav.below ((Below.refl _ _).alloc (Nat.le_refl _) _)
  have hone : av.oneCell' = true := by rcases hav.2 with ⟨rfl, _⟩ | ⟨g', cap, cur, rfl, _⟩ <;> rfl
  have hsz : wr.heap.size ≤ W.heap.size := hbW.size
  refine wpList_append_own _ hgd s x 22 ho base 40 i0 _ 6 80 Tryz.underlying22 hi hz0 hz1 hz2 rfl (by decide) v ps.length (ps.flatMap fun x => mkCells x.1 x.2) hs hownA ⟨W.heap.size, 0, none⟩ 1 1 (mkCells m av) hx rfl
    (World.news_of_block (cs := cs) (heap_alloc_new W _) |> fun hh => by rw [← hcs]; exact hh) ?_ (by unfold maxLen; omega) (by omega) (by rw [sz_alloc]; omega) ?_
  · intro u hu
    simp only [mkCells, List.mem_cons, List.not_mem_nil, or_false] at hu
    rcases hu with rfl | rfl | rfl | rfl | rfl | rfl <;> first | exact hone | rfl
  · intro v' w' h1 h2 _
    refine h v' w' ⟨ps ++ [(m, av)], by rw [List.map_append, hps]; rfl, fun x hx => ?_, ?_, ?_⟩ ?_
    · rcases List.mem_append.1 hx with hx | hx
      · exact (hatA x hx).kept h2 (own_own_ne (hatA x hx) hownA (by decide))
      · rw [List.mem_singleton.1 hx]
        exact (havA.le hbase).kept h2 (own_own_ne havA hownA (by decide))
    · rw [List.flatMap_append, List.length_append]
      simpa using h1
    · rw [List.pairwise_append]
      refine ⟨hap, List.pairwise_singleton _ _, fun x hx y hy => ?_⟩
      rw [List.mem_singleton.1 hy]
      cases hb : x.2.ownBlock with
      | none => exact .inl hb
      | some k =>
        refine .inr fun e => ?_
        have h1 := (World.ownsRow.lt (hat x hx) k hb).2
        have h2 := (World.ownsRow.lt hav k (e ▸ hb)).1
        omega
    · refine ⟨h2.os, h2.tape, h2.output, Nat.le_trans (by rw [sz_alloc]; omega) h2.size, fun k hk => ?_⟩
      have hk2 : k < (W.alloc (.cells cs 40)).heap.size := by rw [sz_alloc]; omega
      refine (h2.block k hk2 (fun e => ?_)).trans (heap_alloc_old _ _ (by omega))
      have := (World.ownsRow.lt hown k e.symm).1
      omega
end Go.Proofs.YtokdclmikllepaaGreatDoor
