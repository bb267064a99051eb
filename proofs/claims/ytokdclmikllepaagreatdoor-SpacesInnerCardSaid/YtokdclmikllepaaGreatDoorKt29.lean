import Derived.Test.YtokdclmikllepaaGreatDoorKt28
import Derived.Laws.CopyOwn
namespace Go.Proofs.YtokdclmikllepaaGreatDoor
open Go.RowKit
set_option linter.unusedVariables false
set_option linter.unusedSimpArgs false

theorem TabIs.old {B : Nat} {w w' : World} {r : Option ByteArray} {u : Value} {row : Option Nat} (h : TabIs B w r u) (hg : w.grownBy w' row) (hr : ∀ k, row = some k → k < B) : TabIs B w' r u := by
  cases r with
  | none => exact h
  | some r =>
    obtain ⟨g, C, fz, rfl, hb, hh⟩ := h
    exact ⟨g, C, fz, rfl, hb, (hg.block g (Array.getElem?_eq_some_iff.1 hh).1 (fun e => by have := hr g e.symm; omega)).trans hh⟩
/-- What was built stays as long as only elder blocks turn. -/
theorem Built.old {B h : Nat} {ps : Prs} {w w' : World} {row : Option Nat} (hb : Built B h ps w) (hg : w.grownBy w' row) (hr : ∀ k, row = some k → k < B) : Built B h ps w' := by
  obtain ⟨T, tv, hbt, hBh, hown, htab⟩ := hb
  refine ⟨T, tv, hbt.grown hg (fun e => by have := hr h e; omega), hBh, hown.kept hg ?_, fun c => ?_⟩
  · cases hv : tv.ownBlock with
    | none => exact .inl rfl
    | some k => exact .inr (fun e => by have := (hown.lt k hv).1; have := hr k e.symm; omega)
  · obtain ⟨u, hu, hu2⟩ := htab c
    exact ⟨u, hu, hu2.old hg hr⟩

set_option maxHeartbeats 2000000 in
set_option maxRecDepth 100000 in
theorem buildOnce_calls (ps : Prs) (b g n : Nat) (cap : Nat) (r : Value) (w : World) (hr : Rp w b 0 1 0 r (.slice (some ⟨g, 0, none⟩) n cap)) (hn : n = 2 * ps.length) (h2 : 2 ≤ ps.length) (h9 : ps.length < 100) (hnd : (ps.map Prod.fst).Nodup)
    (hc : ∀ j u, (pairVals ps)[j]? = some u → w.cell? ⟨g, j, none⟩ = some u) (hnew : ∀ x ∈ ps, x.2.size ≠ 1) :
    Calls Tryz.prog 103 #[.pointer (some ⟨b, 0, none⟩)] w fun e w' => e = .returned (.tuple #[]) ∧ ∃ h, Rp w' b 0 1 0 (.iface 203 (.pointer (some ⟨h, 0, none⟩))) (.slice none 0 0) ∧ w.grownBy w' (some b) ∧ Built w.heap.size h ps w' := by
  have hblt := hr.lt
  go_enter Tryz.func103, Tryz.ntmps103
  go_wp2_with (go_at_call 131; refine (build_calls ps b g n cap r _ hr hn h2 h9 hnd hc hnew).mono ?_; rintro e w1 ⟨h, rfl, hb1, hB1⟩; have hr1 := hr.below hb1; have c3 := hr1.c3; have c4 := (hr1.set3 (.iface 203 (.pointer (some ⟨h, 0, none⟩)))).c4; have f3 := hr1.fz 3; have f4 := (hr1.set3 (.iface 203 (.pointer (some ⟨h, 0, none⟩)))).fz 4)
  go_end0
  refine ⟨rfl, h, (hr1.set3 _).set4 _, ?_, ?_⟩
  · exact (((Only.refl b w).below hb1).set 3 _).set 4 _
  · exact hB1.old (((Only.refl b w1).set 3 _).set 4 _) (fun k hk => by injection hk with hk; omega)

def Sp.rep (ps : Prs) (l : List UInt8) : List UInt8 := l.flatMap fun c => match ps.lookup c with | some r => L r | none => [c]
end Go.Proofs.YtokdclmikllepaaGreatDoor
namespace Go.Proofs.YtokdclmikllepaaGreatDoor
open Go.RowKit
set_option linter.unusedVariables false
set_option linter.unusedSimpArgs false

theorem rep_nil (l : List UInt8) : Sp.rep [] l = l := by
  induction l with
  | nil => rfl
  | cons c t ih => unfold Sp.rep at ih ⊢; rw [List.flatMap_cons, ih]; rfl
theorem rep_step (ps : Prs) (c : UInt8) (l : List UInt8) : Sp.rep ps (c :: l) = (match ps.lookup c with | some r => L r | none => [c]) ++ Sp.rep ps l := by
  unfold Sp.rep; rw [List.flatMap_cons] <;> rfl
theorem rep_append (ps : Prs) (l m : List UInt8) : Sp.rep ps (l ++ m) = Sp.rep ps l ++ Sp.rep ps m := by unfold Sp.rep; rw [List.flatMap_append]
/-- A pair more: so many bytes more. -/
theorem rep_len (ps : Prs) (x1 : UInt8) (x2 : ByteArray) (h : ps.lookup x1 = none) (l : List UInt8) : ((Sp.rep ((x1, x2) :: ps) l).length : Int) = (Sp.rep ps l).length + (l.count x1 : Int) * ((x2.size : Int) - 1) := by
  induction l with
  | nil => simp [Sp.rep]
  | cons c t ih =>
    rw [rep_step, rep_step, List.length_append, List.length_append, List.lookup_cons, List.count_cons]
    by_cases hc : c = x1
    · subst hc
      rw [h]
      simp only [beq_self_eq_true, if_true, List.length_singleton, L_length]
      have : ((t.count c + 1 : Nat) : Int) * ((x2.size : Int) - 1) = (t.count c : Int) * ((x2.size : Int) - 1) + ((x2.size : Int) - 1) := by
        rw [Int.natCast_add, Int.add_mul]; simp
      rw [this]
      omega
    · rw [show (c == x1) = false from by simpa using hc]
      simp only [Bool.false_eq_true, if_false, Nat.add_zero]
      omega
/-- Is there a byte to replace? -/
def anyRep (ps : Prs) (l : List UInt8) : Bool := l.any fun c => (ps.lookup c).isSome
theorem any_cons (ps : Prs) (x1 : UInt8) (x2 : ByteArray) (l : List UInt8) : anyRep ((x1, x2) :: ps) l = (anyRep ps l || decide (l.count x1 ≠ 0)) := by
  unfold anyRep
  induction l with
  | nil => rfl
  | cons c t ih =>
    rw [List.any_cons, List.any_cons, ih, List.lookup_cons, List.count_cons]
    by_cases hc : c = x1
    · subst hc; simp
    · rw [show (c == x1) = false from by simpa using hc]
      simp only [Bool.false_eq_true, if_false, Nat.add_zero, Bool.or_assoc]
theorem any_nil (l : List UInt8) : anyRep [] l = false := by
  unfold anyRep
  induction l with
  | nil => rfl
  | cons c t ih => rw [List.any_cons, ih]; rfl
theorem rep_same (ps : Prs) (l : List UInt8) (h : anyRep ps l = false) : Sp.rep ps l = l := by
  induction l with
  | nil => rfl
  | cons c t ih =>
    unfold anyRep at h ih
    rw [List.any_cons, Bool.or_eq_false_iff] at h
    rw [rep_step, ih h.2]
    cases hc : ps.lookup c with
    | none => rfl
    | some r => rw [hc] at h; exact absurd h.1 (by simp)
theorem rep_bound (ps : Prs) (M : Nat) (hM : ∀ x ∈ ps, x.2.size ≤ M) (h1 : 1 ≤ M) (l : List UInt8) : (Sp.rep ps l).length ≤ l.length * M := by
  induction l with
  | nil => simp [Sp.rep]
  | cons c t ih =>
    rw [rep_step, List.length_append, List.length_cons, Nat.succ_mul]
    have : (match ps.lookup c with | some r => L r | none => [c]).length ≤ M := by
      cases hc : ps.lookup c with
      | none => simpa using h1
      | some r =>
        rw [List.lookup_eq_some_iff] at hc
        obtain ⟨l1, l2, he, _⟩ := hc
        simp only [L_length]
        exact hM (c, r) (by rw [he]; simp)
    omega

theorem lookup_nodup : ∀ (ps : Prs) (i : Nat) (x : UInt8 × ByteArray), (ps.map Prod.fst).Nodup → ps[i]? = some x → ps.lookup x.1 = some x.2 := by
  intro ps
  induction ps with
  | nil => intro i x _ h; simp at h
  | cons y t ih =>
    intro i x hn h
    rw [List.map_cons, List.nodup_cons] at hn
    cases i with
    | zero =>
      simp only [List.getElem?_cons_zero, Option.some.injEq] at h
      subst h
      obtain ⟨a, b⟩ := y
      exact List.lookup_cons_self
    | succ i =>
      simp only [List.getElem?_cons_succ] at h
      obtain ⟨a, b⟩ := y
      rw [List.lookup_cons, show (x.1 == a) = false from by
        rw [beq_eq_false_iff_ne]
        intro e
        exact hn.1 (List.mem_map.2 ⟨x, List.mem_of_getElem? h, e⟩)]
      exact ih i x hn.2 h
theorem lookup_drop_none (ps : Prs) (j : Nat) (x : UInt8 × ByteArray) (hn : (ps.map Prod.fst).Nodup) (h : ps[j]? = some x) : (ps.drop (j + 1)).lookup x.1 = none := by
  have hj := (List.getElem?_eq_some_iff.1 h).1
  have hx := (List.getElem?_eq_some_iff.1 h).2
  rw [← List.take_append_drop j ps, List.map_append, List.drop_eq_getElem_cons hj, List.map_cons, hx] at hn
  have h3 := (List.nodup_cons.1 (List.nodup_append.1 hn).2.1).1
  rw [List.lookup_eq_none_iff]
  intro y hy
  rw [bne_iff_ne]
  intro e
  exact h3 (List.mem_map.2 ⟨y, hy, e.symm⟩)
theorem oldVals_get (ps : Prs) (k : Nat) (hk : k < ps.length) (x : UInt8 × ByteArray) (h : ps[ps.length - 1 - k]? = some x) : (oldVals ps)[k]? = some (.string ⟨#[x.1]⟩) := by
  unfold oldVals
  rw [List.getElem?_reverse (by simpa using hk), List.length_map, List.getElem?_map, h]
  rfl

theorem rep_take (ps : Prs) (s : ByteArray) (i : Nat) (h : i < s.size) : Sp.rep ps ((L s).take (i + 1)) = Sp.rep ps ((L s).take i) ++ (match ps.lookup s[i] with | some r => L r | none => [s[i]]) := by
  rw [List.take_add_one, L_get s i h, Option.toList_some, rep_append]
  congr 1
  rw [rep_step]
  simp [Sp.rep]
theorem any_take (ps : Prs) (s : ByteArray) (i : Nat) (h : i < s.size) : anyRep ps ((L s).take (i + 1)) = (anyRep ps ((L s).take i) || (ps.lookup s[i]).isSome) := by
  rw [List.take_add_one, L_get s i h, Option.toList_some]
  unfold anyRep
  rw [List.any_append]
  simp
theorem take_allL (s : ByteArray) : (L s).take s.size = L s := List.take_of_length_le (by rw [L_length]; exact Nat.le_refl _)

/-- The new text's row, filled up to some place. -/
def Filled (q N : Nat) (done : List UInt8) (w : World) : Prop := ∃ cur : List Value, w.heap[q]? = some (.cells cur.toArray 5 (0, 0)) ∧ cur.length = N ∧ cur.take done.length = byteVals done
theorem Filled.splice {q N : Nat} {done more : List UInt8} {cur : List Value} (hl : cur.length = N) (ht : cur.take done.length = byteVals done) (hf : done.length + more.length ≤ N) : (splice cur done.length (byteVals more)).length = N ∧ (splice cur done.length (byteVals more)).take (done ++ more).length = byteVals (done ++ more) := by
  refine ⟨(length_splice _ _ _ (by rw [byteVals_length]; omega)).trans hl, ?_⟩
  unfold Go.splice
  rw [ht, byteVals_append, ← List.append_assoc]
  exact List.take_left' (by simp [byteVals])
theorem Filled.set {q N : Nat} {done : List UInt8} {w : World} (h : Filled q N done w) (c : UInt8) (hf : done.length < N) : Filled q N (done ++ [c]) (w.setCell ⟨q, done.length, none⟩ (.int .u8 c.toNat)) := by
  obtain ⟨cur, h1, h2, h3⟩ := h
  refine ⟨cur.set done.length (.int .u8 c.toNat), ?_, by simp [h2], ?_⟩
  · rw [heap_set w q _ _ _ _ _ h1]
    simp
  · rw [List.length_append, List.length_singleton, List.take_add_one, List.take_set_of_le (Nat.le_refl _), h3, byteVals_append]
    congr 1
    simp [h2, hf, byteVals]
theorem Filled.fz {q N : Nat} {done : List UInt8} {w : World} (h : Filled q N done w) (i : Nat) : w.frozen? ⟨q, i, none⟩ = false := by
  obtain ⟨cur, h1, _⟩ := h
  simp [World.frozen?, h1]
theorem Filled.cell {q N : Nat} {done : List UInt8} {w : World} (h : Filled q N done w) (i : Nat) (hi : i < N) : ∃ u, w.cell? ⟨q, i, none⟩ = some u := by
  obtain ⟨cur, h1, h2, _⟩ := h
  refine ⟨cur[i], ?_⟩
  rw [cell_of_row w q i _ _ _ h1]
  simp [h2, hi]
theorem Filled.own {q : Nat} {done : List UInt8} {w : World} {B : Nat} (h : Filled q done.length done w) (hB : B ≤ q) (hm : done.length ≤ maxLen) : OwnB B w (.slice (some ⟨q, 0, none⟩) done.length done.length) done := by
  obtain ⟨cur, h1, h2, h3⟩ := h
  refine ⟨by simp [byteVals], .inr ⟨q, done.length, cur.toArray, rfl, hB, h1, Nat.le_refl _, hm, by simp [h2], ?_⟩⟩
  rw [Nat.mul_one]
  exact h3
theorem infoU8o : (Tryz.prog.info? 5).map (fun i => (i.zero, i.size, i.bytes)) = some (some (.int .u8 0), 1, 1) := by kernel_rfl
theorem rep_le (ps : Prs) (s : ByteArray) (i : Nat) : (Sp.rep ps ((L s).take i)).length ≤ (Sp.rep ps (L s)).length := by
  have : Sp.rep ps (L s) = Sp.rep ps ((L s).take i) ++ Sp.rep ps ((L s).drop i) := by rw [← rep_append, List.take_append_drop]
  rw [this, List.length_append]
  exact Nat.le_add_right _ _

set_option maxHeartbeats 4000000 in
set_option maxRecDepth 100000 in
theorem bsr_calls (ps : Prs) (B h : Nat) (s : ByteArray) (w : World) (hb : Built B h ps w) (hs : s.size ≤ 6000000) (h2 : 2 ≤ ps.length) (h9 : ps.length < 100) (hnd : (ps.map Prod.fst).Nodup) (hM : ∀ x ∈ ps, x.2.size ≤ 100) (h0 : ∀ x ∈ ps, 0 < x.2.size) :
    Calls Tryz.prog 261 #[.pointer (some ⟨h, 0, none⟩), .string s] w fun e w' => e = .returned (.string ⟨(Sp.rep ps (L s)).toArray⟩) ∧ Below w.heap.size w w' := by
  obtain ⟨T, tv, hbt, hBh, hown, htab⟩ := hb
  obtain ⟨q, cap, rfl, hq1, hq2, hq3⟩ := ownsRow_cells hown (by omega)
  have e1 := hbt.last
  generalize hn : ps.length = n at *
  have HN := Lib.hid hn
  have HQ := Lib.hid hq3
  have HTab := Lib.hid htab
  have HND := Lib.hid hnd
  have HM := Lib.hid hM
  have H0 := Lib.hid h0
  have HOwn := Lib.hid hown
  clear hq3 htab hnd hM h0 hown hn
  go_enter Tryz.func261, Tryz.ntmps261
  go_upto_region 2 with fail
  go_step
  go_step
  go_step
  apply_assumption
  go_step
  apply_assumption
  go_step
  go_cut [5, 6] (fun s5 s6 wx => s5 = .int .i64 (Sp.rep ps (L s)).length ∧ s6 = .bool (anyRep ps (L s)) ∧ Hid (∃ m, wx = w.drewN m))
  case first =>
    by_cases hc8 : n * 8 ≤ s.size
    · have hc8' : decide ((n : Int) * 8 ≤ s.size) = true := by simp; omega
      have HC8 := Lib.hid hc8
      go_wp2_with fail
      go_loopg [5, 6, 32] (n + 1) (fun kk x5 x6 x32 wr => ∃ k : Nat, x32 = .int .i64 k ∧ k ≤ n ∧ n - k < kk ∧ x5 = .int .i64 (Sp.rep (ps.drop (n - k)) (L s)).length ∧ x6 = .bool (anyRep (ps.drop (n - k)) (L s)) ∧ Hid (∃ m, wr = w.drewN m))
      case atStart =>
        have hnn := HN.out
        exact ⟨0, rfl, by omega, by omega, by rw [Nat.sub_zero, ← hnn, List.drop_length, rep_nil, L_length], by rw [Nat.sub_zero, ← hnn, List.drop_length, any_nil], Lib.hid ⟨0, rfl⟩⟩
      case round =>
        obtain ⟨k, rfl, hk, hkk, rfl, rfl, HS⟩ := hrel
        have hbt : Bt wr h T (.slice (some ⟨q, 0, none⟩) n cap) := by obtain ⟨m, rfl⟩ := HS.out; exact hbt
        have e1 := hbt.last
        have hnn := HN.out
        by_cases hlt : k < n
        · obtain ⟨j, hj⟩ : ∃ j, n - k = j + 1 := ⟨n - k - 1, by omega⟩
          have hjn : j < ps.length := by omega
          have hx := List.getElem?_eq_getElem hjn
          have hlk0 := lookup_drop_none ps j _ HND.out hx
          have hlk1 := lookup_nodup ps j _ HND.out hx
          have hov := oldVals_get ps k (by omega) _ (by rw [show ps.length - 1 - k = j by omega]; exact hx)
          have hM1 := HM.out _ (List.getElem_mem hjn)
          have h01 := H0.out _ (List.getElem_mem hjn)
          have hdj : ps.drop j = ps[j] :: ps.drop (j + 1) := List.drop_eq_getElem_cons hjn
          have hrb := rep_bound (ps.drop (j + 1)) 100 (fun x hx => HM.out x (List.mem_of_mem_drop hx)) (by decide) (L s)
          obtain ⟨u, hu, hu2⟩ := HTab.out ps[j].1
          rw [hlk1] at hu2
          generalize ps[j] = x at *
          obtain ⟨x1, x2⟩ := x
          simp only at hlk0 hov hM1 h01 hu
          obtain ⟨g', C, fz, rfl, _, _⟩ := hu2
          have c0 : wr.cell? ⟨q, k, none⟩ = _ := (by obtain ⟨m, rfl⟩ := HS.out; exact HQ.out _ _ hov)
          have c1 := hbt.cell _ _ hu
          rw [hj]
          have hrl := rep_len (ps.drop (j + 1)) x1 x2 hlk0 (L s)
          have hal := any_cons (ps.drop (j + 1)) x1 x2 (L s)
          rw [← hdj] at hrl hal
          have hcl : (L s).count x1 ≤ (L s).length := List.count_le_length
          rw [L_length] at hcl hrb
          have hck : Hid (Lib.countByte s.data.toList x1 = (L s).count x1) := rfl
          generalize (L s).count x1 = cnt at *
          generalize (Sp.rep (ps.drop (j + 1)) (L s)).length = rl at *
          generalize anyRep (ps.drop (j + 1)) (L s) = av at *
          clear hu hlk0 hlk1 hx hov hdj
          have hx0 : (ByteArray.mk #[x1])[0]'(by show 0 < 1; decide) = x1 := rfl
          have b0 : (0 : Int) ≤ (k : Int) := by omega
          have b1 : (k : Int) < n := by omega
          have b2 : (x1.toNat : Int) < 256 := by have := UInt8.toNat_lt x1; omega
          by_cases hcz : cnt = 0
          · have hcz' : ((cnt : Int) != 0) = false := by rw [hcz]; rfl
            have HCZ := Lib.hid hcz
            clear hcz hnn
            go_wp2_with (go_at_call 188; refine (Tryz.strings_Count_one s x1 _).mono ?_; rw [hck.out]; rintro e w1 ⟨rfl, rfl⟩)
            go_roundg (gk - 1)
            case measure => omega
            case rel => exact ⟨k + 1, rfl, by omega, by omega, by rw [show n - (k + 1) = j by omega, hrl, HCZ.out]; simp, by rw [show n - (k + 1) = j by omega, hal, HCZ.out]; simp, HS⟩
          · have hcz' : ((cnt : Int) != 0) = true := by rw [bne_iff_ne]; omega
            have HCZ := Lib.hid hcz
            have hP : (cnt : Int) * ((x2.size : Int) - 1) = ((cnt * (x2.size - 1) : Nat) : Int) := by rw [Int.natCast_mul, Int.natCast_sub h01]; rfl
            have hPb : cnt * (x2.size - 1) ≤ 6000000 * 100 := Nat.mul_le_mul (by omega) (by omega)
            clear hcz hnn
            go_wp2_with (go_at_call 188; refine (Tryz.strings_Count_one s x1 _).mono ?_; rw [hck.out]; rintro e w1 ⟨rfl, rfl⟩)
            go_quiet (fail)
            go_wp2_with fail
            go_roundg (gk - 1)
            case measure => omega
            case rel => exact ⟨k + 1, rfl, by omega, by omega, by rw [show n - (k + 1) = j by omega, hrl, hP, Int.natCast_mul], by rw [show n - (k + 1) = j by omega, hal, decide_eq_true HCZ.out]; simp, by obtain ⟨m, hm⟩ := HS.out; exact ⟨m + nq, by rw [hm]; unfold World.drewN; rw [Nat.add_assoc]⟩⟩
        · obtain rfl : k = n := by omega
          rw [Nat.sub_self, List.drop_zero]
          have hnl : ¬ k < k := Nat.lt_irrefl k
          clear hnn
          go_wp2_with fail
          go_meet
          exact ⟨rfl, rfl, HS⟩
    · have hc8' : decide ((n : Int) * 8 ≤ s.size) = false := by simp; omega
      have HC8 := Lib.hid hc8
      go_wp2_with fail
      go_loopg [5, 6, 10] (s.size + 1) (fun kk x5 x6 x10 wr => ∃ i : Nat, x10 = .int .i64 i ∧ i ≤ s.size ∧ s.size - i < kk ∧ x5 = .int .i64 (((Sp.rep ps ((L s).take i)).length + (s.size - i) : Nat) : Int) ∧ x6 = .bool (anyRep ps ((L s).take i)) ∧ Hid (∃ m, wr = w.drewN m))
      case atStart => exact ⟨0, rfl, Nat.zero_le _, by omega, by simp [Sp.rep], rfl, Lib.hid ⟨0, rfl⟩⟩
      case round =>
        obtain ⟨i, rfl, hi, hik, rfl, rfl, HS⟩ := hrel
        have hbt : Bt wr h T (.slice (some ⟨q, 0, none⟩) n cap) := by obtain ⟨m, rfl⟩ := HS.out; exact hbt
        have e1 := hbt.last
        by_cases hlt : i < s.size
        · have hrt := rep_take ps s i hlt
          have hat := any_take ps s i hlt
          have hrb := rep_bound ps 100 HM.out (by decide) ((L s).take i)
          rw [List.length_take, L_length] at hrb
          have hrb2 : (Sp.rep ps (List.take i (L s))).length ≤ 6000000 * 100 := Nat.le_trans hrb (Nat.mul_le_mul (by omega) (Nat.le_refl _))
          obtain ⟨u, hu, hu2⟩ := HTab.out s[i]
          have c1 := hbt.cell _ _ hu
          have hu8 := UInt8.toNat_lt s[i]
          have hM2 := HM.out
          have h02 := H0.out
          obtain ⟨c, hcd⟩ : ∃ c, s[i] = c := ⟨_, rfl⟩
          rw [hcd] at hrt hat hu hu2 c1 hu8
          generalize (Sp.rep ps (List.take i (L s))) = rl at *
          generalize anyRep ps (List.take i (L s)) = av at *
          have b2 : (c.toNat : Int) < 256 := by omega
          cases hlk : ps.lookup c with
          | none =>
            rw [hlk] at hu2 hrt hat
            obtain rfl : u = .slice none 0 0 := hu2
            have HRT := Lib.hid hrt
            have HAT := Lib.hid hat
            clear hrt hat hlk hu hM2 h02
            go_wp2_with fail
            go_roundg (gk - 1)
            case measure => omega
            case rel => exact ⟨i + 1, rfl, by omega, by omega, by rw [HRT.out, List.length_append]; simp; omega, by rw [HAT.out]; simp, HS⟩
          | some r =>
            rw [hlk] at hu2 hrt hat
            obtain ⟨g', C, fz, rfl, _, _⟩ := hu2
            obtain ⟨hr1, hr2⟩ : 0 < r.size ∧ r.size ≤ 100 := by
              rw [List.lookup_eq_some_iff] at hlk
              obtain ⟨l1, l2, he, _⟩ := hlk
              exact ⟨h02 (c, r) (by rw [he]; simp), hM2 (c, r) (by rw [he]; simp)⟩
            have HRT := Lib.hid hrt
            have HAT := Lib.hid hat
            clear hrt hat hlk hu hM2 h02
            go_wp2_with fail
            go_roundg (gk - 1)
            case measure => omega
            case rel => exact ⟨i + 1, rfl, by omega, by omega, by rw [HRT.out, List.length_append, L_length]; simp; omega, by rw [HAT.out]; simp, HS⟩
        · obtain rfl : i = s.size := by omega
          rw [take_allL, Nat.sub_self, Nat.add_zero]
          have hnl : ¬ s.size < s.size := Nat.lt_irrefl _
          go_wp2_with fail
          go_meet
          exact ⟨rfl, rfl, HS⟩
  case rest =>
    obtain ⟨rfl, rfl, HS⟩ := hcut
    apply_assumption
    have hbC : Below w.heap.size w wc := by obtain ⟨m, rfl⟩ := HS.out; exact (Below.refl _ _).trans ⟨rfl, rfl, rfl, Nat.le_refl _, fun _ _ => rfl⟩
    have hsC : w.heap.size = wc.heap.size := by obtain ⟨m, rfl⟩ := HS.out; rfl
    have HBC := Lib.hid hbC
    have hbtC := hbt.below hbC
    by_cases hany : anyRep ps (L s) = true
    · have HA := Lib.hid hany
      rw [hany]
      have hrb := rep_bound ps 100 HM.out (by decide) (L s)
      rw [L_length] at hrb
      have hNb : (Sp.rep ps (L s)).length ≤ 6000000 * 100 := Nat.le_trans hrb (Nat.mul_le_mul hs (Nat.le_refl _))
      have HR : Hid (∀ i, (Sp.rep ps ((L s).take i)).length ≤ (Sp.rep ps (L s)).length) := rep_le ps s
      obtain ⟨R, hR⟩ : ∃ R, Sp.rep ps (L s) = R := ⟨_, rfl⟩
      rw [hR] at hNb HR ⊢
      have HREQ := Lib.hid hR
      obtain ⟨N, hN⟩ : ∃ N, R.length = N := ⟨_, rfl⟩
      rw [hN] at hNb HR ⊢
      have HNR := Lib.hid hN
      clear hany hrb hR hN hbC
      obtain ⟨i0, hi, hz0, hz1, hz2⟩ := info_parts infoU8o
      go_wp2_with (refine wpList_make_full _ rfl _ _ 36 rfl w.heap.size 5 i0 _ 1 Tryz.underlying36 hi hz0 hz1 .i64 .i64 N N N (by rfl) (by rfl) rfl rfl (by rw [hz2]; omega) (by unfold maxLen; omega) (Nat.le_of_eq hsC) ?_; intro w2 ho2 hg2)
      have hB2 : Below w.heap.size w w2 := ⟨hg2.os.trans HBC.out.os, hg2.tape.trans HBC.out.tape, hg2.output.trans HBC.out.output, Nat.le_trans HBC.out.size hg2.size, fun k hk => (hg2.block k (by omega) (by simp)).trans (HBC.out.block k hk)⟩
      have hF : Hid (Filled wc.heap.size N [] w2) := by
        rcases ho2.2 with ⟨h, _⟩ | ⟨g2, c2, cur, h, hbg, hg, hnc, hcm, hcs, htk⟩
        · simp at h
        · simp only [Value.slice.injEq, Option.some.injEq, Addr.mk.injEq, and_true, true_and] at h
          obtain ⟨rfl, rfl⟩ := h
          exact ⟨cur.toList, hg, by simpa using hcs, rfl⟩
      have HB2 := Lib.hid hB2
      generalize hq2 : wc.heap.size = q2 at *
      clear hB2 ho2 hg2 hbtC hi hz0 hz1 hz2 hq2
      go_loopg [13, 14] (s.size + 1) (fun kk x13 x14 wx => ∃ i : Nat, x14 = .int .i64 i ∧ i ≤ s.size ∧ s.size - i < kk ∧ x13 = .int .i64 (Sp.rep ps ((L s).take i)).length ∧ Hid (Filled q2 N (Sp.rep ps ((L s).take i)) wx) ∧ Hid (Below w.heap.size w wx))
      case atStart => exact ⟨0, rfl, Nat.zero_le _, by omega, rfl, hF, HB2⟩
      case round =>
        obtain ⟨i, rfl, hi, hik, rfl, HF, HB⟩ := hrel
        by_cases hlt : i < s.size
        · have hrt := rep_take ps s i hlt
          have hnext := HR.out (i + 1)
          have hbtW := hbt.below HB.out
          obtain ⟨u, hu, hu2⟩ := HTab.out s[i]
          have hu2' : TabIs B wr (ps.lookup s[i]) u := hu2.grown (below_grown HB.out) (by simp)
          have c1 := hbtW.cell _ _ hu
          have hu8 := UInt8.toNat_lt s[i]
          have hM2 := HM.out
          have h02 := H0.out
          obtain ⟨c, hcd⟩ : ∃ c, s[i] = c := ⟨_, rfl⟩
          rw [hcd] at hrt hu hu2' c1 hu8
          clear hu2
          rw [hrt] at hnext
          generalize hrl : (Sp.rep ps (List.take i (L s))) = rl at *
          have b2 : (c.toNat : Int) < 256 := by omega
          cases hlk : ps.lookup c with
          | none =>
            rw [hlk] at hu2' hrt hnext
            obtain rfl : u = .slice none 0 0 := hu2'
            simp only [List.length_append, List.length_singleton] at hnext
            obtain ⟨z, e3⟩ := HF.out.cell rl.length (by omega)
            have f3 := HF.out.fz rl.length
            have b3 : (rl.length : Int) < N := by omega
            have b4 : (0 : Int) ≤ (rl.length : Int) := by omega
            have HRT := Lib.hid hrt
            have hset := Lib.hid (HF.out.set c (by omega))
            clear hrt hlk hu hM2 h02 hrl
            go_wp2_with fail
            go_roundg (gk - 1)
            case measure => omega
            case rel => exact ⟨i + 1, rfl, by omega, by omega, by rw [HRT.out, List.length_append]; rfl, by rw [HRT.out]; exact hset, HB.out.setCell (p := ⟨q2, rl.length, none⟩) (by show w.heap.size ≤ q2; omega) _⟩
          | some r =>
            rw [hlk] at hu2' hrt hnext
            obtain ⟨g', C, fz, rfl, hg', hrow⟩ := hu2'
            obtain ⟨hr1, hr2⟩ : 0 < r.size ∧ r.size ≤ 100 := by
              rw [List.lookup_eq_some_iff] at hlk
              obtain ⟨l1, l2, he, _⟩ := hlk
              exact ⟨h02 (c, r) (by rw [he]; simp), hM2 (c, r) (by rw [he]; simp)⟩
            simp only [List.length_append, L_length] at hnext
            obtain ⟨cur, hc1, hc2, hc3⟩ := HF.out
            have hsp := Filled.splice (q := q2) hc2 hc3 (more := L r) (by rw [L_length]; exact hnext)
            have hsrc : ∀ j v, (byteVals (L r))[j]? = some v → wr.cell? ((⟨g', 0, none⟩ : Addr).add j) = some v := by
              intro j v hj
              have hjl := (List.getElem?_eq_some_iff.1 hj).1
              rw [byteVals_length, L_length] at hjl
              have : ((⟨g', 0, none⟩ : Addr).add j) = ⟨g', j, none⟩ := by unfold Addr.add; split <;> simp_all
              rw [this, cell_of_row wr g' j _ _ _ hrow, ← hj]
              unfold bytesRow byteVals L
              rw [Array.getElem?_append_left (by simpa using hjl)]
              simp
            have b3 : (rl.length : Int) ≤ N := by omega
            have b4 : (0 : Int) ≤ (rl.length : Int) := by omega
            have HRT := Lib.hid hrt
            have HSP := Lib.hid hsp
            have HSRC := Lib.hid hsrc
            have HC1 := Lib.hid hc1
            clear hrt hlk hu hM2 h02 hrl hsp hsrc hc1 hc3 hrow
            go_wp2_with fail
            go_region_law (refine step_copy_splice rfl (.tmp 105) (.tmp 111) 36 36 rfl 5 Tryz.underlying36 (by kernel_rfl) _ _ _ _ _ _ rfl rfl q2 rl.length cur 5 HC1.out (byteVals (L r)) ?_ ?_ ?_ ?_ w.heap.size w HB.out.drew ?_ ?_; (· go_must (rw [byteVals_length, L_length]; show r.size = min r.size (N - rl.length); omega)); (· go_must (intro _; exact ⟨if_neg (by omega), _, rfl, fun j v hj => HSRC.out j v hj⟩)); (· go_must (rw [byteVals_length, L_length]; omega)); (· go_must (intro v hv; simp only [byteVals, List.mem_map] at hv; obtain ⟨_, _, rfl⟩ := hv; rfl)); (· go_must (omega)); intro w4 hg4 hb4)
            go_wp2_with fail
            go_roundg (gk - 1)
            case measure => omega
            case rel => exact ⟨i + 1, rfl, by omega, by omega, by rw [HRT.out, List.length_append, L_length, byteVals_length, L_length]; congr 1; unfold wrap64; omega, by rw [HRT.out]; exact ⟨_, hg4.out, HSP.out⟩, hb4⟩
        · obtain rfl : i = s.size := by omega
          have hnl : ¬ s.size < s.size := Nat.lt_irrefl _
          rw [take_allL, HREQ.out, ← HNR.out] at HF
          have hcv := (HF.out.own (B := w.heap.size) (by omega) (by have := HNR.out; unfold maxLen; omega)).conv
          rw [HNR.out] at hcv
          go_wp2_with fail
          go_ret
          exact ⟨by rw [HREQ.out]; rfl, HB.out⟩
    · have hany : anyRep ps (L s) = false := by simpa using hany
      have HRS := Lib.hid (rep_same ps _ hany)
      rw [hany]
      clear hany
      go_wp2_with fail
      go_ret
      exact ⟨by rw [HRS.out, bs_L]; rfl, HBC.out⟩
end Go.Proofs.YtokdclmikllepaaGreatDoor
