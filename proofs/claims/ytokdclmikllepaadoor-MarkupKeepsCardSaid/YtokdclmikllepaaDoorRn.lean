import Derived.Test.YtokdclmikllepaaDoorRm
import Derived.Test.YtokdclmikllepaaDoorRs
import Derived.Test.YtokdclmikllepaaDoorPb
namespace Go.Proofs.YtokdclmikllepaaDoor
open Go.RowKit
set_option linter.unusedVariables false
set_option linter.unusedSimpArgs false

/-! ### marks, the first so many of them as far back as they were -/
def Mix (ms : List Sp.Mk) (i : Nat) : List Sp.Mk := ms.take i ++ (ms.drop i).map (shM 14)
def mixA (l : List Sp.At) (k : Nat) : List Sp.At := l.take k ++ (l.drop k).map (shA 14)
theorem mix_zero (ms : List Sp.Mk) : Mix ms 0 = ms.map (shM 14) := by simp [Mix]
theorem mix_end (ms : List Sp.Mk) : Mix ms ms.length = ms := by simp [Mix]
theorem mix_len (ms : List Sp.Mk) (i : Nat) : (Mix ms i).length = ms.length := by simp [Mix]; omega
theorem mixA_zero (l : List Sp.At) : mixA l 0 = l.map (shA 14) := by simp [mixA]
theorem mixA_end (l : List Sp.At) : mixA l l.length = l := by simp [mixA]
theorem mixA_len (l : List Sp.At) (k : Nat) : (mixA l k).length = l.length := by simp [mixA]; omega
theorem mix_at {ms : List Sp.Mk} {i : Nat} {m : Sp.Mk} (h : ms[i]? = some m) : (Mix ms i)[i]? = some (shM 14 m) := by
  have hlt := (List.getElem?_eq_some_iff.1 h).1
  unfold Mix
  rw [List.getElem?_append_right (by rw [List.length_take]; omega), List.length_take, Nat.min_eq_left (by omega), Nat.sub_self, List.getElem?_map, List.getElem?_drop, Nat.add_zero, h]; rfl
theorem mixA_at {l : List Sp.At} {k : Nat} {a : Sp.At} (h : l[k]? = some a) : (mixA l k)[k]? = some (shA 14 a) := by
  have hlt := (List.getElem?_eq_some_iff.1 h).1
  unfold mixA
  rw [List.getElem?_append_right (by rw [List.length_take]; omega), List.length_take, Nat.min_eq_left (by omega), Nat.sub_self, List.getElem?_map, List.getElem?_drop, Nat.add_zero, h]; rfl
theorem mix_next {ms : List Sp.Mk} {i : Nat} {m : Sp.Mk} (h : ms[i]? = some m) : (Mix ms i).set i m = Mix ms (i + 1) := by
  obtain ⟨hlt, hm⟩ := List.getElem?_eq_some_iff.1 h
  have hd : ms.drop i = m :: ms.drop (i + 1) := by rw [← hm]; exact List.drop_eq_getElem_cons hlt
  unfold Mix
  rw [hd, List.map_cons, List.set_append_right _ _ (by rw [List.length_take]; omega), List.length_take, Nat.min_eq_left (by omega), Nat.sub_self, List.set_cons_zero, List.take_add_one, h]
  simp
theorem mixA_next {l : List Sp.At} {k : Nat} {a : Sp.At} (h : l[k]? = some a) : (mixA l k).set k a = mixA l (k + 1) := by
  obtain ⟨hlt, hm⟩ := List.getElem?_eq_some_iff.1 h
  have hd : l.drop k = a :: l.drop (k + 1) := by rw [← hm]; exact List.drop_eq_getElem_cons hlt
  unfold mixA
  rw [hd, List.map_cons, List.set_append_right _ _ (by rw [List.length_take]; omega), List.length_take, Nat.min_eq_left (by omega), Nat.sub_self, List.set_cons_zero, List.take_add_one, h]
  simp
theorem withAttrs_self (m : Sp.Mk) : m.withAttrs m.attrs = m := rfl
theorem shM_withAt (m : Sp.Mk) : (shM 14 m).withAt m.at_ = m.withAttrs (mixA m.attrs 0) := by rw [mixA_zero]; rfl
theorem shA_withAt (a : Sp.At) : (shA 14 a).withAt a.at_ = a := rfl
/-- Within mark i, k of its attributes are as far back as they were. -/
def MixIn (ms : List Sp.Mk) (i : Nat) (m : Sp.Mk) (k : Nat) : List Sp.Mk := (Mix ms i).set i (m.withAttrs (mixA m.attrs k))
theorem mixIn_len (ms : List Sp.Mk) (i : Nat) (m : Sp.Mk) (k : Nat) : (MixIn ms i m k).length = ms.length := by rw [MixIn, List.length_set, mix_len]
theorem mixIn_at {ms : List Sp.Mk} {i : Nat} {m : Sp.Mk} (k : Nat) (h : ms[i]? = some m) : (MixIn ms i m k)[i]? = some (m.withAttrs (mixA m.attrs k)) := by
  have hlt := (List.getElem?_eq_some_iff.1 h).1
  unfold MixIn
  rw [List.getElem?_set_self (by rw [mix_len]; exact hlt)]
theorem mixIn_next {ms : List Sp.Mk} {i : Nat} {m : Sp.Mk} {k : Nat} {a : Sp.At} (ha : m.attrs[k]? = some a) :
    (MixIn ms i m k).set i ((m.withAttrs (mixA m.attrs k)).withAttrs (((m.withAttrs (mixA m.attrs k)).attrs).set k ((shA 14 a).withAt a.at_))) = MixIn ms i m (k + 1) := by
  unfold MixIn
  rw [List.set_set]
  show (Mix ms i).set i (m.withAttrs ((mixA m.attrs k).set k a)) = _
  rw [mixA_next ha]
theorem mixIn_end {ms : List Sp.Mk} {i : Nat} {m : Sp.Mk} (h : ms[i]? = some m) : MixIn ms i m m.attrs.length = Mix ms (i + 1) := by
  unfold MixIn
  rw [mixA_end, withAttrs_self, mix_next h]

theorem head_L (s : ByteArray) : L (⟨#[60, 33, 45, 45, 32, 60, 97, 62, 32, 38, 32, 45, 45, 62]⟩ ++ s) = head14 ++ L s := by
  simp [L, head14]
theorem cat_size (a s : ByteArray) : (a ++ s).size = a.size + s.size := ByteArray.size_append

theorem AtsAt.len {B : Nat} {w : World} {v : Value} {l : List Sp.At} (h : AtsAt B w v l) : ∃ a c, v = .slice a l.length c := by
  rcases h.2 with ⟨rfl, h0⟩ | ⟨g, cap, cur, rfl, _⟩
  · exact ⟨none, 0, by rw [h0]⟩
  · exact ⟨_, cap, rfl⟩

theorem MksAt.cellOf {B : Nat} {w : World} {g n cap : Nat} {l : List Sp.Mk} (h : MksAt B w (.slice (some ⟨g, 0, none⟩) n cap) l) (hn : l.length = n) (h0 : 0 < n) (i : Nat) (m : Sp.Mk) (hm : l[i]? = some m) :
    ∃ av, AtsAt B w av m.attrs ∧ w.cell? ⟨g, i * 6 + 2, none⟩ = some av ∧ w.cell? ⟨g, i * 6 + 5, none⟩ = some (.int .i64 m.at_) := by
  obtain ⟨g', cap', hv, _, _, hc⟩ := h.cell (by omega)
  have e : g' = g := by
    injection hv with e1 _ _
    injection e1 with e1
    injection e1 with e1 _
    exact e1.symm
  subst e
  obtain ⟨av, hat, _, _, h2, _, _, h5⟩ := hc i m hm
  exact ⟨av, hat, h2, h5⟩
end Go.Proofs.YtokdclmikllepaaDoor
