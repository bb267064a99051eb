import Derived.Test.YtokdclmikllepaaGreatDoorKt10
import Derived.Test.YtokdclmikllepaaGreatDoorKt4
import Derived.StillTailTactics
namespace Go.Proofs.YtokdclmikllepaaGreatDoor
open Go.RowKit
set_option linter.unusedVariables false
set_option linter.unusedSimpArgs false

theorem text_end (e : UInt8) (b : Bool) (fr k p : Nat) (t acc : List UInt8) (n : Nat) : Sp.text e b fr (k + 1) p (e :: t) acc n = .ok (acc, n) := by
  rw [Sp.text, if_pos rfl]
theorem text_nil (e : UInt8) (b : Bool) (fr k p : Nat) (acc : List UInt8) (n : Nat) : Sp.text e b fr k p [] acc n = .ok (acc, n) := by
  cases k <;> rfl
theorem text_ref (e : UInt8) (b : Bool) (fr k p : Nat) (t acc : List UInt8) (n : Nat) (he : e ≠ 38) : Sp.text e b fr (k + 1) p (38 :: t) acc n =
    match Sp.reference p (38 :: t) with
    | .error f => .error f
    | .ok (x, m) => Sp.text e b fr k (p + m) ((38 :: t).drop m) (acc ++ x) (n + m) := by
  rw [Sp.text, if_neg (fun h => he h.symm), if_pos rfl]
  cases Sp.reference p (38 :: t) with
  | error f => rfl
  | ok r => rfl
theorem text_lt (e : UInt8) (b : Bool) (fr k p : Nat) (t acc : List UInt8) (n : Nat) (he : e ≠ 60) : Sp.text e b fr (k + 1) p (60 :: t) acc n = .error (p, 82) := by
  rw [Sp.text, if_neg (fun h => he h.symm), if_neg (by decide), if_pos rfl]
theorem text_plain (e : UInt8) (b : Bool) (fr k p : Nat) (c : UInt8) (t acc : List UInt8) (n : Nat) (h1 : c ≠ e) (h2 : c ≠ 38) (h3 : c ≠ 60) : Sp.text e b fr (k + 1) p (c :: t) acc n =
    Sp.text e b fr k (p + ((c :: t).takeWhile (Sp.plainB e)).length) ((c :: t).dropWhile (Sp.plainB e)) (acc ++ Sp.flat b ((c :: t).takeWhile (Sp.plainB e))) (n + ((c :: t).takeWhile (Sp.plainB e)).length) := by
  rw [Sp.text, if_neg h1, if_neg h2, if_neg h3]

/-- Where the plain bytes that begin at a place end. -/
def pl (e : UInt8) (s : ByteArray) (p : Nat) : Nat := p + (((L s).drop p).takeWhile (Sp.plainB e)).length
theorem pl_step (e : UInt8) (s : ByteArray) (p : Nat) (h : p < s.size) (hw : Sp.plainB e s[p] = true) : pl e s p = pl e s (p + 1) := by
  unfold pl
  rw [L_drop s p h, List.takeWhile_cons, hw]
  simp; omega
theorem pl_not (e : UInt8) (s : ByteArray) (p : Nat) (h : p < s.size) (hw : Sp.plainB e s[p] = false) : pl e s p = p := by
  unfold pl
  rw [L_drop s p h, List.takeWhile_cons, hw]
  simp
theorem pl_end (e : UInt8) (s : ByteArray) (p : Nat) (h : s.size ≤ p) : pl e s p = p := by
  unfold pl
  rw [List.drop_eq_nil_of_le (by rw [L_length]; exact h)]
  simp
theorem pl_le (e : UInt8) (s : ByteArray) (p : Nat) (h : p ≤ s.size) : p ≤ pl e s p ∧ pl e s p ≤ s.size := by
  unfold pl
  have := (List.takeWhile_prefix (Sp.plainB e) (l := (L s).drop p)).length_le
  rw [List.length_drop, L_length] at this
  omega
theorem takeWhile_take (q : UInt8 → Bool) (l : List UInt8) : l.takeWhile q = l.take (l.takeWhile q).length :=
  List.prefix_iff_eq_take.1 (List.takeWhile_prefix q)
theorem dropWhile_drop (q : UInt8 → Bool) (l : List UInt8) : l.dropWhile q = l.drop (l.takeWhile q).length := by
  have := List.drop_left (l₁ := l.takeWhile q) (l₂ := l.dropWhile q)
  rw [List.takeWhile_append_dropWhile] at this
  exact this.symm
theorem pl_text (e : UInt8) (s : ByteArray) (p : Nat) : L (s.extract p (pl e s p)) = ((L s).drop p).takeWhile (Sp.plainB e) := by
  rw [L_extract]
  conv => rhs; rw [takeWhile_take]
  congr 1
  unfold pl; omega

theorem putI_len (r : Int) : (Sp.putI r).length ≤ 4 := by
  unfold Sp.putI
  repeat' split
  all_goals simp
theorem reference_len (p : Nat) (l x : List UInt8) (m : Nat) (hh : l.head? = some 38) (h : Sp.reference p l = .ok (x, m)) : x.length ≤ 4 ∧ 1 ≤ m ∧ m ≤ l.length := by
  unfold Sp.reference at h
  cases hf : Sp.find [59] (l.take 12) with
  | none => rw [hf] at h; cases h
  | some e =>
    rw [hf] at h
    simp only at h
    have hp := find_pos hh hf
    cases hr : Sp.refText ((l.drop 1).take (e - 1)) with
    | none => rw [hr] at h; cases h
    | some t =>
      rw [hr] at h
      injection h with h
      injection h with h1 h2
      subst h1 h2
      refine ⟨?_, by omega, by omega⟩
      unfold Sp.refText at hr
      have hnr : ∀ b d y, Sp.numRune b d = some y → y.length ≤ 4 := fun b d y hy => by
        unfold Sp.numRune at hy
        split at hy
        · cases hy
        · split at hy
          · split at hy
            · injection hy with hy; subst hy; rw [put_len]; exact putI_len _
            · cases hy
          · cases hy
      split at hr
      · rename_i t' hn
        injection hr with hr
        subst hr
        unfold Sp.namedO at hn
        repeat' (split at hn)
        all_goals first | (injection hn with hn; subst hn; simp) | cases hn
      · rcases numO_cases ((l.drop 1).take (e - 1)) with ⟨d, _, hno⟩ | ⟨d, _, _, hno⟩ | ⟨_, hno⟩
        · rw [hno] at hr; exact hnr _ _ _ hr
        · rw [hno] at hr; exact hnr _ _ _ hr
        · rw [hno] at hr; cases hr
theorem flat_len (b : Bool) (l : List UInt8) : (Sp.flat b l).length ≤ l.length := by
  unfold Sp.flat
  split
  · rw [List.length_map]; exact lines_len l
  · exact lines_len l

/-- The builder is untouched by what the reader does. -/
theorem bld_only {w w' : World} {g B b : Nat} {s : ByteArray} {p fr : Nat} {out : Value} {bs : List Value} (h : Lib.IsBuilder 115 5 B b bs w) (hr : Rd w g s p fr out) (ho : Only g w w') : Lib.IsBuilder 115 5 B b bs w' := by
  have key : ∀ q, Lib.BuilderAt 115 5 B b q bs w → Lib.BuilderAt 115 5 B b q bs w' := fun q hq => by
    obtain ⟨hB, v, hb, hown, hne⟩ := hq
    refine ⟨hB, v, ?_, hown.kept ho (.inr (hr.row hown (by decide))), hne⟩
    have hlt : b < w.heap.size := (Array.getElem?_eq_some_iff.1 hb).1
    rw [ho.block b hlt ?_, hb]
    intro he
    injection he with he
    subst he
    have := hr.2
    rw [hb] at this
    injection this with this
    injection this with _ h2 _
    exact absurd h2 (by decide)
  rcases h with h | h
  · exact .inl (key _ h)
  · exact .inr (key _ h)
end Go.Proofs.YtokdclmikllepaaGreatDoor
namespace Go.Proofs.YtokdclmikllepaaGreatDoor
open Go.RowKit Go.Shelf
set_option linter.unusedVariables false

def renBl : Go.Shelf.Ren := ⟨fun | 166 => 77 | 240 => 111 | 276 => 142 | n => n, fun | 0 => 0 | 3 => 3 | 4 => 4 | 9 => 9 | 20 => 20 | 37 => 36 | 70 => 113 | 72 => 115 | 75 => 117 | 80 => 122 | 164 => 183 | 5 => 5 | n => n, fun n => n⟩
theorem lays_n166 : Lays.n166 Tryz.prog renBl where
  mixed := by kernel_rfl
  f166 := Tryz.func77.trans (congrArg some (by kernel_rfl))
  f240 := Tryz.func111.trans (congrArg some (by kernel_rfl))
  f276 := Tryz.func142.trans (congrArg some (by kernel_rfl))
  t0 := Tryz.underlying0
  a0 := Tryz.isAgg0
  z0 := Tryz.sizeOf0
  v0 := Tryz.zeroValue0
  t3 := Tryz.underlying3
  a3 := Tryz.isAgg3
  z3 := Tryz.sizeOf3
  v3 := Tryz.zeroValue3
  t4 := Tryz.underlying4
  a4 := Tryz.isAgg4
  z4 := Tryz.sizeOf4
  v4 := Tryz.zeroValue4
  t9 := Tryz.underlying9
  a9 := Tryz.isAgg9
  z9 := Tryz.sizeOf9
  v9 := Tryz.zeroValue9
  t20 := Tryz.underlying20
  a20 := Tryz.isAgg20
  z20 := Tryz.sizeOf20
  v20 := Tryz.zeroValue20
  t37 := Tryz.underlying36
  a37 := Tryz.isAgg36
  z37 := Tryz.sizeOf36
  v37 := Tryz.zeroValue36
  t70 := Tryz.underlying113
  a70 := Tryz.isAgg113
  z70 := Tryz.sizeOf113
  v70 := Tryz.zeroValue113
  t72 := Tryz.underlying115
  a72 := Tryz.isAgg115
  z72 := Tryz.sizeOf115
  v72 := Tryz.zeroValue115
  t75 := Tryz.underlying117
  a75 := Tryz.isAgg117
  z75 := Tryz.sizeOf117
  v75 := Tryz.zeroValue117
  t164 := Tryz.underlying183
  a164 := Tryz.isAgg183
  z164 := Tryz.sizeOf183
  v164 := Tryz.zeroValue183
theorem extra_Bl : Builder.Extra Tryz.prog renBl where
  sizeBuilder := by kernel_rfl
  liesBuilder := by kernel_rfl
  t5 := Tryz.underlying5
  a5 := Tryz.isAgg5
  z5 := Tryz.sizeOf5
  v5 := Tryz.zeroValue5
  infoByte := by kernel_rfl
  cellsByte := by kernel_rfl
  sizeByte := by kernel_rfl
  neB5 := by decide

/-- (*strings.Builder).WriteString. -/
theorem Builder_WriteString (B b : Nat) (bs : List Value) (s : ByteArray) (w : World) (h : Lib.IsBuilder 115 5 B b bs w) (hlen : bs.length + s.size ≤ 140737488355328) (hBw : B ≤ w.heap.size) :
    Calls Tryz.prog 77 #[.pointer (some ⟨b, 0, none⟩), .string s] w fun e w' => e = .returned (.tuple #[.int .i64 s.size, .nilIface]) ∧ Lib.BuilderAt 115 5 B b (.pointer (some ⟨b, 0, none⟩)) (bs ++ Lib.strCells s) w' ∧ Below B w w' :=
  Any.Builder_WriteString lays_n166 extra_Bl B b bs s w h hlen hBw
#print axioms Builder_WriteString
end Go.Proofs.YtokdclmikllepaaGreatDoor
namespace Go.Proofs.YtokdclmikllepaaGreatDoor
open Go.RowKit
set_option linter.unusedVariables false
set_option linter.unusedSimpArgs false

/-- How a text ends. -/
def TextEnd (wanted : Bool) (g : Nat) (s : ByteArray) (p fr : Nat) (out : Value) (R : Except Sp.Flt (Sp.Bs × Nat)) (w : World) (e : Ending) (w' : World) : Prop :=
  Only g w w' ∧ match R with
  | .error f => e = pan f
  | .ok (t, n) => if wanted = false then e = .returned (.string ⟨t.toArray⟩) ∧ Rd w' g s (p + n) fr out
      else if p + n < s.size then e = .returned (.string ⟨t.toArray⟩) ∧ Rd w' g s (p + n + 1) fr out else e = pan (fr, 84)

theorem TextEnd.plain {g : Nat} {s : ByteArray} {p fr n : Nat} {out : Value} {t : Sp.Bs} {w w' : World} (ho : Only g w w') (hr : Rd w' g s (p + n) fr out) :
    TextEnd false g s p fr out (.ok (t, n)) w (.returned (.string ⟨t.toArray⟩)) w' := ⟨ho, by show (if _ then _ else _); rw [if_pos rfl]; exact ⟨rfl, hr⟩⟩
theorem TextEnd.wantOk {g : Nat} {s : ByteArray} {p fr n : Nat} {out : Value} {t : Sp.Bs} {w w' : World} (h : p + n < s.size) (ho : Only g w w') (hr : Rd w' g s (p + n + 1) fr out) :
    TextEnd true g s p fr out (.ok (t, n)) w (.returned (.string ⟨t.toArray⟩)) w' := ⟨ho, by show (if _ then _ else _); rw [if_neg (by simp), if_pos h]; exact ⟨rfl, hr⟩⟩
theorem TextEnd.wantEnd {g : Nat} {s : ByteArray} {p fr n : Nat} {out : Value} {t : Sp.Bs} {w w' : World} (h : p + n = s.size) (ho : Only g w w') :
    TextEnd true g s p fr out (.ok (t, n)) w (pan (fr, 84)) w' := ⟨ho, by show (if _ then _ else _); rw [if_neg (by simp), if_neg (by omega)]⟩
theorem TextEnd.err {b : Bool} {g : Nat} {s : ByteArray} {p fr : Nat} {out : Value} {f : Sp.Flt} {w w' : World} (ho : Only g w w') : TextEnd b g s p fr out (.error f) w (pan f) w' := ⟨ho, rfl⟩

theorem Rd.belowB {w w' : World} {B g : Nat} {s : ByteArray} {p fr : Nat} {out : Value} (h : Rd w g s p fr out) (hb : Below B w w') (hg : g < B) : Rd w' g s p fr out := ⟨h.1, (hb.block g hg).trans h.2⟩
theorem Only.belowB {a w w' : World} {g : Nat} (h : Only g a w) (hb : Below a.heap.size w w') : Only g a w' :=
  ⟨hb.os.trans h.os, hb.tape.trans h.tape, hb.output.trans h.output, Nat.le_trans h.size hb.size, fun i hi hne => (hb.block i hi).trans (h.block i hi hne)⟩
theorem bld_more (acc x : List UInt8) : Lib.byteCells acc ++ Lib.strCells ⟨x.toArray⟩ = Lib.byteCells (acc ++ x) := by
  simp [Lib.byteCells, Lib.strCells]

/-- What holds at the head of each round. -/
def TI (g : Nat) (s : ByteArray) (fr : Nat) (out : Value) (w : World) (p : Nat) (acc : List UInt8) (wr : World) : Prop :=
  Only g w wr ∧ Rd wr g s p fr out ∧ Lib.IsBuilder 115 5 w.heap.size w.heap.size (Lib.byteCells acc) wr
theorem TI.drewN {g : Nat} {s : ByteArray} {fr : Nat} {out : Value} {w : World} {p : Nat} {acc : List UInt8} {wr : World} (h : TI g s fr out w p acc wr) (n : Nat) : TI g s fr out w p acc (wr.drewN n) := ⟨h.1.drewN n, h.2.1.drewN n, h.2.2⟩
theorem TI.only {g : Nat} {s : ByteArray} {fr : Nat} {out : Value} {w : World} {p q : Nat} {acc : List UInt8} {wr w2 : World} (h : TI g s fr out w p acc wr) (ho : Only g wr w2) (hr : Rd w2 g s q fr out) : TI g s fr out w q acc w2 :=
  ⟨h.1.trans ho, hr, bld_only h.2.2 h.2.1 ho⟩
theorem TI.move {g : Nat} {s : ByteArray} {fr : Nat} {out : Value} {w : World} {p : Nat} {acc : List UInt8} {wr : World} (h : TI g s fr out w p acc wr) : TI g s fr out w (p + 1) acc (wr.setCell ⟨g, 1, none⟩ (.int .i64 ((p : Int) + 1))) :=
  h.only ((Only.refl g wr).set 1 _) (Rd.set1 h.2.1 (p + 1))
theorem TI.below {g : Nat} {s : ByteArray} {fr : Nat} {out : Value} {w : World} {p : Nat} {acc : List UInt8} {wr w2 : World} (h : TI g s fr out w p acc wr) (hb : Below wr.heap.size wr w2) : TI g s fr out w p acc w2 :=
  h.only (Only.belowB (Only.refl g wr) hb) (h.2.1.belowB hb h.2.1.lt)
theorem flat_false (l : List UInt8) : Sp.flat false l = Sp.lines l := if_neg (by simp)
theorem TI.write {g : Nat} {s : ByteArray} {fr : Nat} {out : Value} {w : World} {p : Nat} {acc x : List UInt8} {wr w2 : World} (h : TI g s fr out w p acc wr) (hg : g < w.heap.size)
    (hb : Lib.BuilderAt 115 5 w.heap.size w.heap.size (.pointer (some ⟨w.heap.size, 0, none⟩)) (Lib.byteCells acc ++ Lib.strCells ⟨x.toArray⟩) w2) (hbl : Below w.heap.size wr w2) : TI g s fr out w p (acc ++ x) w2 :=
  ⟨h.1.belowB hbl, h.2.1.belowB hbl hg, .inr (bld_more acc x ▸ hb)⟩
theorem TI.start {g : Nat} {s : ByteArray} {p fr : Nat} {out : Value} {w : World} (hr : Rd w g s p fr out) : TI g s fr out w p [] (w.alloc (.cells #[.pointer none, .slice none 0 0] 115)) :=
  ⟨(Only.refl g w).alloc _, hr.alloc _, .inl ⟨Nat.le_refl _, _, heap_alloc_new w _, World.ownsRow_nil _ _ _ _, by simp [Value.ownBlock]⟩⟩


set_option maxHeartbeats 16000000 in
set_option maxRecDepth 100000 in
theorem text_lines (s : ByteArray) (g p fr : Nat) (out : Value) (w : World) (hG : Gl w) (hr : Rd w g s p fr out) (hs : s.size ≤ 65536) (hp : p ≤ s.size) :
    Calls Tryz.prog 127 #[.pointer (some ⟨g, 0, none⟩), .int .u8 60, .bool false, .func (.func 121) #[] #[]] w
      (TextEnd false g s p fr out (Sp.text 60 false fr (s.size - p + 1) p ((L s).drop p) [] 0) w) := by
  obtain ⟨R, hR⟩ : ∃ R, Sp.text 60 false fr (s.size - p + 1) p ((L s).drop p) [] 0 = R := ⟨_, rfl⟩
  rw [hR]
  have HR := Lib.hid hR
  have hglt := hr.lt
  clear hR
  have HG : Hid (∀ wr, Only g w wr → Gl wr) := fun wr ho => hG.only hr.1 ho
  have HS := TI.start hr
  have HS2 : Hid (TI g s fr out w p [] (w.alloc (.cells #[.pointer none, .slice none 0 0] 115))) := HS
  clear HS hG hr
  go_enter Tryz.func127, Tryz.ntmps127
  go_wp2_with fail
  go_loopg [10] (s.size - p + 1) (fun k _ wr => ∃ (p' : Nat) (acc : List UInt8) (n : Nat), p ≤ p' ∧ p' ≤ s.size ∧ s.size - p' < k ∧ acc.length ≤ 4 * (p' - p) ∧ Hid (p + n = p') ∧ Hid (Sp.text 60 false fr k p' ((L s).drop p') acc n = R) ∧ Hid (TI g s fr out w p' acc wr))
  case atStart => exact ⟨p, [], 0, Nat.le_refl _, hp, by omega, by simp, rfl, HR, HS2⟩
  case round =>
    obtain ⟨p', acc, n, hpp, hps, hk, hal, HN, HT, HI⟩ := hrel
    obtain ⟨k, rfl⟩ : ∃ m, gk = m + 1 := ⟨gk - 1, by omega⟩
    have h0 := HI.out.2.1.c0
    have h1 := HI.out.2.1.c1
    have hf1 := HI.out.2.1.fz 1
    by_cases hlt : p' < s.size
    · have hd : decide ((p' : Int) < s.size) = true := by simp; omega
      have hx0 : (0 : Int) ≤ p' := by omega
      have hx1 : (p' : Int) < s.size := by omega
      have hcu : s[p'].toNat < 256 := s[p'].toNat_lt
      by_cases he : s[p'] = 60
      · have hne : ((s[p'].toNat : Int) != 60) = false := by rw [he]; rfl
        have hRR : R = .ok (acc, n) := by
          have := HT.out
          rw [L_drop s p' hlt, he, text_end] at this
          exact this.symm
        have HE := Lib.hid he
        clear he
        subst hRR
        go_wp2_with fail
        go_quiet (fail)
        go_wp2_with fail
        refine (Tryz.Builder_String_any _ _ acc _ (HI.out.drewN _).2.2 (HI.out.drewN _).1.size).mono ?_
        rintro e1 w2 ⟨rfl, hbl⟩
        go_wp2_with fail
        go_ret
        exact TextEnd.plain ((HI.out.drewN _).1.belowB hbl) (HN.out ▸ (HI.out.drewN _).2.1.belowB hbl hglt)
      · have hne : ((s[p'].toNat : Int) != 60) = true := by rw [bne_iff_ne]; intro h; exact he (UInt8.toNat_inj.1 (by show _ = 60; omega))
        by_cases h38 : s[p'] = 38
        · have hb38 : ((s[p'].toNat : Int) == 38) = true := by rw [h38]; rfl
          have hh : ((L s).drop p').head? = some 38 := by rw [L_drop s p' hlt, h38]; rfl
          have hstep := HT.out
          rw [L_drop s p' hlt, h38, text_ref _ _ _ _ _ _ _ _ (by decide), ← h38, ← L_drop s p' hlt] at hstep
          have HST := Lib.hid hstep
          have HH := Lib.hid hh
          have H3 := Lib.hid h38
          clear hstep hh h38 he
          go_wp2_with fail
          go_quiet (fail)
          go_wp2_with fail
          go_quiet (fail)
          go_wp2_with fail
          have HIn : ∀ q, Hid (TI g s fr out w p' acc (wr.drewN q)) := fun q => HI.out.drewN q
          cases hre : Sp.reference p' ((L s).drop p') with
          | error f =>
            have hRR : R = .error f := by
              have := HST.out
              rw [hre] at this
              exact this.symm
            have HRE := Lib.hid hre
            clear hre
            subst hRR
            refine ((reference_calls s g p' fr out _ (HG.out _ (HIn _).out.1) (HIn _).out.2.1 hs hlt HH.out).2 f HRE.out).mono ?_
            rintro e1 w2 ⟨he1, ho⟩
            unfold pan at he1
            subst he1
            go_wp2_with fail
            exact ⟨rfl, TextEnd.err ((HIn _).out.1.trans ho)⟩
          | ok r =>
            obtain ⟨x, m⟩ := r
            have hlen := reference_len p' _ x m HH.out hre
            rw [List.length_drop, L_length] at hlen
            have hl1 := hlen.1
            have hl2 := hlen.2.1
            have hl3 := hlen.2.2
            have hst2 : Sp.text 60 false fr k (p' + m) ((L s).drop (p' + m)) (acc ++ x) (n + m) = R := by
              have := HST.out
              rw [hre] at this
              simp only at this
              rw [List.drop_drop] at this
              exact this
            have HRE := Lib.hid hre
            have HS3 := Lib.hid hst2
            clear hre hst2 hlen
            refine ((reference_calls s g p' fr out _ (HG.out _ (HIn _).out.1) (HIn _).out.2.1 hs hlt HH.out).1 x m HRE.out).mono ?_
            rintro e1 w2 ⟨rfl, ho, hr2⟩
            have HI2 : Hid (TI g s fr out w (p' + m) acc w2) := (HIn _).out.only ho hr2
            have hsz2 : w.heap.size ≤ w2.heap.size := HI2.out.1.size
            clear ho hr2
            go_wp2_with fail
            refine (Builder_WriteString _ _ _ ⟨x.toArray⟩ _ HI2.out.2.2 (by simp [Lib.byteCells, mk_len]; omega) hsz2).mono ?_
            rintro e1 w3 ⟨rfl, hbd, hbl⟩
            have HI3 : Hid (TI g s fr out w (p' + m) (acc ++ x) w3) := HI2.out.write hglt hbd hbl
            clear hbd hbl
            go_wp2_with fail
            go_roundg k
            case measure => omega
            case rel => exact ⟨p' + m, acc ++ x, n + m, by omega, by omega, by omega, by rw [List.length_append]; omega, by rw [← Nat.add_assoc, HN.out]; rfl, HS3, HI3⟩
        · have hb38 : ((s[p'].toNat : Int) == 38) = false := by rw [beq_eq_false_iff_ne]; intro h; exact h38 (UInt8.toNat_inj.1 (by show _ = 38; omega))
          have h60 : s[p'] ≠ 60 := he
          have hb60 : ((s[p'].toNat : Int) == 60) = false := by rw [beq_eq_false_iff_ne]; intro h; exact h60 (UInt8.toNat_inj.1 (by show _ = 60; omega))
          have hpl := text_plain 60 false fr k p' s[p'] ((L s).drop (p' + 1)) acc n he h38 h60
          have hqb := pl_le 60 s p' hps
          obtain ⟨q, hq⟩ : ∃ q, pl 60 s p' = q := ⟨_, rfl⟩
          rw [hq] at hqb
          have hqs := hqb.2
          have hpb : Sp.plainB 60 s[p'] = true := by simp [Sp.plainB, he, h38, h60]
          have hqp : p' + 1 ≤ q := by rw [← hq, pl_step _ s p' hlt hpb]; exact (pl_le _ s (p' + 1) (by omega)).1
          have htx : L (s.extract p' q) = ((L s).drop p').takeWhile (Sp.plainB 60) := by rw [← hq]; exact pl_text _ s p'
          have e1 : p' + (((L s).drop p').takeWhile (Sp.plainB 60)).length = q := hq
          have hln : (L (s.extract p' q)).length = q - p' := by rw [htx]; omega
          have hstep : Sp.text 60 false fr k q ((L s).drop q) (acc ++ Sp.lines (L (s.extract p' q))) (n + (q - p')) = R := by
            have h := HT.out
            rw [L_drop s p' hlt, hpl, ← L_drop s p' hlt, dropWhile_drop, List.drop_drop, e1, ← htx, hln, flat_false] at h
            exact h
          
          have HST := Lib.hid hstep
          have HQ := Lib.hid hq
          have HLN := Lib.hid hln
          have h60 := hb60
          clear hstep hpl hq hqb htx hpb hln he h38 e1
          go_wp2_with fail
          go_quiet (fail)
          go_wp2_with fail
          go_quiet (fail)
          go_wp2_with fail
          have HI1 : ∀ z, Hid (TI g s fr out w p' acc (wr.drewN z)) := fun z => HI.out.drewN z
          go_loopg [] (s.size - p' + 1) (fun k2 wr2 => ∃ j, p' ≤ j ∧ j ≤ q ∧ s.size - j < k2 ∧ Hid (pl 60 s j = q) ∧ Hid (TI g s fr out w j acc wr2))
          case atStart => exact ⟨p', Nat.le_refl _, by omega, by omega, HQ, HI1 _⟩
          case round =>
            clear h0 h1 hf1
            obtain ⟨j, hpj, hjq, hk2, HJ, HI4⟩ := hrel
            have h0 := HI4.out.2.1.c0
            have h1 := HI4.out.2.1.c1
            have hf1 := HI4.out.2.1.fz 1
            by_cases hj : j < s.size
            · have hd2 : decide ((j : Int) < s.size) = true := by simp; omega
              have hx2 : (0 : Int) ≤ j := by omega
              have hx3 : (j : Int) < s.size := by omega
              have hjc : s[j].toNat < 256 := s[j].toNat_lt
              by_cases je : s[j] = 60
              · have hb1 : ((s[j].toNat : Int) != 60) = false := by rw [je]; rfl
                have hjq2 : j = q := (pl_not 60 s j hj (by simp [Sp.plainB, je])).symm.trans HJ.out
                subst hjq2
                clear je hjc
                go_wp2_with fail
                go_quiet (fail)
                go_wp2_with fail
                have HI5 := fun z => Lib.hid (HI4.out.drewN z)
                have hx4 : (p' : Int) ≤ j := by omega
                have hx5 : (j : Int) ≤ s.size := by omega
                clear hf1
                have hsz : (s.extract p' j).size ≤ 65536 := by rw [← L_length, HLN.out]; omega
                have hll := lines_len (L (s.extract p' j))
                rw [HLN.out] at hll
                have hbs : (Lib.byteCells acc).length + (⟨(Sp.lines (L (s.extract p' j))).toArray⟩ : ByteArray).size ≤ 140737488355328 := by simp [Lib.byteCells, mk_len]; omega
                obtain ⟨m0, hm0⟩ := (HG.out _ HI4.out.1).mx
                go_region_held3 (fun w' => w'.cell? ⟨g, 0, none⟩ = some (.string s) ∧ w'.cell? ⟨g, 1, none⟩ = some (.int .i64 j)) (first | exact ⟨h0, h1⟩) (first | (go_at_call 121; go_must (refine (lines_calls (s.extract p' j) _ m0 (by exact hm0) hsz).mono ?_); rintro e w3 ⟨rfl, hbl⟩; clear h0 h1; have HI6 := Lib.hid ((HI5 _).out.below hbl); clear hbl; have h0 := HI6.out.2.1.c0; have h1 := HI6.out.2.1.c1) | (go_at_call 77; go_must (refine (Builder_WriteString _ _ _ ⟨(Sp.lines (L (s.extract p' j))).toArray⟩ _ HI6.out.2.2 hbs HI6.out.1.size).mono ?_); rintro e w4 ⟨rfl, hbd, hbl4⟩; have HI7 := Lib.hid (HI6.out.write hglt hbd hbl4); clear hbd hbl4 HI6 h0 h1; have h0 := HI7.out.2.1.c0; have h1 := HI7.out.2.1.c1))
                go_wp2_with fail
                go_roundg k
                case measure => omega
                case rel => exact ⟨j, acc ++ Sp.lines (L (s.extract p' j)), n + (j - p'), by omega, by omega, by omega, by rw [List.length_append]; omega, Lib.hid (by have := HN.out; omega), HST, HI7⟩
              · have hb1 : ((s[j].toNat : Int) != 60) = true := by rw [bne_iff_ne]; intro h; exact je (UInt8.toNat_inj.1 (by show _ = 60; omega))
                by_cases j38 : s[j] = 38
                · have hb2 : ((s[j].toNat : Int) != 38) = false := by rw [j38]; rfl
                  have hjq2 : j = q := (pl_not 60 s j hj (by simp [Sp.plainB, j38])).symm.trans HJ.out
                  subst hjq2
                  clear je hjc
                  go_wp2_with fail
                  go_quiet (fail)
                  go_wp2_with fail
                  have HI5 := fun z => Lib.hid (HI4.out.drewN z)
                  have hx4 : (p' : Int) ≤ j := by omega
                  have hx5 : (j : Int) ≤ s.size := by omega
                  clear hf1
                  have hsz : (s.extract p' j).size ≤ 65536 := by rw [← L_length, HLN.out]; omega
                  have hll := lines_len (L (s.extract p' j))
                  rw [HLN.out] at hll
                  have hbs : (Lib.byteCells acc).length + (⟨(Sp.lines (L (s.extract p' j))).toArray⟩ : ByteArray).size ≤ 140737488355328 := by simp [Lib.byteCells, mk_len]; omega
                  obtain ⟨m0, hm0⟩ := (HG.out _ HI4.out.1).mx
                  go_region_held3 (fun w' => w'.cell? ⟨g, 0, none⟩ = some (.string s) ∧ w'.cell? ⟨g, 1, none⟩ = some (.int .i64 j)) (first | exact ⟨h0, h1⟩) (first | (go_at_call 121; go_must (refine (lines_calls (s.extract p' j) _ m0 (by exact hm0) hsz).mono ?_); rintro e w3 ⟨rfl, hbl⟩; clear h0 h1; have HI6 := Lib.hid ((HI5 _).out.below hbl); clear hbl; have h0 := HI6.out.2.1.c0; have h1 := HI6.out.2.1.c1) | (go_at_call 77; go_must (refine (Builder_WriteString _ _ _ ⟨(Sp.lines (L (s.extract p' j))).toArray⟩ _ HI6.out.2.2 hbs HI6.out.1.size).mono ?_); rintro e w4 ⟨rfl, hbd, hbl4⟩; have HI7 := Lib.hid (HI6.out.write hglt hbd hbl4); clear hbd hbl4 HI6 h0 h1; have h0 := HI7.out.2.1.c0; have h1 := HI7.out.2.1.c1))
                  go_wp2_with fail
                  go_roundg k
                  case measure => omega
                  case rel => exact ⟨j, acc ++ Sp.lines (L (s.extract p' j)), n + (j - p'), by omega, by omega, by omega, by rw [List.length_append]; omega, Lib.hid (by have := HN.out; omega), HST, HI7⟩
                · have hb2 : ((s[j].toNat : Int) != 38) = true := by rw [bne_iff_ne]; intro h; exact j38 (UInt8.toNat_inj.1 (by show _ = 38; omega))
                  have hpb : Sp.plainB 60 s[j] = true := by simp [Sp.plainB, je, j38]
                  have hstep2 := pl_step 60 s j hj hpb
                  rw [HJ.out] at hstep2
                  have hle2 := pl_le 60 s (j + 1) (by omega)
                  rw [← hstep2] at hle2
                  have hle3 := hle2.1
                  have HS4 := Lib.hid hstep2.symm
                  clear je j38 hpb hle2 hstep2 hjc
                  go_wp2_with fail
                  go_quiet (fail)
                  go_wp2_with fail
                  go_roundg (gk - 1)
                  case measure => omega
                  case rel => exact ⟨j + 1, by omega, by omega, by omega, HS4, (HI4.out.drewN _).move⟩
            · have hd2 : decide ((j : Int) < s.size) = false := by simp; omega
              have je := 0
              have hjc := 0
              have hjq2 : j = q := (pl_end 60 s j (by omega)).symm.trans HJ.out
              subst hjq2
              clear je hjc
              go_wp2_with fail
              go_quiet (fail)
              go_wp2_with fail
              have HI5 := fun z => Lib.hid (HI4.out.drewN z)
              have hx4 : (p' : Int) ≤ j := by omega
              have hx5 : (j : Int) ≤ s.size := by omega
              clear hf1
              have hsz : (s.extract p' j).size ≤ 65536 := by rw [← L_length, HLN.out]; omega
              have hll := lines_len (L (s.extract p' j))
              rw [HLN.out] at hll
              have hbs : (Lib.byteCells acc).length + (⟨(Sp.lines (L (s.extract p' j))).toArray⟩ : ByteArray).size ≤ 140737488355328 := by simp [Lib.byteCells, mk_len]; omega
              obtain ⟨m0, hm0⟩ := (HG.out _ HI4.out.1).mx
              go_region_held3 (fun w' => w'.cell? ⟨g, 0, none⟩ = some (.string s) ∧ w'.cell? ⟨g, 1, none⟩ = some (.int .i64 j)) (first | exact ⟨h0, h1⟩) (first | (go_at_call 121; go_must (refine (lines_calls (s.extract p' j) _ m0 (by exact hm0) hsz).mono ?_); rintro e w3 ⟨rfl, hbl⟩; clear h0 h1; have HI6 := Lib.hid ((HI5 _).out.below hbl); clear hbl; have h0 := HI6.out.2.1.c0; have h1 := HI6.out.2.1.c1) | (go_at_call 77; go_must (refine (Builder_WriteString _ _ _ ⟨(Sp.lines (L (s.extract p' j))).toArray⟩ _ HI6.out.2.2 hbs HI6.out.1.size).mono ?_); rintro e w4 ⟨rfl, hbd, hbl4⟩; have HI7 := Lib.hid (HI6.out.write hglt hbd hbl4); clear hbd hbl4 HI6 h0 h1; have h0 := HI7.out.2.1.c0; have h1 := HI7.out.2.1.c1))
              go_wp2_with fail
              go_roundg k
              case measure => omega
              case rel => exact ⟨j, acc ++ Sp.lines (L (s.extract p' j)), n + (j - p'), by omega, by omega, by omega, by rw [List.length_append]; omega, Lib.hid (by have := HN.out; omega), HST, HI7⟩
    · have hps' : p' = s.size := by omega
      subst hps'
      have hd : decide ((s.size : Int) < s.size) = false := by simp
      have hRR : R = .ok (acc, n) := by
        have := HT.out
        rw [List.drop_eq_nil_of_le (by rw [L_length]; exact Nat.le_refl _), text_nil] at this
        exact this.symm
      subst hRR
      go_wp2_with fail
      go_quiet (fail)
      go_wp2_with fail
      refine (Tryz.Builder_String_any _ _ acc _ (HI.out.drewN _).2.2 (HI.out.drewN _).1.size).mono ?_
      rintro e1 w2 ⟨rfl, hbl⟩
      go_wp2_with fail
      go_ret
      exact TextEnd.plain ((HI.out.drewN _).1.belowB hbl) (HN.out ▸ (HI.out.drewN _).2.1.belowB hbl hglt)

end Go.Proofs.YtokdclmikllepaaGreatDoor
