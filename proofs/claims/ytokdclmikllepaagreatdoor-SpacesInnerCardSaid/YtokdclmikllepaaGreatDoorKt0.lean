namespace Go.Proofs.YtokdclmikllepaaGreatDoor.Sp

abbrev Bs := List UInt8

def isRune (r : Int) : Bool := decide (0 ≤ r) && decide (r ≤ 1114111) && !(decide (55296 ≤ r) && decide (r ≤ 57343))

def putI (r : Int) : List Int :=
  if isRune r = true then
    if r < 128 then [r]
    else if r < 2048 then [192 + r / 64, 128 + r % 64]
    else if r < 65536 then [224 + r / 4096, 128 + r / 64 % 64, 128 + r % 64]
    else [240 + r / 262144, 128 + r / 4096 % 64, 128 + r / 64 % 64, 128 + r % 64]
  else []

def put (r : Int) : Bs := (putI r).map fun x => UInt8.ofNat x.toNat

def contB (c : UInt8) : Bool := decide (128 ≤ c.toNat) && decide (c.toNat < 192)

def foldR (r : Int) (l : Bs) : Int := l.foldl (fun r c => r * 64 + ((c.toNat : Int) - 128)) r

def tailR (n : Nat) (r : Int) (t : Bs) : Int × Nat :=
  if t.length < n - 1 then (0, 0)
  else if (t.take (n - 1)).all contB = true then
    if (putI (foldR r (t.take (n - 1)))).length = n then (foldR r (t.take (n - 1)), n) else (0, 0)
  else (0, 0)

def next : Bs → Int × Nat
  | [] => (0, 0)
  | c :: t =>
    if c.toNat < 128 then ((c.toNat : Int), 1)
    else if c.toNat < 192 then (0, 0)
    else if c.toNat < 224 then tailR 2 ((c.toNat : Int) - 192) t
    else if c.toNat < 240 then tailR 3 ((c.toNat : Int) - 224) t
    else if c.toNat < 248 then tailR 4 ((c.toNat : Int) - 240) t
    else (0, 0)

def isChar (r : Int) : Bool :=
  (decide (r = 9) || decide (r = 10) || decide (r = 13) || decide (32 ≤ r)) && isRune r && !decide (r = 65534) && !decide (r = 65535)

def letter (r : Int) : Bool :=
  (decide (65 ≤ r) && decide (r ≤ 90)) || (decide (97 ≤ r) && decide (r ≤ 122)) || decide (r = 95) || (decide (128 ≤ r) && isChar r)

def nameRune (r : Int) : Bool := letter r || (decide (48 ≤ r) && decide (r ≤ 57)) || decide (r = 45) || decide (r = 46)

/-- The place of the first byte that begins no rune; none. -/
def bad : Nat → Nat → Bs → Option Nat
  | _, _, [] => none
  | 0, p, _ :: _ => some p
  | k + 1, p, c :: t => if (next (c :: t)).2 = 0 then some p else bad k (p + (next (c :: t)).2) ((c :: t).drop (next (c :: t)).2)

/-- The place of the first rune that is no character, in a text of runes alone. -/
def badChar : Nat → Nat → Bs → Option Nat
  | _, _, [] => none
  | 0, p, _ :: _ => some p
  | k + 1, p, c :: t => if isChar (next (c :: t)).1 = true then badChar k (p + (next (c :: t)).2) ((c :: t).drop (next (c :: t)).2) else some p

structure At where
  name : Bs
  value : Bs
  at_ : Nat
deriving DecidableEq

structure Mk where
  kind : Nat
  name : Bs
  attrs : List At
  empty : Bool
  text : Bs
  at_ : Nat
deriving DecidableEq

abbrev Flt := Nat × Nat

def white (c : UInt8) : Bool := decide (c.toNat = 32) || decide (c.toNat = 9) || decide (c.toNat = 13) || decide (c.toNat = 10)

def blanksN (l : Bs) : Nat := (l.takeWhile white).length

/-- How many bytes of a name stand here. -/
def nameN : Nat → Bool → Bs → Nat
  | 0, _, _ => 0
  | _ + 1, _, [] => 0
  | k + 1, first, c :: t =>
    if (next (c :: t)).1 = 58 ∨ (first = false ∧ nameRune (next (c :: t)).1 = true) ∨ letter (next (c :: t)).1 = true then
      (next (c :: t)).2 + nameN k false ((c :: t).drop (next (c :: t)).2)
    else 0

def stop (from_ p : Nat) (l : Bs) : Flt := if l = [] then (from_, 84) else (p, 82)

/-- Where a text stands first in another one. -/
def find (what : Bs) : Bs → Option Nat
  | [] => if what = [] then some 0 else none
  | c :: t => if what.isPrefixOf (c :: t) = true then some 0 else (find what t).map (· + 1)

/-- Line ends told as one byte. -/
def lines : Bs → Bs
  | [] => []
  | 13 :: 10 :: t => 10 :: lines t
  | 13 :: t => 10 :: lines t
  | c :: t => c :: lines t

def blank (c : UInt8) : UInt8 := if white c = true then 32 else c

def flat (b : Bool) (l : Bs) : Bs := if b = true then (lines l).map blank else lines l

def digit (base : Nat) (c : UInt8) : Option Nat :=
  if 48 ≤ c.toNat ∧ c.toNat ≤ 57 then some (c.toNat - 48)
  else if base = 16 ∧ 97 ≤ c.toNat ∧ c.toNat ≤ 102 then some (c.toNat - 87)
  else if base = 16 ∧ 65 ≤ c.toNat ∧ c.toNat ≤ 70 then some (c.toNat - 55)
  else none

def number (base : Nat) : Nat → Bs → Option Nat
  | n, [] => some n
  | n, c :: t => match digit base c with | some d => number base (n * base + d) t | none => none

def numRune (base : Nat) (l : Bs) : Option Bs :=
  if l = [] ∨ 8 < l.length then none
  else match number base 0 l with
    | some n => if isChar (n : Int) = true then some (put n) else none
    | none => none

/-- The references that have names. -/
def namedO (x : Bs) : Option Bs :=
  if x = [108, 116] then some [60]
  else if x = [103, 116] then some [62]
  else if x = [97, 109, 112] then some [38]
  else if x = [97, 112, 111, 115] then some [39]
  else if x = [113, 117, 111, 116] then some [34]
  else none

def numO : Bs → Option Bs
  | 35 :: 120 :: t => numRune 16 t
  | 35 :: t => numRune 10 t
  | _ => none

/-- What stands between & and ; : the text that it means. -/
def refText (x : Bs) : Option Bs :=
  match namedO x with
  | some t => some t
  | none => numO x

/-- A reference (l begins with &): its text, and how many bytes it has. -/
def reference (p : Nat) (l : Bs) : Except Flt (Bs × Nat) :=
  match find [59] (l.take 12) with
  | none => .error (p, 83)
  | some e => match refText ((l.drop 1).take (e - 1)) with
    | none => .error (p, 83)
    | some t => .ok (t, e + 1)

def plainB (e : UInt8) (c : UInt8) : Bool := !(c == e) && !(c == 38) && !(c == 60)

/-- A text up to the byte e, or the end; what it means, and how many bytes it has. -/
def text (e : UInt8) (b : Bool) (from_ : Nat) : Nat → Nat → Bs → Bs → Nat → Except Flt (Bs × Nat)
  | 0, _, _, acc, n => .ok (acc, n)
  | _ + 1, _, [], acc, n => .ok (acc, n)
  | k + 1, p, c :: t, acc, n =>
    if c = e then .ok (acc, n)
    else if c = 38 then
      match reference p (c :: t) with
      | .error f => .error f
      | .ok (x, m) => text e b from_ k (p + m) ((c :: t).drop m) (acc ++ x) (n + m)
    else if c = 60 then .error (p, 82)
    else text e b from_ k (p + ((c :: t).takeWhile (plainB e)).length) ((c :: t).dropWhile (plainB e)) (acc ++ flat b ((c :: t).takeWhile (plainB e))) (n + ((c :: t).takeWhile (plainB e)).length)

/-- An attribute; how many bytes it has. -/
def attr (from_ p : Nat) (l : Bs) : Except Flt (At × Nat) :=
  let n := nameN (l.length + 1) true l
  let l1 := l.drop n
  let b1 := blanksN l1
  let l2 := l1.drop b1
  if n = 0 then .error (stop from_ p l)
  else match l2 with
    | 61 :: l3 =>
      let b2 := blanksN l3
      let l4 := l3.drop b2
      let p4 := p + n + b1 + 1 + b2
      match l4 with
      | e :: l5 =>
        if e = 34 ∨ e = 39 then
          match text e true from_ (l5.length + 1) (p4 + 1) l5 [] 0 with
          | .error f => .error f
          | .ok (x, m) => if l5.drop m = [] then .error (from_, 84) else .ok (⟨l.take n, x, p⟩, n + b1 + 1 + b2 + 1 + m + 1)
        else .error (p4, 82)
      | [] => .error (from_, 84)
    | _ => .error (stop from_ (p + n + b1) l2)

/-- The attributes and the end of a tag: p, l: where it goes on; n: how many bytes it has up to there. -/
def attrs (from_ : Nat) : Nat → Nat → Bs → List At → Nat → Except Flt (List At × Bool × Nat)
  | 0, _, _, acc, n => .ok (acc, false, n)
  | k + 1, p, l, acc, n =>
    let b := blanksN l
    match l.drop b with
    | 62 :: _ => .ok (acc, false, n + b + 1)
    | 47 :: t => match t with
      | 62 :: _ => .ok (acc, true, n + b + 2)
      | t => .error (stop from_ (p + b + 1) t)
    | l1 =>
      if b = 0 then .error (stop from_ p l)
      else match attr from_ (p + b) l1 with
        | .error f => .error f
        | .ok (a, m) => attrs from_ k (p + b + m) (l1.drop m) (acc ++ [a]) (n + b + m)

/-- A tag that begins (l begins with <). -/
def opening (p : Nat) (l : Bs) : Except Flt (Mk × Nat) :=
  let l1 := l.drop 1
  let n := nameN (l1.length + 1) true l1
  if n = 0 then .error (stop p (p + 1) l1)
  else match attrs p (l.length + 1) (p + 1 + n) (l1.drop n) [] (1 + n) with
    | .error f => .error f
    | .ok (as, e, m) => .ok (⟨1, l1.take n, as, e, [], p⟩, m)

/-- A tag that ends (l begins with </). -/
def closing (p : Nat) (l : Bs) : Except Flt (Mk × Nat) :=
  let l1 := l.drop 2
  let n := nameN (l1.length + 1) true l1
  if n = 0 then .error (stop p (p + 2) l1)
  else match (l1.drop n).drop (blanksN (l1.drop n)) with
    | 62 :: _ => .ok (⟨2, l1.take n, [], false, [], p⟩, 2 + n + blanksN (l1.drop n) + 1)
    | l2 => .error (stop p (p + 2 + n + blanksN (l1.drop n)) l2)

def cdata9 : Bs := [60, 33, 91, 67, 68, 65, 84, 65, 91]

def tell (t : Bs) (p : Nat) : List Mk := if t = [] then [] else [⟨3, [], [], false, t, p⟩]

/-- What stands next: its marks, and how many bytes it has. -/
def piece (p : Nat) (l : Bs) : Except Flt (List Mk × Nat) :=
  if [60, 33, 45, 45].isPrefixOf l = true then
    match find [45, 45, 62] (l.drop 4) with
    | none => .error (p, 84)
    | some i => .ok ([], 4 + i + 3)
  else if cdata9.isPrefixOf l = true then
    match find [93, 93, 62] (l.drop 9) with
    | none => .error (p, 84)
    | some i => .ok (tell (lines ((l.drop 9).take i)) p, 9 + i + 3)
  else if [60, 47].isPrefixOf l = true then (closing p l).map fun r => ([r.1], r.2)
  else if [60].isPrefixOf l = true then (opening p l).map fun r => ([r.1], r.2)
  else (text 60 false p (l.length + 1) p l [] 0).map fun r => (tell r.1 p, r.2)

def pieces : Nat → Nat → Bs → List Mk → Except Flt (List Mk)
  | _, _, [], acc => .ok acc
  | 0, _, _ :: _, acc => .ok acc
  | k + 1, p, c :: t, acc =>
    match piece p (c :: t) with
    | .error f => .error f
    | .ok (ms, n) => pieces k (p + n) ((c :: t).drop n) (acc ++ ms)

def xml5 : Bs := [60, 63, 120, 109, 108]

/-- What stands ahead of all: how many bytes of it. -/
def prolog (l : Bs) : Except Flt Nat :=
  match l.drop 5 with
  | c :: _ =>
    if xml5.isPrefixOf l = true ∧ white c = true then
      match find [63, 62] (l.drop 5) with
      | none => .error (0, 84)
      | some i => .ok (5 + i + 2)
    else .ok 0
  | [] => .ok 0

def marks (l : Bs) : Except Flt (List Mk) :=
  if 65536 < l.length then .error (0, 3)
  else match bad (l.length + 1) 0 l with
    | some i => .error (i, 71)
    | none => match badChar (l.length + 1) 0 l with
      | some i => .error (i, 81)
      | none => match prolog l with
        | .error f => .error f
        | .ok n => pieces (l.length + 1) n (l.drop n) []

end Go.Proofs.YtokdclmikllepaaGreatDoor.Sp
namespace Go.Proofs.YtokdclmikllepaaGreatDoor.Sp

structure EA where
  name : Bs
  value : Bs
  at_ : Int
deriving DecidableEq
structure EE where
  name : Bs
  attrs : List EA
  text : Bs
  up : Int
  at_ : Int
deriving DecidableEq
def At.ea (a : At) : EA := ⟨a.name, a.value, a.at_⟩

/-- The first attribute whose name an earlier one has. -/
def twiceN : List Bs → Nat → List EA → Option Nat
  | _, _, [] => none
  | seen, i, a :: t => if seen.contains a.name = true then some i else twiceN (a.name :: seen) (i + 1) t
def twice (l : List EA) : Option Nat := twiceN [] 0 l

/-- The innermost open element. -/
def upOf (op : List Nat) : Int := match op.getLast? with | some i => (i : Int) | none => -1

abbrev Bd := List EE × List Nat

def placeOf (l : List At) (i : Nat) : Nat := (l.map At.at_).getD i 0
def startB (b : Bd) (m : Mk) : Except Flt Bd :=
  if b.2 = [] ∧ b.1 ≠ [] then .error (m.at_, 95)
  else if 16 ≤ b.2.length then .error (m.at_, 93)
  else if 4096 ≤ b.1.length then .error (m.at_, 94)
  else match twice (m.attrs.map At.ea) with
    | some i => .error (placeOf m.attrs i, 92)
    | none => .ok (b.1 ++ [⟨m.name, m.attrs.map At.ea, [], upOf b.2, m.at_⟩], if m.empty = true then b.2 else b.2 ++ [b.1.length])

def endB (b : Bd) (m : Mk) : Except Flt Bd :=
  match b.2.getLast? with
  | none => .error (m.at_, 91)
  | some i => if (b.1[i]?.map EE.name) = some m.name then .ok (b.1, b.2.dropLast) else .error (m.at_, 91)

def EE.more (t : Bs) (x : EE) : EE := { x with text := x.text ++ t }
def textB (b : Bd) (m : Mk) : Except Flt Bd :=
  match b.2.getLast? with
  | some i => .ok (b.1.modify i (EE.more m.text), b.2)
  | none => if m.text.all white = true then .ok b else .error (m.at_, 95)

def stepB (b : Bd) (m : Mk) : Except Flt Bd := if m.kind = 1 then startB b m else if m.kind = 2 then endB b m else textB b m

def runB : Bd → List Mk → Except Flt Bd
  | b, [] => .ok b
  | b, m :: t => match stepB b m with | .error f => .error f | .ok b' => runB b' t

def endOf (n : Nat) (b : Bd) : Except Flt (List EE) :=
  match b.2.getLast? with
  | some i => .error (((b.1.map EE.at_).getD i 0).toNat, 84)
  | none => if b.1 = [] then .error (n, 95) else .ok b.1

def parse (l : Bs) : Except Flt (List EE) :=
  match marks l with
  | .error f => .error f
  | .ok ms => match runB ([], []) ms with
    | .error f => .error f
    | .ok b => endOf l.length b

def isName (l : Bs) : Bool := decide (l ≠ []) && decide (nameN (l.length + 1) true l = l.length)
def chars (l : Bs) : Bool := (badChar (l.length + 1) 0 l).isNone
def mayA (a : EA) : Bool := isName a.name && chars a.value
def may (x : EE) : Bool := isName x.name && chars x.text && (twice x.attrs).isNone && x.attrs.all mayA
end Go.Proofs.YtokdclmikllepaaGreatDoor.Sp
namespace Go.Proofs.YtokdclmikllepaaGreatDoor
theorem startB_ok {b b' : Sp.Bd} {m : Sp.Mk} (h : Sp.startB b m = .ok b') : (b.2 = [] → b.1 = []) ∧ b.2.length < 16 ∧ b.1.length < 4096 ∧ Sp.twice (m.attrs.map Sp.At.ea) = none ∧
    b' = (b.1 ++ [⟨m.name, m.attrs.map Sp.At.ea, [], Sp.upOf b.2, m.at_⟩], if m.empty = true then b.2 else b.2 ++ [b.1.length]) := by
  unfold Sp.startB at h
  split at h
  · cases h
  · rename_i h1
    split at h
    · cases h
    · split at h
      · cases h
      · split at h
        · cases h
        · rename_i ht
          injection h with h
          refine ⟨fun e => ?_, by omega, by omega, ht, h.symm⟩
          rcases Classical.em (b.1 = []) with h2 | h2
          · exact h2
          · exact absurd ⟨e, h2⟩ h1
end Go.Proofs.YtokdclmikllepaaGreatDoor
