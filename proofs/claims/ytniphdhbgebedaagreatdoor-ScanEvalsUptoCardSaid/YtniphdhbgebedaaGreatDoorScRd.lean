/-
  Plain: a source's tokens, and what its front says.
-/
import Derived.Test.YtniphdhbgebedaaGreatDoorScEx
namespace Go.Proofs.YtniphdhbgebedaaGreatDoor

structure Tok where
  kind : UInt8
  text : List UInt8
  line : Nat
deriving DecidableEq
/-- a text, as far as it isn't read, and where that is -/
structure Lx where
  rest : List UInt8
  line : Nat
  first : Bool
def nls (s : List UInt8) : Nat := s.countP (· == 10)
def Lx.take (l : Lx) (n : Nat) : Lx := ⟨l.rest.drop n, l.line + nls (l.rest.take n), (l.rest.take n).getLast? == some 10⟩
def letB (c : UInt8) : Bool := (97 ≤ c && c ≤ 122) || (65 ≤ c && c ≤ 90) || c == 95 || 128 ≤ c
def digB (c : UInt8) : Bool := 48 ≤ c && c ≤ 57
/-- the place of a byte -/
def idx (c : UInt8) : List UInt8 → Option Nat
  | [] => none
  | x :: r => if x = c then some 0 else (idx c r).map (· + 1)
/-- the place of two bytes -/
def idx2 (a b : UInt8) : List UInt8 → Option Nat
  | x :: y :: r => if x = a ∧ y = b then some 0 else (idx2 a b (y :: r)).map (· + 1)
  | _ => none
def buildW : List UInt8 := [47, 47, 103, 111, 58, 98, 117, 105, 108, 100, 32]
def openW : List UInt8 := [111, 112, 101, 110]
def trimB (p : UInt8 → Bool) (s : List UInt8) : List UInt8 := ((s.reverse.dropWhile p).reverse).dropWhile p
def spB (c : UInt8) : Bool := c == 32 || c == 9 || c == 13
/-- a string in quotes, behind the first quote: what it holds, and how many bytes it takes -/
def quoF : List UInt8 → List UInt8 → Nat → Option (List UInt8 × Nat)
  | [], _, _ => none
  | 34 :: _, b, n => some (b, n + 1)
  | 10 :: _, _, _ => none
  | 92 :: c :: r, b, n => if c = 34 ∨ c = 92 then quoF r (b ++ [c]) (n + 2) else none
  | [92], _, _ => none
  | c :: r, b, n => quoF r (b ++ [c]) (n + 1)
/-- a token, or what stands between tokens -/
def Lx.next (l : Lx) : List Tok × Lx :=
  match l.rest with
  | [] => ([], l)
  | c :: r =>
    if c = 32 ∨ c = 9 ∨ c = 13 then ([], l.take 1)
    else if c = 10 then ([⟨59, [], l.line⟩], l.take 1)
    else if c = 47 ∧ r.head? = some 47 then
      let n := (idx 10 (c :: r)).getD (c :: r).length
      let s := (c :: r).take n
      (if buildW.isPrefixOf s = true ∧ l.first = true then [⟨99, trimB spB (s.drop 11), l.line⟩] else [], l.take n)
    else if c = 47 ∧ r.head? = some 42 then
      match idx2 42 47 (r.drop 1) with
      | none => ([⟨33, openW, l.line⟩], l)
      | some n => ((List.range (nls ((c :: r).take (n + 4)))).map fun i => ⟨59, [], l.line + i⟩, l.take (n + 4))
    else if c = 40 ∨ c = 41 ∨ c = 59 ∨ c = 46 then ([⟨c, [], l.line⟩], l.take 1)
    else if letB c = true then
      let n := 1 + (r.takeWhile fun x => letB x || digB x).length
      ([⟨110, (c :: r).take n, l.line⟩], l.take n)
    else if c = 96 then
      match idx 96 r with
      | some n => ([⟨115, r.take n, l.line⟩], l.take (n + 2))
      | none => ([⟨33, openW, l.line⟩], l)
    else if c = 34 then
      match quoF r [] 1 with
      | some (s, n) => ([⟨115, s, l.line⟩], l.take n)
      | none => ([⟨33, openW, l.line⟩], l)
    else ([⟨33, [], l.line⟩], l)
/-- the states of the reader -/
inductive St where
  | begin_ | pkg | ended | between | imports | inside | behind | calledE | calledB
deriving DecidableEq
structure Src where
  pkg : List UInt8
  imports : List (List UInt8)
  rule : List UInt8
/-- what becomes of the reader: it goes on, it is done, or it is at fault -/
inductive Res where
  | go : St → Src → Res
  | done : Src → Res
  | fault : Nat → Int → Src → Res
/-- importOk, ruleErr: what CheckImport and parse tell (0: all is well) -/
def stepR (importOk : List UInt8 → Bool) (ruleErr : List UInt8 → Int) (st : St) (d : Src) (t : Tok) : Res :=
  let path (next : St) : Res := if importOk t.text = true then .go next { d with imports := d.imports ++ [t.text] } else .fault t.line 9 d
  let bad : Res := .fault t.line 11 d
  match st with
  | .begin_ =>
    if t.kind = 59 then .go .begin_ d
    else if t.kind = 110 then if t.text = [112, 97, 99, 107, 97, 103, 101] then .go .pkg d else bad
    else if t.kind = 99 then if d.rule ≠ [] then .fault t.line 12 d else if ruleErr t.text ≠ 0 then .fault t.line (ruleErr t.text) d else .go .begin_ { d with rule := t.text }
    else bad
  | .pkg => if t.kind = 110 then .go .ended { d with pkg := t.text } else bad
  | .ended => if t.kind = 59 then .go .between d else if t.kind = 69 then .done d else if t.kind = 99 then .go .ended d else bad
  | .between =>
    if t.kind = 59 ∨ t.kind = 99 then .go .between d
    else if t.kind = 110 ∧ t.text = [105, 109, 112, 111, 114, 116] then .go .imports d
    else if t.kind = 33 ∧ t.text = openW then bad
    else .done d
  | .imports => if t.kind = 115 then path .ended else if t.kind = 110 ∨ t.kind = 46 then .go .calledE d else if t.kind = 40 then .go .inside d else bad
  | .inside => if t.kind = 115 then path .behind else if t.kind = 110 ∨ t.kind = 46 then .go .calledB d else if t.kind = 59 ∨ t.kind = 99 then .go .inside d else if t.kind = 41 then .go .ended d else bad
  | .behind => if t.kind = 59 then .go .inside d else if t.kind = 99 then .go .behind d else if t.kind = 41 then .go .ended d else bad
  | .calledE => if t.kind = 115 then path .ended else bad
  | .calledB => if t.kind = 115 then path .behind else bad
end Go.Proofs.YtniphdhbgebedaaGreatDoor
