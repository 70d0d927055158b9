/- The filter's options, in plain words: what Parse makes of words, what Words makes of options; that they come back. No condition; no program. -/
import Derived.Test.YtkcgbdoplhgbmaaDoorLib
namespace Go.Proofs.YtkcgbdoplhgbmaaDoor

/-- Options. -/
structure Ops where
  fl : Int
  md : Int
  inv : Bool
  cnt : Bool
  num : Bool
  onl : Bool
  qui : Bool
  most : Int
  pats : List (List UInt8)
deriving DecidableEq

/-- What stands between a text's newlines. -/
def partsP : List UInt8 → List (List UInt8)
  | [] => [[]]
  | b :: r => if b = 10 then [] :: partsP r else match partsP r with
    | [] => [[b]]
    | p :: q => (b :: p) :: q
/-- One to nine digits; none: no such number. -/
def digP (s : List UInt8) : Bool := s.all fun b => decide (48 ≤ b) && decide (b ≤ 57)
def valP (s : List UInt8) : Nat := s.foldl (fun n b => n * 10 + (b.toNat - 48)) 0
def numbP (s : List UInt8) : Option Nat := if 0 < s.length ∧ s.length ≤ 9 ∧ digP s = true then some (valP s) else none
/-- Flags without their lowest bit, with it, with the second. -/
def simpP (b : UInt8) (o : Ops) : Option Ops :=
  if b = 69 then some { o with fl := o.fl / 2 * 2 + 1 }
  else if b = 71 then some { o with fl := o.fl / 2 * 2 }
  else if b = 105 then some { o with fl := o.fl % 2 + 2 }
  else if b = 120 then some { o with md := o.md / 2 * 2 + 1 }
  else if b = 119 then some { o with md := o.md % 2 + 2 }
  else if b = 118 then some { o with inv := true }
  else if b = 99 then some { o with cnt := true }
  else if b = 110 then some { o with num := true }
  else if b = 111 then some { o with onl := true }
  else if b = 113 then some { o with qui := true }
  else none
/-- The bytes of an option word behind its first one: the options, how many texts more, whether the next word was taken. -/
def wordP : List UInt8 → Option (List UInt8) → Ops → Option (Ops × Nat × Bool)
  | [], _, o => some (o, 0, false)
  | b :: r, nx, o =>
    if b = 101 ∨ b = 109 then
      match (if r ≠ [] then some (r, false) else nx.map fun a => (a, true)) with
      | none => none
      | some (a, took) => if b = 101 then some ({ o with pats := o.pats ++ partsP a }, 1, took) else (numbP a).map fun (m : Nat) => ({ o with most := (m : Int) }, 0, took)
    else match simpP b o with
      | none => none
      | some o' => wordP r nx o'
/-- Behind the option words. -/
def endP (ws : List (List UInt8)) (i : Nat) (o : Ops) (t : Nat) : Except Nat Ops :=
  match t, ws with
  | 0, [] => .error i
  | 0, w :: r => if r = [] then .ok { o with pats := o.pats ++ partsP w } else .error (i + 1)
  | _ + 1, [] => .ok o
  | _ + 1, _ :: _ => .error i
def parseP : Nat → List (List UInt8) → Nat → Ops → Nat → Except Nat Ops
  | 0, ws, i, o, t => endP ws i o t
  | _ + 1, [], i, o, t => endP [] i o t
  | f + 1, w :: r, i, o, t =>
    if w = [45, 45] then endP r (i + 1) o t
    else if w.length < 2 ∨ w.head? ≠ some 45 then endP (w :: r) i o t
    else match wordP (w.drop 1) r.head? o with
      | none => .error i
      | some (o', dt, took) => if took then parseP f r.tail (i + 2) o' (t + dt) else parseP f r (i + 1) o' (t + dt)
def noOps : Ops := ⟨0, 0, false, false, false, false, false, -1, []⟩
def parsedP (ws : List (List UInt8)) : Except Nat Ops := parseP ws.length ws 0 noOps 0

end Go.Proofs.YtkcgbdoplhgbmaaDoor
