/- patterns, plainly: sound; programs: compile. -/
import Derived.Test.YtjdlbejmdjcajaaGreatPpA
set_option linter.unusedVariables false
namespace Go.Proofs.YtjdlbejmdjcajaaGreat
namespace Pp

/-- a node, its kids beside it -/
abbrev Nk := Nd × List Int
def kidsP (d : Nd) (ks : List Int) : Bool :=
  if d.op = 7 ∨ d.op = 8 then decide (ks.length = 1)
  else if d.op = 5 ∨ d.op = 6 then decide (1 < ks.length)
  else decide (ks.length = 0) && decide (1 ≤ d.op) && decide (d.op ≤ 15)
def fineP (g : Int) (d : Nd) : Bool :=
  if d.op = 8 ∨ d.op = 9 then decide (1 ≤ d.n) && decide (d.n ≤ g)
  else if d.op = 7 then decide (0 ≤ d.mn) && decide (d.mn ≤ 60) && decide (d.mx ≤ 60) && (decide (d.mx < 0) || decide (d.mn ≤ d.mx))
  else true
def nodeAt (L : List Nk) (k : Int) : Option Nk := if k < 0 then none else L[k.toNat]?
def byteAt (L : List Nk) (k : Int) : Bool := match nodeAt L k with | some y => decide (y.1.op = 2) | none => false
def singleP (L : List Nk) (x : Nk) : Bool :=
  if x.1.op = 2 ∨ x.1.op = 3 ∨ x.1.op = 4 ∨ x.1.op = 8 ∨ x.1.op = 9 ∨ x.1.op = 1 then true
  else if x.1.op = 5 then x.2.all (byteAt L)
  else false
def soundAll (rec : Int → List Bool → Option (Bool × List Bool)) : List Int → List Bool → Option (Bool × List Bool)
  | [], sn => some (true, sn)
  | k :: ks, sn =>
    match rec k sn with
    | none => none
    | some (false, sn1) => some (false, sn1)
    | some (true, sn1) => soundAll rec ks sn1
/-- sound from a node on, and what is seen then; none: nothing is said -/
def soundP (L : List Nk) (g : Int) : Nat → Int → List Bool → Option (Bool × List Bool)
  | 0, _, _ => none
  | f + 1, k, sn =>
    match nodeAt L k with
    | none => some (false, sn)
    | some x =>
      if sn.getD k.toNat true then some (false, sn)
      else if (kidsP x.1 x.2 && fineP g x.1) = false then some (false, sn.set k.toNat true)
      else
        match soundAll (soundP L g f) x.2 (sn.set k.toNat true) with
        | none => none
        | some (false, sn1) => some (false, sn1)
        | some (true, sn1) =>
          if x.1.op = 7 then
            match nodeAt L (x.2.headD 0) with
            | none => none
            | some y => some (singleP L y, sn1)
          else some (true, sn1)
def soundR (L : List Nk) (root g : Int) : Option Bool :=
  if g < 0 ∨ 9 < g then some false else (soundP L g (L.length + 1) root (List.replicate L.length false)).map Prod.fst

/-- an instruction -/
structure In where
  op : Int
  c : Int
  s0 : Int
  s1 : Int
  s2 : Int
  s3 : Int
  x : Int
  y : Int
def in0 : In := ⟨0, 0, 0, 0, 0, 0, 0, 0⟩
/-- instructions that are laid, rounds. An error: true: too many; false: nothing is said -/
abbrev Cd := List In × Nat
abbrev Er (α : Type) := Except Bool α
def layP (i : In) (c : Cd) : Er Cd := if 2000 ≤ c.1.length then .error true else .ok (c.1 ++ [i], c.2)
/-- a split's ways -/
def wayP (lz : Bool) (k out : Nat) (c : Cd) : Cd :=
  (c.1.modify k fun i => if lz then { i with x := out, y := (k : Int) + 1 } else { i with x := (k : Int) + 1, y := out }, c.2)
def toP (k out : Nat) (c : Cd) : Cd := (c.1.modify k fun i => { i with x := out }, c.2)
section
variable (rec : Int → Cd → Er Cd)
/-- a try of a kid: it stands at the length that was -/
def roundP (kid : Int) (c : Cd) : Er Cd :=
  match layP { in0 with op := 4 } c with
  | .error e => .error e
  | .ok c1 =>
    match layP { in0 with op := 12, x := c1.2 } (c1.1, c1.2 + 1) with
    | .error e => .error e
    | .ok c2 =>
      match rec kid c2 with
      | .error e => .error e
      | .ok c3 => layP { in0 with op := 13, x := c1.2 } c3
def timesP (kid : Int) : Nat → Cd → Er Cd
  | 0, c => .ok c
  | n + 1, c =>
    match rec kid c with
    | .error e => .error e
    | .ok c1 => timesP kid n c1
def roundsP (kid : Int) : Nat → List Nat → Cd → Er (List Nat × Cd)
  | 0, ws, c => .ok (ws, c)
  | n + 1, ws, c =>
    match roundP rec kid c with
    | .error e => .error e
    | .ok c1 => roundsP kid n (ws ++ [c.1.length]) c1
def waysP (lz : Bool) : List Nat → Cd → Cd
  | [], c => c
  | k :: ws, c => waysP lz ws (wayP lz k c.1.length c)
def tosP : List Nat → Cd → Cd
  | [], c => c
  | k :: ws, c => tosP ws (toP k c.1.length c)
def manyC (d : Nd) (kid : Int) (c : Cd) : Er Cd :=
  if d.mn < 0 ∨ 1000 < d.mn ∨ 1000 < d.mx then .error false else
  match timesP rec kid d.mn.toNat c with
  | .error e => .error e
  | .ok c1 =>
    if d.mx < 0 then
      match roundP rec kid c1 with
      | .error e => .error e
      | .ok c2 =>
        match layP { in0 with op := 5, x := c1.1.length } c2 with
        | .error e => .error e
        | .ok c3 => .ok (wayP d.lz c1.1.length c3.1.length c3)
    else
      match roundsP rec kid (d.mx - d.mn).toNat [] c1 with
      | .error e => .error e
      | .ok (ws, c2) => .ok (waysP d.lz ws c2)
def altsC : List Int → List Nat → Cd → Er (List Nat × Cd)
  | [], js, c => .ok (js, c)
  | k :: ks, js, c =>
    match layP { in0 with op := 4 } c with
    | .error e => .error e
    | .ok c1 =>
      match rec k c1 with
      | .error e => .error e
      | .ok c2 =>
        match layP { in0 with op := 5 } c2 with
        | .error e => .error e
        | .ok c3 => altsC ks (js ++ [c2.1.length]) (wayP false c.1.length c3.1.length c3)
def altC (ks : List Int) (c : Cd) : Er Cd :=
  match ks.getLast? with
  | none => .error false
  | some z =>
    match altsC rec ks.dropLast [] c with
    | .error e => .error e
    | .ok (js, c1) =>
      match rec z c1 with
      | .error e => .error e
      | .ok c2 => .ok (tosP js c2)
def catC : List Int → Cd → Er Cd
  | [], c => .ok c
  | k :: ks, c =>
    match rec k c with
    | .error e => .error e
    | .ok c1 => catC ks c1
end
def singleC (d : Nd) : In :=
  if d.op = 2 then { in0 with op := 1, c := d.c }
  else if d.op = 3 then { in0 with op := 2 }
  else if d.op = 4 then { in0 with op := 3, s0 := d.s0, s1 := d.s1, s2 := d.s2, s3 := d.s3 }
  else if d.op = 9 then { in0 with op := 7, x := d.n }
  else if d.op = 14 then { in0 with op := 6, x := 20 }
  else if d.op = 15 then { in0 with op := 6, x := 21 }
  else if d.op = 10 then { in0 with op := 8 }
  else if d.op = 11 then { in0 with op := 9 }
  else if d.op = 12 then { in0 with op := 10 }
  else { in0 with op := 11 }
def nodeC (L : List Nk) : Nat → Int → Cd → Er Cd
  | 0, _, _ => .error false
  | f + 1, k, c =>
    match nodeAt L k with
    | none => .error false
    | some x =>
      if x.1.op = 1 then .ok c
      else if x.1.op = 5 then catC (nodeC L f) x.2 c
      else if x.1.op = 6 then (if 1000 < x.2.length then .error false else altC (nodeC L f) x.2 c)
      else if x.1.op = 7 then
        match x.2 with
        | [] => .error false
        | kid :: _ => manyC (nodeC L f) x.1 kid c
      else if x.1.op = 8 then
        match x.2 with
        | [] => .error false
        | kid :: _ =>
          if x.1.n < 0 ∨ 1000 < x.1.n then .error false else
          match layP { in0 with op := 6, x := 2 * x.1.n } c with
          | .error e => .error e
          | .ok c1 =>
            match nodeC L f kid c1 with
            | .error e => .error e
            | .ok c2 => layP { in0 with op := 6, x := 2 * x.1.n + 1 } c2
      else layP (singleC x.1) c
/-- a pattern's program: instructions, rounds -/
def compP (L : List Nk) (root : Int) : Er Cd :=
  match nodeC L (L.length + 1) root ([], 0) with
  | .error e => .error e
  | .ok c => layP { in0 with op := 14 } c
/-- a pattern that is read, its nodes as they are given -/
def Pt.nk (p : Pt) : List Nk := p.nodes.map fun d => (d, d.kids.map Int.ofNat)
end Pp
end Go.Proofs.YtjdlbejmdjcajaaGreat
