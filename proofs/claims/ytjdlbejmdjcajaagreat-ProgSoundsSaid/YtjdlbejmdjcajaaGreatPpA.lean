/- patterns, plainly: nodes, tokens, pieces, branches. What is not described here is 'none': nothing is said of it. -/
import Derived.WalkKit
set_option linter.unusedVariables false
namespace Go.Proofs.YtjdlbejmdjcajaaGreat
namespace Pp

/-- a node, without its kids' row -/
structure Nd where
  op : Int
  c : Int
  s0 : Int
  s1 : Int
  s2 : Int
  s3 : Int
  mn : Int
  mx : Int
  lz : Bool
  n : Int
  kids : List Nat
def nd0 : Nd := ⟨0, 0, 0, 0, 0, 0, 0, 0, false, 0, []⟩
def lit (c : UInt8) : Nd := { nd0 with op := 2, c := c.toNat }
/-- what is read, and how -/
structure Rs where
  mode : Int
  fold : Int
  pos : Nat
  groups : Nat
  cl : Nat → Bool
inductive Tk
  | lit (c : UInt8)
  | sign (c : UInt8)
  | none
def sg : List UInt8 := [94, 36, 46, 42, 91, 126, 43, 61, 63, 123, 40, 41, 124, 60, 62]
def plainL (m : Int) : List UInt8 := if m = 118 then sg else if m = 109 then [94, 36, 46, 42, 91, 126] else if m = 77 then [94, 36] else []
/-- the next token -/
def nextP (s : List UInt8) (r : Rs) : Option (Tk × Rs) :=
  match s[r.pos]? with
  | none => none
  | some c =>
    if c = 92 then
      match s[r.pos + 1]? with
      | none => none
      | some d =>
        if sg.contains d then some (if (plainL r.mode).contains d then .lit d else .sign d, { r with pos := r.pos + 2 })
        else if d = 118 ∨ d = 109 ∨ d = 77 ∨ d = 86 then some (.none, { r with pos := r.pos + 2, mode := d.toNat })
        else none
    else some (if (plainL r.mode).contains c then .sign c else .lit c, { r with pos := r.pos + 1 })

/-- reader and nodes -/
abbrev R := Rs × List Nd
/-- a fault: the error and the place -/
abbrev Res (α : Type) := Option (Except (Int × Nat) α)
def nodeP (r : R) (n : Nd) : Nat × R := (r.2.length, (r.1, r.2 ++ [n]))
def rowP (op : Int) (kids : List Nat) (r : R) : Nat × R :=
  match kids with
  | [] => nodeP r { nd0 with op := 1 }
  | [k] => (k, r)
  | _ => nodeP r { nd0 with op := op, kids := kids }
/-- a branch that is read: nodes, kids, whether the last one may be repeated -/
structure Br where
  r : R
  kids : List Nat
  may : Bool
def addN (b : Br) (n : Nd) (may : Bool) : Br := ⟨(nodeP b.r n).2, b.kids ++ [(nodeP b.r n).1], may⟩

/-- digits of a bound -/
def numGo (s : List UInt8) : Nat → Int → Nat → Int × Nat
  | 0, n, p => (n, p)
  | k + 1, n, p =>
    match s[p]? with
    | some c => if 48 ≤ c.toNat ∧ c.toNat ≤ 57 then numGo s k (10 * n + ((c.toNat : Int) - 48)) (p + 1) else (n, p)
    | none => (n, p)
def numP (s : List UInt8) (p : Nat) : Int × Nat := numGo s 4 0 p
def takesP (s : List UInt8) (c : UInt8) (p : Nat) : Bool × Nat := if s[p]? = some c then (true, p + 1) else (false, p)
/-- bounds: the node, whether it goes on so, the place -/
def bracesP (s : List UInt8) (p : Nat) : Nd × Bool × Nat :=
  let (lz, p1) := takesP s 45 p
  let (low, p2) := numP s p1
  if 3 < p2 - p1 then ({ nd0 with op := 7, mx := -1, lz := lz }, false, p2)
  else
    let mx : Int := if p1 < p2 then low else -1
    let n : Nd := { nd0 with op := 7, mn := low, mx := mx, lz := lz }
    let (cm, p3) := takesP s 44 p2
    let fin := fun (n : Nd) (p : Nat) =>
      let (_, p5) := takesP s 92 p
      let (cb, p6) := takesP s 125 p5
      (n, cb && decide (max n.mn n.mx ≤ 60) && (decide (n.mx < 0) || decide (n.mn ≤ n.mx)), p6)
    if cm then
      let (high, p4) := numP s p3
      if 3 < p4 - p3 then (n, false, p4)
      else fin { n with mx := if p3 < p4 then high else -1 } p4
    else fin n p3
def setPos (r : R) (p : Nat) : R := ({ r.1 with pos := p }, r.2)
/-- the last piece repeated -/
def manyP (s : List UInt8) (c : UInt8) (at_ : Nat) (b : Br) : Res Br :=
  if b.may = false then
    if c = 42 then some (.ok (addN b (lit c) true)) else some (.error (32, at_))
  else
    match b.kids.getLast? with
    | none => none
    | some k =>
      let put := fun (b : Br) (n : Nd) => (⟨(nodeP b.r { n with kids := [k] }).2, b.kids.dropLast ++ [(nodeP b.r n).1], false⟩ : Br)
      if c = 43 then some (.ok (put b { nd0 with op := 7, mn := 1, mx := -1 }))
      else if c = 61 ∨ c = 63 then some (.ok (put b { nd0 with op := 7, mx := 1 }))
      else if c = 123 then
        match bracesP s b.r.1.pos with
        | (n, true, p) => some (.ok (put { b with r := setPos b.r p } n))
        | (_, false, _) => some (.error (32, at_))
      else some (.ok (put b { nd0 with op := 7, mx := -1 }))
/-- what a sign does -/
def signP (rec : R → Res (Nat × R)) (s : List UInt8) (c : UInt8) (at_ : Nat) (b : Br) : Res Br :=
  if c = 94 then some (.ok (if b.kids = [] then addN b { nd0 with op := 10 } false else addN b (lit c) true))
  else if c = 36 ∨ c = 126 ∨ c = 91 then none
  else if c = 46 then some (.ok (addN b { nd0 with op := 3 } true))
  else if c = 60 then some (.ok (addN b { nd0 with op := 12 } false))
  else if c = 62 then some (.ok (addN b { nd0 with op := 13 } false))
  else if c = 40 then
    if b.r.1.groups = 9 then some (.error (31, at_))
    else
      match rec ({ b.r.1 with groups := b.r.1.groups + 1 }, b.r.2) with
      | none => none
      | some (.error e) => some (.error e)
      | some (.ok (k, r1)) =>
        if s.length ≤ r1.1.pos then some (.error (31, at_))
        else
          match nextP s r1.1 with
          | none => none
          | some (_, r2) => some (.ok (addN { b with r := ({ r2 with cl := fun i => if i = b.r.1.groups + 1 then true else r2.cl i }, r1.2) } { nd0 with op := 8, n := (b.r.1.groups : Int) + 1, kids := [k] } true))
  else manyP s c at_ b
/-- a branch, from here on -/
def branchL (sgn : UInt8 → Nat → Br → Res Br) (s : List UInt8) (within : Bool) : Nat → Br → Res (Nat × R)
  | 0, _ => none
  | n + 1, b =>
    if 50000 < b.r.2.length + b.kids.length + b.r.1.pos then none
    else if s.length ≤ b.r.1.pos then some (.ok (rowP 5 b.kids b.r))
    else
      match nextP s b.r.1 with
      | none => none
      | some (.none, r1) => branchL sgn s within n { b with r := (r1, b.r.2) }
      | some (.lit c, r1) => branchL sgn s within n (addN { b with r := (r1, b.r.2) } (lit c) true)
      | some (.sign c, r1) =>
        if c = 124 ∨ (c = 41 ∧ within = true) then some (.ok (rowP 5 b.kids b.r))
        else if c = 41 then some (.error (31, b.r.1.pos))
        else
          match sgn c b.r.1.pos { b with r := (r1, b.r.2) } with
          | none => none
          | some (.error e) => some (.error e)
          | some (.ok b2) => if b2.r.1.pos < r1.pos then none else branchL sgn s within n b2
/-- the other branches -/
def branchesL (sgn : UInt8 → Nat → Br → Res Br) (s : List UInt8) (within : Bool) : Nat → List Nat → R → Res (Nat × R)
  | 0, _, _ => none
  | n + 1, kids, r =>
    if s.length ≤ r.1.pos then some (.ok (rowP 6 kids r))
    else
      match nextP s r.1 with
      | none => none
      | some (t, r1) =>
        match t with
        | .sign c =>
          if c = 124 then
            match branchL sgn s within (s.length + 1) ⟨(r1, r.2), [], false⟩ with
            | none => none
            | some (.error e) => some (.error e)
            | some (.ok (k, r2)) => branchesL sgn s within n (kids ++ [k]) r2
          else some (.ok (rowP 6 kids ({ r1 with pos := r.1.pos }, r.2)))
        | _ => some (.ok (rowP 6 kids ({ r1 with pos := r.1.pos }, r.2)))
def branchesP (s : List UInt8) : Nat → Bool → R → Res (Nat × R)
  | 0, _, _ => none
  | f + 1, within, r =>
    match branchL (signP (branchesP s f true) s) s within (s.length + 1) ⟨r, [], false⟩ with
    | none => none
    | some (.error e) => some (.error e)
    | some (.ok (k, r1)) => branchesL (signP (branchesP s f true) s) s within (s.length + 1) [k] r1
/-- a pattern: nodes, root, groups, case -/
structure Pt where
  nodes : List Nd
  root : Nat
  groups : Nat
  case : Int
def parseP (s : List UInt8) : Res Pt :=
  match branchesP s 12 false (⟨109, 0, 0, 0, fun _ => false⟩, []) with
  | none => none
  | some (.error e) => some (.error e)
  | some (.ok (k, r)) => if 400 < r.2.length then some (.error (33, 0)) else some (.ok ⟨r.2, k, r.1.groups, r.1.fold⟩)
end Pp
end Go.Proofs.YtjdlbejmdjcajaaGreat
