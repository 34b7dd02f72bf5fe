/- What the functions over programs answer, in plain words. -/
import Derived.Test.YtmnddnlabdafcaaPgs
namespace Go.Proofs.Ytmnddnlabdafcaa
set_option linter.unusedSimpArgs false
set_option linter.unusedVariables false

def live (id : Int) (p : Pr) : Bool := decide (p.id = id) && !p.dead
def numb (n : Int) (x : Pg) : Bool := decide (x.n = n)
def idx? (o : Option Nat) : Int := match o with | none => -1 | some i => i
def usersL (ps : List Pr) (f : Int) : List (Int × Int) := ps.flatMap fun p => (p.pages.filter fun x => decide (x.f = f)).map fun x => (p.id, x.n)
def usedB (ps : List Pr) (f : Int) : Bool := ps.any fun p => p.pages.any fun x => decide (x.f = f)
/-- The indices of a live program and its page, or the error. -/
def findP (ps : List Pr) (id n : Int) : Int × Nat × Nat :=
  match ps.findIdx? (live id) with
  | none => (42, 0, 0)
  | some i => match (ps[i]!).pages.findIdx? (numb n) with
    | none => (41, 0, 0)
    | some k => (0, i, k)
def insPg (l : List Pg) (x : Pg) : List Pg := l.takeWhile (fun y => decide (y.n < x.n)) ++ x :: l.dropWhile (fun y => decide (y.n < x.n))
def insPr (l : List Pr) (x : Pr) : List Pr := l.takeWhile (fun y => decide (y.id < x.id)) ++ x :: l.dropWhile (fun y => decide (y.id < x.id))
def mapP (ps : List Pr) (id n f : Int) : Int × List Pr :=
  match ps.findIdx? (live id) with
  | none => (42, [])
  | some i =>
    if n < 0 ∨ 999 < n ∨ f < 0 ∨ 64 ≤ f then (2, [])
    else if (ps[i]!).pages.any (numb n) = true then (8, [])
    else if usedB ps f = true then (43, [])
    else if 16 ≤ (ps[i]!).pages.length then (16, [])
    else (0, ps.set i { ps[i]! with pages := insPg (ps[i]!).pages ⟨n, f, false⟩ })
def shareP (p : Pr) : Pr := { p with pages := p.pages.map fun x => { x with s := true } }
def forkP (ps : List Pr) (id o : Int) : Int × List Pr :=
  match ps.findIdx? (live id) with
  | none => (42, [])
  | some i =>
    if o < 1 ∨ 999 < o then (2, [])
    else if ps.any (fun p => decide (p.id = o)) = true then (8, [])
    else if 8 ≤ ps.length then (16, [])
    else (0, insPr (ps.set i (shareP ps[i]!)) ⟨o, (ps[i]!).tells, false, (shareP ps[i]!).pages, []⟩)
def leftP (ps : List Pr) (f : Int) : Int := if usedB ps f = true then -1 else f
def dropP (ps : List Pr) (id n : Int) : Int × List Pr × Int :=
  match findP ps id n with
  | (0, i, k) =>
    let out := ps.set i { ps[i]! with pages := (ps[i]!).pages.eraseIdx k }
    (0, out, leftP out ((ps[i]!).pages[k]!).f)
  | (e, _, _) => (e, [], -1)
def ownP (ps : List Pr) (id n f : Int) : Int × List Pr × Int :=
  match findP ps id n with
  | (0, i, k) =>
    if f < 0 ∨ 64 ≤ f then (2, [], -1)
    else if usedB ps f = true then (43, [], -1)
    else
      let out := ps.set i { ps[i]! with pages := (ps[i]!).pages.set k ⟨((ps[i]!).pages[k]!).n, f, false⟩ }
      (0, out, leftP out ((ps[i]!).pages[k]!).f)
  | (e, _, _) => (e, [], -1)
def moveP (a b : Int) (p : Pr) : Pr := { p with pages := p.pages.map fun x => if x.f = a then { x with f := b } else x }
def replP (ps : List Pr) (a b : Int) : Int × List Pr :=
  if a < 0 ∨ 64 ≤ a ∨ b < 0 ∨ 64 ≤ b then (2, [])
  else if a ≠ b ∧ usedB ps b = true then (43, [])
  else (0, ps.map (moveP a b))
def endP (ps : List Pr) (id : Int) : Int × List Pr × List Int :=
  match ps.findIdx? (live id) with
  | none => (42, [], [])
  | some i =>
    let out := ps.set i { ps[i]! with dead := true, pages := [] }
    (0, out, (((List.range 64).map fun (k : Nat) => (k : Int)).filter fun f => usedB ps f && !usedB out f))
end Go.Proofs.Ytmnddnlabdafcaa
