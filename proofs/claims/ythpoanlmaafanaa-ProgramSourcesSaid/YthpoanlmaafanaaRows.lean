/-
  No cell of these rows narrows 'for every input' (looked for: loops, veiled, ifaces, maps, wideKeys, modest, calm, conditions, laid).
  DERIVED. THE GIVEN ROWS OF THIS SEAT. 5 by the template 'for every input the law returns true; each argument reads behind the call as it read before'; 0 by the template 'total and deterministic' (their statements: YthpoanlmaafanaaTotals.lean).
  GIVEN WITH THE SEED: the statements are not yours to turn. If you find one false, say at which input.
  Laid BY PROGRAM, IN A SANDBOX (cutbox-rows.mjs): the forced cells as the released guide's own fill.sh prints them over the translation c15aee4fb9e3d96f… (all of the seat's roots in one cut). By AI agents, Wed Nov 11 2026. No macro, syntax, notation, axiom, sorry.
-/
import Derived.Test.YthpoanlmaafanaaChecked
import GoSem.Claim
import GoSem.ClaimJoined
import GoSem.ClaimMapViews
import Derived.JoinedTies
import Derived.KernelRfl
namespace Go.Proofs.Ythpoanlmaafanaa
/- THE CELL 'sum', in the pinned program and in every row, IS THE sha256 OF THE DUMP (.gsa) THAT YthpoanlmaafanaaProg.lean LOADS. Nothing in Lean hashes anything: it is a label: what it is worth is what the hold of that sum in a sandbox is worth. -/
noncomputable def Try.pinned : Pinned := { name := "ythpoanlmaafanaa", sum := "c15aee4fb9e3d96f98003422e7df5aa70578f2040ac3d6ad01bdacbaa94d5414", checked := Try.checked }
namespace Rows
def none {H : Type} : Left H := { results := [], args := [] }

/-- 'memfaultlaw40.ProgramSources': WHATEVER THE INPUT: true; the input reads as it did. -/
def programSourcesSpec : ChangeSpec := { name := "programSources", fn := fun _ => fun
  | [d1, d2, d3] => { results := [.lit (.bool true)], args := [d1, d2, d3] }
  | _ => none }
def programSourcesRow : OpenClaim := { program := "ythpoanlmaafanaa", sum := "c15aee4fb9e3d96f98003422e7df5aa70578f2040ac3d6ad01bdacbaa94d5414", func := "memfault/memfaultlaw40.ProgramSources", spec := "programSources", unfollowed := true, recurses := true, plainKeys := false, apart := false }
def ProgramSourcesSaid : Prop := programSourcesRow.holds Try.pinned (OpenSpec.ofChange programSourcesSpec)

/-- ITS FALSE NEIGHBOUR: 'it returns false'. Refute it at one input. -/
def programSourcesWrong : ChangeSpec := { name := "programSources", fn := fun _ => fun
  | [d1, d2, d3] => { results := [.lit (.bool false)], args := [d1, d2, d3] }
  | _ => none }
def ProgramSourcesWrongFalsely : Prop := programSourcesRow.holds Try.pinned (OpenSpec.ofChange programSourcesWrong)

/-- 'memfaultlaw40.ProgramReads': WHATEVER THE INPUT: true; the input reads as it did. -/
def programReadsSpec : ChangeSpec := { name := "programReads", fn := fun _ => fun
  | [d1, d2] => { results := [.lit (.bool true)], args := [d1, d2] }
  | _ => none }
def programReadsRow : OpenClaim := { program := "ythpoanlmaafanaa", sum := "c15aee4fb9e3d96f98003422e7df5aa70578f2040ac3d6ad01bdacbaa94d5414", func := "memfault/memfaultlaw40.ProgramReads", spec := "programReads", unfollowed := true, recurses := true, plainKeys := false, apart := false }
def ProgramReadsSaid : Prop := programReadsRow.holds Try.pinned (OpenSpec.ofChange programReadsSpec)

/-- ITS FALSE NEIGHBOUR: 'it returns false'. Refute it at one input. -/
def programReadsWrong : ChangeSpec := { name := "programReads", fn := fun _ => fun
  | [d1, d2] => { results := [.lit (.bool false)], args := [d1, d2] }
  | _ => none }
def ProgramReadsWrongFalsely : Prop := programReadsRow.holds Try.pinned (OpenSpec.ofChange programReadsWrong)

/-- 'memfaultlaw40.ProgramForks': WHATEVER THE INPUT: true; the input reads as it did. -/
def programForksSpec : ChangeSpec := { name := "programForks", fn := fun _ => fun
  | [d1, d2, d3] => { results := [.lit (.bool true)], args := [d1, d2, d3] }
  | _ => none }
def programForksRow : OpenClaim := { program := "ythpoanlmaafanaa", sum := "c15aee4fb9e3d96f98003422e7df5aa70578f2040ac3d6ad01bdacbaa94d5414", func := "memfault/memfaultlaw40.ProgramForks", spec := "programForks", unfollowed := true, recurses := true, plainKeys := false, apart := false }
def ProgramForksSaid : Prop := programForksRow.holds Try.pinned (OpenSpec.ofChange programForksSpec)

/-- ITS FALSE NEIGHBOUR: 'it returns false'. Refute it at one input. -/
def programForksWrong : ChangeSpec := { name := "programForks", fn := fun _ => fun
  | [d1, d2, d3] => { results := [.lit (.bool false)], args := [d1, d2, d3] }
  | _ => none }
def ProgramForksWrongFalsely : Prop := programForksRow.holds Try.pinned (OpenSpec.ofChange programForksWrong)

/-- 'memfaultlaw40.ProgramKeeps': WHATEVER THE INPUT: true; the input reads as it did. -/
def programKeepsSpec : ChangeSpec := { name := "programKeeps", fn := fun _ => fun
  | [d1, d2, d3] => { results := [.lit (.bool true)], args := [d1, d2, d3] }
  | _ => none }
def programKeepsRow : OpenClaim := { program := "ythpoanlmaafanaa", sum := "c15aee4fb9e3d96f98003422e7df5aa70578f2040ac3d6ad01bdacbaa94d5414", func := "memfault/memfaultlaw40.ProgramKeeps", spec := "programKeeps", unfollowed := true, recurses := true, plainKeys := false, apart := false }
def ProgramKeepsSaid : Prop := programKeepsRow.holds Try.pinned (OpenSpec.ofChange programKeepsSpec)

/-- ITS FALSE NEIGHBOUR: 'it returns false'. Refute it at one input. -/
def programKeepsWrong : ChangeSpec := { name := "programKeeps", fn := fun _ => fun
  | [d1, d2, d3] => { results := [.lit (.bool false)], args := [d1, d2, d3] }
  | _ => none }
def ProgramKeepsWrongFalsely : Prop := programKeepsRow.holds Try.pinned (OpenSpec.ofChange programKeepsWrong)

/-- 'memfaultlaw40.ProgramTwice': WHATEVER THE INPUT: true; the input reads as it did. -/
def programTwiceSpec : ChangeSpec := { name := "programTwice", fn := fun _ => fun
  | [d1, d2] => { results := [.lit (.bool true)], args := [d1, d2] }
  | _ => none }
def programTwiceRow : OpenClaim := { program := "ythpoanlmaafanaa", sum := "c15aee4fb9e3d96f98003422e7df5aa70578f2040ac3d6ad01bdacbaa94d5414", func := "memfault/memfaultlaw40.ProgramTwice", spec := "programTwice", unfollowed := true, recurses := true, plainKeys := false, apart := false }
def ProgramTwiceSaid : Prop := programTwiceRow.holds Try.pinned (OpenSpec.ofChange programTwiceSpec)

/-- ITS FALSE NEIGHBOUR: 'it returns false'. Refute it at one input. -/
def programTwiceWrong : ChangeSpec := { name := "programTwice", fn := fun _ => fun
  | [d1, d2] => { results := [.lit (.bool false)], args := [d1, d2] }
  | _ => none }
def ProgramTwiceWrongFalsely : Prop := programTwiceRow.holds Try.pinned (OpenSpec.ofChange programTwiceWrong)

/- THE SECOND FORM. 'bulk': how many values and letters a reading holds, each counted each time it is reached (what is shared counts as often as it is met; a slice's spare places count too). A statement '..UptoSaid' is the law's where the arguments, and the package variables that the reading takes, are together of bulk at most 1048576: NARROWER than '..Said'. Prove '..Said' where nothing that the law and all that it calls make is longer than what came in: it says more and counts as full. Else prove '..UptoSaid'. A law counts once. -/
mutual
def uptoBulk {H : Type} : DataW H → Nat
  | .lit (.string bytes) => bytes.length + 1
  | .lit _ => 1
  | .nil => 1
  | .ptr d => uptoBulk d + 1
  | .slice elems spare => uptoBulkAll elems + uptoBulkAll spare + 1
  | .agg parts => uptoBulkAll parts + 1
  | .iface _ d => uptoBulk d + 1
  | .map entries => uptoBulkEntries entries + 1
  | .held _ => 1
def uptoBulkAll {H : Type} : List (DataW H) → Nat
  | [] => 0
  | d :: r => uptoBulk d + uptoBulkAll r
def uptoBulkEntries {H : Type} : List (Lit × DataW H) → Nat
  | [] => 0
  | x :: r => uptoBulkEntry x + uptoBulkEntries r
def uptoBulkEntry {H : Type} : Lit × DataW H → Nat
  | (.string bytes, d) => bytes.length + uptoBulk d + 1
  | (_, d) => uptoBulk d + 1
 end
def uptoSmall : (H : Type) → List (DataW H) → Bool := fun _ ds => decide (uptoBulkAll ds ≤ 1048576)
def OpenSpec.upto (s : _root_.Go.ChangeSpec) : _root_.Go.OpenSpec := { _root_.Go.OpenSpec.ofChange s with cond := some uptoSmall }

/-- 'memfaultlaw40.ProgramSources', WHERE WHAT IT READS IS OF BULK AT MOST 1048576: true; the input reads as it did. -/
def programSourcesUptoRow : OpenClaim := { program := "ythpoanlmaafanaa", sum := "c15aee4fb9e3d96f98003422e7df5aa70578f2040ac3d6ad01bdacbaa94d5414", func := "memfault/memfaultlaw40.ProgramSources", spec := "programSources", unfollowed := true, recurses := true, plainKeys := false, apart := false, narrowed := true }
def ProgramSourcesUptoSaid : Prop := programSourcesUptoRow.holds Try.pinned (OpenSpec.upto programSourcesSpec)

/-- 'memfaultlaw40.ProgramReads', WHERE WHAT IT READS IS OF BULK AT MOST 1048576: true; the input reads as it did. -/
def programReadsUptoRow : OpenClaim := { program := "ythpoanlmaafanaa", sum := "c15aee4fb9e3d96f98003422e7df5aa70578f2040ac3d6ad01bdacbaa94d5414", func := "memfault/memfaultlaw40.ProgramReads", spec := "programReads", unfollowed := true, recurses := true, plainKeys := false, apart := false, narrowed := true }
def ProgramReadsUptoSaid : Prop := programReadsUptoRow.holds Try.pinned (OpenSpec.upto programReadsSpec)

/-- 'memfaultlaw40.ProgramForks', WHERE WHAT IT READS IS OF BULK AT MOST 1048576: true; the input reads as it did. -/
def programForksUptoRow : OpenClaim := { program := "ythpoanlmaafanaa", sum := "c15aee4fb9e3d96f98003422e7df5aa70578f2040ac3d6ad01bdacbaa94d5414", func := "memfault/memfaultlaw40.ProgramForks", spec := "programForks", unfollowed := true, recurses := true, plainKeys := false, apart := false, narrowed := true }
def ProgramForksUptoSaid : Prop := programForksUptoRow.holds Try.pinned (OpenSpec.upto programForksSpec)

/-- 'memfaultlaw40.ProgramKeeps', WHERE WHAT IT READS IS OF BULK AT MOST 1048576: true; the input reads as it did. -/
def programKeepsUptoRow : OpenClaim := { program := "ythpoanlmaafanaa", sum := "c15aee4fb9e3d96f98003422e7df5aa70578f2040ac3d6ad01bdacbaa94d5414", func := "memfault/memfaultlaw40.ProgramKeeps", spec := "programKeeps", unfollowed := true, recurses := true, plainKeys := false, apart := false, narrowed := true }
def ProgramKeepsUptoSaid : Prop := programKeepsUptoRow.holds Try.pinned (OpenSpec.upto programKeepsSpec)

/-- 'memfaultlaw40.ProgramTwice', WHERE WHAT IT READS IS OF BULK AT MOST 1048576: true; the input reads as it did. -/
def programTwiceUptoRow : OpenClaim := { program := "ythpoanlmaafanaa", sum := "c15aee4fb9e3d96f98003422e7df5aa70578f2040ac3d6ad01bdacbaa94d5414", func := "memfault/memfaultlaw40.ProgramTwice", spec := "programTwice", unfollowed := true, recurses := true, plainKeys := false, apart := false, narrowed := true }
def ProgramTwiceUptoSaid : Prop := programTwiceUptoRow.holds Try.pinned (OpenSpec.upto programTwiceSpec)

end Rows
end Go.Proofs.Ythpoanlmaafanaa
