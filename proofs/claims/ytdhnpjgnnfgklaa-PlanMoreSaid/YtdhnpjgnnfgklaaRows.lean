/-
  No cell of these rows narrows 'for every input' (looked for: loops, veiled, ifaces, maps, wideKeys, modest, calm, conditions, laid).
  DERIVED. THE GIVEN ROWS OF THIS SEAT. 4 by the template 'for every input the law returns true; each argument reads behind the call as it read before'; 0 by the template 'total and deterministic' (their statements: YtdhnpjgnnfgklaaTotals.lean).
  GIVEN WITH THE SEED: the statements are not yours to turn. If you find one false, say at which input.
  Laid BY PROGRAM, IN A SANDBOX (cutbox-rows.mjs): the forced cells as the released guide's own fill.sh prints them over the translation 4c6e88eb50b678a6… (all of the seat's roots in one cut). By AI agents, Wed Nov 11 2026. No macro, syntax, notation, axiom, sorry.
-/
import Derived.Test.YtdhnpjgnnfgklaaChecked
import GoSem.Claim
import GoSem.ClaimJoined
import GoSem.ClaimMapViews
import Derived.JoinedTies
import Derived.KernelRfl
namespace Go.Proofs.Ytdhnpjgnnfgklaa
/- THE CELL 'sum', in the pinned program and in every row, IS THE sha256 OF THE DUMP (.gsa) THAT YtdhnpjgnnfgklaaProg.lean LOADS. Nothing in Lean hashes anything: it is a label: what it is worth is what the hold of that sum in a sandbox is worth. -/
noncomputable def Try.pinned : Pinned := { name := "ytdhnpjgnnfgklaa", sum := "4c6e88eb50b678a6aefdd2df4d7d524b70155774b23ae25b5f09c87b2eb87642", checked := Try.checked }
namespace Rows
def none {H : Type} : Left H := { results := [], args := [] }

/-- 'memfaultlaw39.PlanMore': WHATEVER THE INPUT: true; the input reads as it did. -/
def planMoreSpec : ChangeSpec := { name := "planMore", fn := fun _ => fun
  | [d1, d2, d3] => { results := [.lit (.bool true)], args := [d1, d2, d3] }
  | _ => none }
def planMoreRow : OpenClaim := { program := "ytdhnpjgnnfgklaa", sum := "4c6e88eb50b678a6aefdd2df4d7d524b70155774b23ae25b5f09c87b2eb87642", func := "memfault/memfaultlaw39.PlanMore", spec := "planMore", unfollowed := true, recurses := true, plainKeys := false, apart := false }
def PlanMoreSaid : Prop := planMoreRow.holds Try.pinned (OpenSpec.ofChange planMoreSpec)

/-- ITS FALSE NEIGHBOUR: 'it returns false'. Refute it at one input. -/
def planMoreWrong : ChangeSpec := { name := "planMore", fn := fun _ => fun
  | [d1, d2, d3] => { results := [.lit (.bool false)], args := [d1, d2, d3] }
  | _ => none }
def PlanMoreWrongFalsely : Prop := planMoreRow.holds Try.pinned (OpenSpec.ofChange planMoreWrong)

/-- 'memfaultlaw39.PlanScaled': WHATEVER THE INPUT: true; the input reads as it did. -/
def planScaledSpec : ChangeSpec := { name := "planScaled", fn := fun _ => fun
  | [d1, d2, d3] => { results := [.lit (.bool true)], args := [d1, d2, d3] }
  | _ => none }
def planScaledRow : OpenClaim := { program := "ytdhnpjgnnfgklaa", sum := "4c6e88eb50b678a6aefdd2df4d7d524b70155774b23ae25b5f09c87b2eb87642", func := "memfault/memfaultlaw39.PlanScaled", spec := "planScaled", unfollowed := true, recurses := true, plainKeys := false, apart := false }
def PlanScaledSaid : Prop := planScaledRow.holds Try.pinned (OpenSpec.ofChange planScaledSpec)

/-- ITS FALSE NEIGHBOUR: 'it returns false'. Refute it at one input. -/
def planScaledWrong : ChangeSpec := { name := "planScaled", fn := fun _ => fun
  | [d1, d2, d3] => { results := [.lit (.bool false)], args := [d1, d2, d3] }
  | _ => none }
def PlanScaledWrongFalsely : Prop := planScaledRow.holds Try.pinned (OpenSpec.ofChange planScaledWrong)

/-- 'memfaultlaw39.PlanBest': WHATEVER THE INPUT: true; the input reads as it did. -/
def planBestSpec : ChangeSpec := { name := "planBest", fn := fun _ => fun
  | [d1, d2, d3, d4, d5] => { results := [.lit (.bool true)], args := [d1, d2, d3, d4, d5] }
  | _ => none }
def planBestRow : OpenClaim := { program := "ytdhnpjgnnfgklaa", sum := "4c6e88eb50b678a6aefdd2df4d7d524b70155774b23ae25b5f09c87b2eb87642", func := "memfault/memfaultlaw39.PlanBest", spec := "planBest", unfollowed := true, recurses := true, plainKeys := false, apart := false }
def PlanBestSaid : Prop := planBestRow.holds Try.pinned (OpenSpec.ofChange planBestSpec)

/-- ITS FALSE NEIGHBOUR: 'it returns false'. Refute it at one input. -/
def planBestWrong : ChangeSpec := { name := "planBest", fn := fun _ => fun
  | [d1, d2, d3, d4, d5] => { results := [.lit (.bool false)], args := [d1, d2, d3, d4, d5] }
  | _ => none }
def PlanBestWrongFalsely : Prop := planBestRow.holds Try.pinned (OpenSpec.ofChange planBestWrong)

/-- 'memfaultlaw39.PlanOptimal': WHATEVER THE INPUT: true; the input reads as it did. -/
def planOptimalSpec : ChangeSpec := { name := "planOptimal", fn := fun _ => fun
  | [d1, d2, d3] => { results := [.lit (.bool true)], args := [d1, d2, d3] }
  | _ => none }
def planOptimalRow : OpenClaim := { program := "ytdhnpjgnnfgklaa", sum := "4c6e88eb50b678a6aefdd2df4d7d524b70155774b23ae25b5f09c87b2eb87642", func := "memfault/memfaultlaw39.PlanOptimal", spec := "planOptimal", unfollowed := true, recurses := true, plainKeys := false, apart := false }
def PlanOptimalSaid : Prop := planOptimalRow.holds Try.pinned (OpenSpec.ofChange planOptimalSpec)

/-- ITS FALSE NEIGHBOUR: 'it returns false'. Refute it at one input. -/
def planOptimalWrong : ChangeSpec := { name := "planOptimal", fn := fun _ => fun
  | [d1, d2, d3] => { results := [.lit (.bool false)], args := [d1, d2, d3] }
  | _ => none }
def PlanOptimalWrongFalsely : Prop := planOptimalRow.holds Try.pinned (OpenSpec.ofChange planOptimalWrong)

/- THE SECOND FORM. 'bulk': how many values and letters a reading holds, each counted each time it is reached (what is shared counts as often as it is met; a slice's spare places count too). A statement '..UptoSaid' is the law's where the arguments, and the package variables that the reading takes, are together of bulk at most 1048576: NARROWER than '..Said'. Prove '..Said' where nothing that the law and all that it calls make is longer than what came in: it says more and counts as full. Else prove '..UptoSaid'. A law counts once. -/
mutual
def uptoBulk {H : Type} : DataW H → Nat
  | .lit (.string bytes) => bytes.length + 1
  | .lit _ => 1
  | .nil => 1
  | .ptr d => uptoBulk d + 1
  | .slice elems spare => uptoBulkAll elems + uptoBulkAll spare + 1
  | .agg parts => uptoBulkAll parts + 1
  | .iface _ d => uptoBulk d + 1
  | .map entries => uptoBulkEntries entries + 1
  | .held _ => 1
def uptoBulkAll {H : Type} : List (DataW H) → Nat
  | [] => 0
  | d :: r => uptoBulk d + uptoBulkAll r
def uptoBulkEntries {H : Type} : List (Lit × DataW H) → Nat
  | [] => 0
  | x :: r => uptoBulkEntry x + uptoBulkEntries r
def uptoBulkEntry {H : Type} : Lit × DataW H → Nat
  | (.string bytes, d) => bytes.length + uptoBulk d + 1
  | (_, d) => uptoBulk d + 1
 end
def uptoSmall : (H : Type) → List (DataW H) → Bool := fun _ ds => decide (uptoBulkAll ds ≤ 1048576)
def OpenSpec.upto (s : _root_.Go.ChangeSpec) : _root_.Go.OpenSpec := { _root_.Go.OpenSpec.ofChange s with cond := some uptoSmall }

/-- 'memfaultlaw39.PlanMore', WHERE WHAT IT READS IS OF BULK AT MOST 1048576: true; the input reads as it did. -/
def planMoreUptoRow : OpenClaim := { program := "ytdhnpjgnnfgklaa", sum := "4c6e88eb50b678a6aefdd2df4d7d524b70155774b23ae25b5f09c87b2eb87642", func := "memfault/memfaultlaw39.PlanMore", spec := "planMore", unfollowed := true, recurses := true, plainKeys := false, apart := false, narrowed := true }
def PlanMoreUptoSaid : Prop := planMoreUptoRow.holds Try.pinned (OpenSpec.upto planMoreSpec)

/-- 'memfaultlaw39.PlanScaled', WHERE WHAT IT READS IS OF BULK AT MOST 1048576: true; the input reads as it did. -/
def planScaledUptoRow : OpenClaim := { program := "ytdhnpjgnnfgklaa", sum := "4c6e88eb50b678a6aefdd2df4d7d524b70155774b23ae25b5f09c87b2eb87642", func := "memfault/memfaultlaw39.PlanScaled", spec := "planScaled", unfollowed := true, recurses := true, plainKeys := false, apart := false, narrowed := true }
def PlanScaledUptoSaid : Prop := planScaledUptoRow.holds Try.pinned (OpenSpec.upto planScaledSpec)

/-- 'memfaultlaw39.PlanBest', WHERE WHAT IT READS IS OF BULK AT MOST 1048576: true; the input reads as it did. -/
def planBestUptoRow : OpenClaim := { program := "ytdhnpjgnnfgklaa", sum := "4c6e88eb50b678a6aefdd2df4d7d524b70155774b23ae25b5f09c87b2eb87642", func := "memfault/memfaultlaw39.PlanBest", spec := "planBest", unfollowed := true, recurses := true, plainKeys := false, apart := false, narrowed := true }
def PlanBestUptoSaid : Prop := planBestUptoRow.holds Try.pinned (OpenSpec.upto planBestSpec)

/-- 'memfaultlaw39.PlanOptimal', WHERE WHAT IT READS IS OF BULK AT MOST 1048576: true; the input reads as it did. -/
def planOptimalUptoRow : OpenClaim := { program := "ytdhnpjgnnfgklaa", sum := "4c6e88eb50b678a6aefdd2df4d7d524b70155774b23ae25b5f09c87b2eb87642", func := "memfault/memfaultlaw39.PlanOptimal", spec := "planOptimal", unfollowed := true, recurses := true, plainKeys := false, apart := false, narrowed := true }
def PlanOptimalUptoSaid : Prop := planOptimalUptoRow.holds Try.pinned (OpenSpec.upto planOptimalSpec)

end Rows
end Go.Proofs.Ytdhnpjgnnfgklaa
