/-
  No cell of these rows narrows 'for every input' (looked for: loops, veiled, ifaces, maps, wideKeys, modest, calm, conditions, laid).
  DERIVED. THE GIVEN ROWS OF THIS SEAT. 10 by the template 'for every input the law returns true; each argument reads behind the call as it read before'; 0 by the template 'total and deterministic' (their statements: YtmnddnlabdafcaaTotals.lean).
  GIVEN WITH THE SEED: the statements are not yours to turn. If you find one false, say at which input.
  Laid BY PROGRAM, IN A SANDBOX (cutbox-rows.mjs): the forced cells as the released guide's own fill.sh prints them over the translation 5be9d635beff29c2… (all of the seat's roots in one cut). By AI agents, Wed Nov 11 2026. No macro, syntax, notation, axiom, sorry.
-/
import Derived.Test.YtmnddnlabdafcaaChecked
import GoSem.Claim
import GoSem.ClaimJoined
import GoSem.ClaimMapViews
import Derived.JoinedTies
import Derived.KernelRfl
namespace Go.Proofs.Ytmnddnlabdafcaa
/- THE CELL 'sum', in the pinned program and in every row, IS THE sha256 OF THE DUMP (.gsa) THAT YtmnddnlabdafcaaProg.lean LOADS. Nothing in Lean hashes anything: it is a label: what it is worth is what the hold of that sum in a sandbox is worth. -/
noncomputable def Try.pinned : Pinned := { name := "ytmnddnlabdafcaa", sum := "5be9d635beff29c272113ad88c1275d85b37cddbbe835e3732affe5b342041d5", checked := Try.checked }
namespace Rows
def none {H : Type} : Left H := { results := [], args := [] }

/-- 'memfaultlaw29.OwnerForks': WHATEVER THE INPUT: true; the input reads as it did. -/
def ownerForksSpec : ChangeSpec := { name := "ownerForks", fn := fun _ => fun
  | [d1, d2, d3] => { results := [.lit (.bool true)], args := [d1, d2, d3] }
  | _ => none }
def ownerForksRow : OpenClaim := { program := "ytmnddnlabdafcaa", sum := "5be9d635beff29c272113ad88c1275d85b37cddbbe835e3732affe5b342041d5", func := "memfault/memfaultlaw29.OwnerForks", spec := "ownerForks", inPlace := ["slices.overlaps[memfault/api.Page]", "slices.overlaps[memfault/api.Program]"], unfollowed := true, recurses := true, apart := false }
def OwnerForksSaid : Prop := ownerForksRow.holds Try.pinned (OpenSpec.ofChange ownerForksSpec)

/-- ITS FALSE NEIGHBOUR: 'it returns false'. Refute it at one input. -/
def ownerForksWrong : ChangeSpec := { name := "ownerForks", fn := fun _ => fun
  | [d1, d2, d3] => { results := [.lit (.bool false)], args := [d1, d2, d3] }
  | _ => none }
def OwnerForksWrongFalsely : Prop := ownerForksRow.holds Try.pinned (OpenSpec.ofChange ownerForksWrong)

/-- 'memfaultlaw29.OwnerValid': WHATEVER THE INPUT: true; the input reads as it did. -/
def ownerValidSpec : ChangeSpec := { name := "ownerValid", fn := fun _ => fun
  | [d1, d2, d3, d4, d5, d6] => { results := [.lit (.bool true)], args := [d1, d2, d3, d4, d5, d6] }
  | _ => none }
def ownerValidRow : OpenClaim := { program := "ytmnddnlabdafcaa", sum := "5be9d635beff29c272113ad88c1275d85b37cddbbe835e3732affe5b342041d5", func := "memfault/memfaultlaw29.OwnerValid", spec := "ownerValid", inPlace := ["slices.overlaps[memfault/api.Page]", "slices.overlaps[memfault/api.Program]"], unfollowed := true, recurses := true, apart := false }
def OwnerValidSaid : Prop := ownerValidRow.holds Try.pinned (OpenSpec.ofChange ownerValidSpec)

/-- ITS FALSE NEIGHBOUR: 'it returns false'. Refute it at one input. -/
def ownerValidWrong : ChangeSpec := { name := "ownerValid", fn := fun _ => fun
  | [d1, d2, d3, d4, d5, d6] => { results := [.lit (.bool false)], args := [d1, d2, d3, d4, d5, d6] }
  | _ => none }
def OwnerValidWrongFalsely : Prop := ownerValidRow.holds Try.pinned (OpenSpec.ofChange ownerValidWrong)

/-- 'memfaultlaw29.OwnerFrames': WHATEVER THE INPUT: true; the input reads as it did. -/
def ownerFramesSpec : ChangeSpec := { name := "ownerFrames", fn := fun _ => fun
  | [d1, d2] => { results := [.lit (.bool true)], args := [d1, d2] }
  | _ => none }
def ownerFramesRow : OpenClaim := { program := "ytmnddnlabdafcaa", sum := "5be9d635beff29c272113ad88c1275d85b37cddbbe835e3732affe5b342041d5", func := "memfault/memfaultlaw29.OwnerFrames", spec := "ownerFrames", inPlace := ["slices.overlaps[memfault/api.Page]", "slices.overlaps[memfault/api.Program]"], unfollowed := true, recurses := true, apart := false }
def OwnerFramesSaid : Prop := ownerFramesRow.holds Try.pinned (OpenSpec.ofChange ownerFramesSpec)

/-- ITS FALSE NEIGHBOUR: 'it returns false'. Refute it at one input. -/
def ownerFramesWrong : ChangeSpec := { name := "ownerFrames", fn := fun _ => fun
  | [d1, d2] => { results := [.lit (.bool false)], args := [d1, d2] }
  | _ => none }
def OwnerFramesWrongFalsely : Prop := ownerFramesRow.holds Try.pinned (OpenSpec.ofChange ownerFramesWrong)

/-- 'memfaultlaw29.OwnerChanges': WHATEVER THE INPUT: true; the input reads as it did. -/
def ownerChangesSpec : ChangeSpec := { name := "ownerChanges", fn := fun _ => fun
  | [d1, d2, d3, d4, d5] => { results := [.lit (.bool true)], args := [d1, d2, d3, d4, d5] }
  | _ => none }
def ownerChangesRow : OpenClaim := { program := "ytmnddnlabdafcaa", sum := "5be9d635beff29c272113ad88c1275d85b37cddbbe835e3732affe5b342041d5", func := "memfault/memfaultlaw29.OwnerChanges", spec := "ownerChanges", inPlace := ["slices.overlaps[memfault/api.Page]", "slices.overlaps[memfault/api.Program]"], unfollowed := true, recurses := true, apart := false }
def OwnerChangesSaid : Prop := ownerChangesRow.holds Try.pinned (OpenSpec.ofChange ownerChangesSpec)

/-- ITS FALSE NEIGHBOUR: 'it returns false'. Refute it at one input. -/
def ownerChangesWrong : ChangeSpec := { name := "ownerChanges", fn := fun _ => fun
  | [d1, d2, d3, d4, d5] => { results := [.lit (.bool false)], args := [d1, d2, d3, d4, d5] }
  | _ => none }
def OwnerChangesWrongFalsely : Prop := ownerChangesRow.holds Try.pinned (OpenSpec.ofChange ownerChangesWrong)

/-- 'memfaultlaw29.OwnerRuns': WHATEVER THE INPUT: true; the input reads as it did. -/
def ownerRunsSpec : ChangeSpec := { name := "ownerRuns", fn := fun _ => fun
  | [d] => { results := [.lit (.bool true)], args := [d] }
  | _ => none }
def ownerRunsRow : OpenClaim := { program := "ytmnddnlabdafcaa", sum := "5be9d635beff29c272113ad88c1275d85b37cddbbe835e3732affe5b342041d5", func := "memfault/memfaultlaw29.OwnerRuns", spec := "ownerRuns", inPlace := ["slices.overlaps[memfault/api.Page]", "slices.overlaps[memfault/api.Program]"], unfollowed := true, recurses := true, apart := false }
def OwnerRunsSaid : Prop := ownerRunsRow.holds Try.pinned (OpenSpec.ofChange ownerRunsSpec)

/-- ITS FALSE NEIGHBOUR: 'it returns false'. Refute it at one input. -/
def ownerRunsWrong : ChangeSpec := { name := "ownerRuns", fn := fun _ => fun
  | [d] => { results := [.lit (.bool false)], args := [d] }
  | _ => none }
def OwnerRunsWrongFalsely : Prop := ownerRunsRow.holds Try.pinned (OpenSpec.ofChange ownerRunsWrong)

/-- 'memfaultlaw33.ContainDecides': WHATEVER THE INPUT: true; the input reads as it did. -/
def containDecidesSpec : ChangeSpec := { name := "containDecides", fn := fun _ => fun
  | [d1, d2, d3, d4] => { results := [.lit (.bool true)], args := [d1, d2, d3, d4] }
  | _ => none }
def containDecidesRow : OpenClaim := { program := "ytmnddnlabdafcaa", sum := "5be9d635beff29c272113ad88c1275d85b37cddbbe835e3732affe5b342041d5", func := "memfault/memfaultlaw33.ContainDecides", spec := "containDecides", unfollowed := true, recurses := true, apart := false }
def ContainDecidesSaid : Prop := containDecidesRow.holds Try.pinned (OpenSpec.ofChange containDecidesSpec)

/-- ITS FALSE NEIGHBOUR: 'it returns false'. Refute it at one input. -/
def containDecidesWrong : ChangeSpec := { name := "containDecides", fn := fun _ => fun
  | [d1, d2, d3, d4] => { results := [.lit (.bool false)], args := [d1, d2, d3, d4] }
  | _ => none }
def ContainDecidesWrongFalsely : Prop := containDecidesRow.holds Try.pinned (OpenSpec.ofChange containDecidesWrong)

/-- 'memfaultlaw33.ContainStops': WHATEVER THE INPUT: true; the input reads as it did. -/
def containStopsSpec : ChangeSpec := { name := "containStops", fn := fun _ => fun
  | [d1, d2, d3] => { results := [.lit (.bool true)], args := [d1, d2, d3] }
  | _ => none }
def containStopsRow : OpenClaim := { program := "ytmnddnlabdafcaa", sum := "5be9d635beff29c272113ad88c1275d85b37cddbbe835e3732affe5b342041d5", func := "memfault/memfaultlaw33.ContainStops", spec := "containStops", unfollowed := true, recurses := true, apart := false }
def ContainStopsSaid : Prop := containStopsRow.holds Try.pinned (OpenSpec.ofChange containStopsSpec)

/-- ITS FALSE NEIGHBOUR: 'it returns false'. Refute it at one input. -/
def containStopsWrong : ChangeSpec := { name := "containStops", fn := fun _ => fun
  | [d1, d2, d3] => { results := [.lit (.bool false)], args := [d1, d2, d3] }
  | _ => none }
def ContainStopsWrongFalsely : Prop := containStopsRow.holds Try.pinned (OpenSpec.ofChange containStopsWrong)

/-- 'memfaultlaw33.ContainWhole': WHATEVER THE INPUT: true; the input reads as it did. -/
def containWholeSpec : ChangeSpec := { name := "containWhole", fn := fun _ => fun
  | [d1, d2, d3] => { results := [.lit (.bool true)], args := [d1, d2, d3] }
  | _ => none }
def containWholeRow : OpenClaim := { program := "ytmnddnlabdafcaa", sum := "5be9d635beff29c272113ad88c1275d85b37cddbbe835e3732affe5b342041d5", func := "memfault/memfaultlaw33.ContainWhole", spec := "containWhole", unfollowed := true, recurses := true, apart := false }
def ContainWholeSaid : Prop := containWholeRow.holds Try.pinned (OpenSpec.ofChange containWholeSpec)

/-- ITS FALSE NEIGHBOUR: 'it returns false'. Refute it at one input. -/
def containWholeWrong : ChangeSpec := { name := "containWhole", fn := fun _ => fun
  | [d1, d2, d3] => { results := [.lit (.bool false)], args := [d1, d2, d3] }
  | _ => none }
def ContainWholeWrongFalsely : Prop := containWholeRow.holds Try.pinned (OpenSpec.ofChange containWholeWrong)

/-- 'memfaultlaw33.ContainReloads': WHATEVER THE INPUT: true; the input reads as it did. -/
def containReloadsSpec : ChangeSpec := { name := "containReloads", fn := fun _ => fun
  | [d1, d2] => { results := [.lit (.bool true)], args := [d1, d2] }
  | _ => none }
def containReloadsRow : OpenClaim := { program := "ytmnddnlabdafcaa", sum := "5be9d635beff29c272113ad88c1275d85b37cddbbe835e3732affe5b342041d5", func := "memfault/memfaultlaw33.ContainReloads", spec := "containReloads", unfollowed := true, recurses := true, apart := false }
def ContainReloadsSaid : Prop := containReloadsRow.holds Try.pinned (OpenSpec.ofChange containReloadsSpec)

/-- ITS FALSE NEIGHBOUR: 'it returns false'. Refute it at one input. -/
def containReloadsWrong : ChangeSpec := { name := "containReloads", fn := fun _ => fun
  | [d1, d2] => { results := [.lit (.bool false)], args := [d1, d2] }
  | _ => none }
def ContainReloadsWrongFalsely : Prop := containReloadsRow.holds Try.pinned (OpenSpec.ofChange containReloadsWrong)

/-- 'memfaultlaw33.ContainTold': WHATEVER THE INPUT: true; the input reads as it did. -/
def containToldSpec : ChangeSpec := { name := "containTold", fn := fun _ => fun
  | [d1, d2] => { results := [.lit (.bool true)], args := [d1, d2] }
  | _ => none }
def containToldRow : OpenClaim := { program := "ytmnddnlabdafcaa", sum := "5be9d635beff29c272113ad88c1275d85b37cddbbe835e3732affe5b342041d5", func := "memfault/memfaultlaw33.ContainTold", spec := "containTold", unfollowed := true, recurses := true, apart := false }
def ContainToldSaid : Prop := containToldRow.holds Try.pinned (OpenSpec.ofChange containToldSpec)

/-- ITS FALSE NEIGHBOUR: 'it returns false'. Refute it at one input. -/
def containToldWrong : ChangeSpec := { name := "containTold", fn := fun _ => fun
  | [d1, d2] => { results := [.lit (.bool false)], args := [d1, d2] }
  | _ => none }
def ContainToldWrongFalsely : Prop := containToldRow.holds Try.pinned (OpenSpec.ofChange containToldWrong)

/- THE SECOND FORM. 'bulk': how many values and letters a reading holds, each counted each time it is reached (what is shared counts as often as it is met; a slice's spare places count too). A statement '..UptoSaid' is the law's where the arguments, and the package variables that the reading takes, are together of bulk at most 1048576: NARROWER than '..Said'. Prove '..Said' where nothing that the law and all that it calls make is longer than what came in: it says more and counts as full. Else prove '..UptoSaid'. A law counts once. -/
mutual
def uptoBulk {H : Type} : DataW H → Nat
  | .lit (.string bytes) => bytes.length + 1
  | .lit _ => 1
  | .nil => 1
  | .ptr d => uptoBulk d + 1
  | .slice elems spare => uptoBulkAll elems + uptoBulkAll spare + 1
  | .agg parts => uptoBulkAll parts + 1
  | .iface _ d => uptoBulk d + 1
  | .map entries => uptoBulkEntries entries + 1
  | .held _ => 1
def uptoBulkAll {H : Type} : List (DataW H) → Nat
  | [] => 0
  | d :: r => uptoBulk d + uptoBulkAll r
def uptoBulkEntries {H : Type} : List (Lit × DataW H) → Nat
  | [] => 0
  | x :: r => uptoBulkEntry x + uptoBulkEntries r
def uptoBulkEntry {H : Type} : Lit × DataW H → Nat
  | (.string bytes, d) => bytes.length + uptoBulk d + 1
  | (_, d) => uptoBulk d + 1
 end
def uptoSmall : (H : Type) → List (DataW H) → Bool := fun _ ds => decide (uptoBulkAll ds ≤ 1048576)
def OpenSpec.upto (s : _root_.Go.ChangeSpec) : _root_.Go.OpenSpec := { _root_.Go.OpenSpec.ofChange s with cond := some uptoSmall }

/-- 'memfaultlaw29.OwnerForks', WHERE WHAT IT READS IS OF BULK AT MOST 1048576: true; the input reads as it did. -/
def ownerForksUptoRow : OpenClaim := { program := "ytmnddnlabdafcaa", sum := "5be9d635beff29c272113ad88c1275d85b37cddbbe835e3732affe5b342041d5", func := "memfault/memfaultlaw29.OwnerForks", spec := "ownerForks", inPlace := ["slices.overlaps[memfault/api.Page]", "slices.overlaps[memfault/api.Program]"], unfollowed := true, recurses := true, apart := false, narrowed := true }
def OwnerForksUptoSaid : Prop := ownerForksUptoRow.holds Try.pinned (OpenSpec.upto ownerForksSpec)

/-- 'memfaultlaw29.OwnerValid', WHERE WHAT IT READS IS OF BULK AT MOST 1048576: true; the input reads as it did. -/
def ownerValidUptoRow : OpenClaim := { program := "ytmnddnlabdafcaa", sum := "5be9d635beff29c272113ad88c1275d85b37cddbbe835e3732affe5b342041d5", func := "memfault/memfaultlaw29.OwnerValid", spec := "ownerValid", inPlace := ["slices.overlaps[memfault/api.Page]", "slices.overlaps[memfault/api.Program]"], unfollowed := true, recurses := true, apart := false, narrowed := true }
def OwnerValidUptoSaid : Prop := ownerValidUptoRow.holds Try.pinned (OpenSpec.upto ownerValidSpec)

/-- 'memfaultlaw29.OwnerFrames', WHERE WHAT IT READS IS OF BULK AT MOST 1048576: true; the input reads as it did. -/
def ownerFramesUptoRow : OpenClaim := { program := "ytmnddnlabdafcaa", sum := "5be9d635beff29c272113ad88c1275d85b37cddbbe835e3732affe5b342041d5", func := "memfault/memfaultlaw29.OwnerFrames", spec := "ownerFrames", inPlace := ["slices.overlaps[memfault/api.Page]", "slices.overlaps[memfault/api.Program]"], unfollowed := true, recurses := true, apart := false, narrowed := true }
def OwnerFramesUptoSaid : Prop := ownerFramesUptoRow.holds Try.pinned (OpenSpec.upto ownerFramesSpec)

/-- 'memfaultlaw29.OwnerChanges', WHERE WHAT IT READS IS OF BULK AT MOST 1048576: true; the input reads as it did. -/
def ownerChangesUptoRow : OpenClaim := { program := "ytmnddnlabdafcaa", sum := "5be9d635beff29c272113ad88c1275d85b37cddbbe835e3732affe5b342041d5", func := "memfault/memfaultlaw29.OwnerChanges", spec := "ownerChanges", inPlace := ["slices.overlaps[memfault/api.Page]", "slices.overlaps[memfault/api.Program]"], unfollowed := true, recurses := true, apart := false, narrowed := true }
def OwnerChangesUptoSaid : Prop := ownerChangesUptoRow.holds Try.pinned (OpenSpec.upto ownerChangesSpec)

/-- 'memfaultlaw29.OwnerRuns', WHERE WHAT IT READS IS OF BULK AT MOST 1048576: true; the input reads as it did. -/
def ownerRunsUptoRow : OpenClaim := { program := "ytmnddnlabdafcaa", sum := "5be9d635beff29c272113ad88c1275d85b37cddbbe835e3732affe5b342041d5", func := "memfault/memfaultlaw29.OwnerRuns", spec := "ownerRuns", inPlace := ["slices.overlaps[memfault/api.Page]", "slices.overlaps[memfault/api.Program]"], unfollowed := true, recurses := true, apart := false, narrowed := true }
def OwnerRunsUptoSaid : Prop := ownerRunsUptoRow.holds Try.pinned (OpenSpec.upto ownerRunsSpec)

/-- 'memfaultlaw33.ContainDecides', WHERE WHAT IT READS IS OF BULK AT MOST 1048576: true; the input reads as it did. -/
def containDecidesUptoRow : OpenClaim := { program := "ytmnddnlabdafcaa", sum := "5be9d635beff29c272113ad88c1275d85b37cddbbe835e3732affe5b342041d5", func := "memfault/memfaultlaw33.ContainDecides", spec := "containDecides", unfollowed := true, recurses := true, apart := false, narrowed := true }
def ContainDecidesUptoSaid : Prop := containDecidesUptoRow.holds Try.pinned (OpenSpec.upto containDecidesSpec)

/-- 'memfaultlaw33.ContainStops', WHERE WHAT IT READS IS OF BULK AT MOST 1048576: true; the input reads as it did. -/
def containStopsUptoRow : OpenClaim := { program := "ytmnddnlabdafcaa", sum := "5be9d635beff29c272113ad88c1275d85b37cddbbe835e3732affe5b342041d5", func := "memfault/memfaultlaw33.ContainStops", spec := "containStops", unfollowed := true, recurses := true, apart := false, narrowed := true }
def ContainStopsUptoSaid : Prop := containStopsUptoRow.holds Try.pinned (OpenSpec.upto containStopsSpec)

/-- 'memfaultlaw33.ContainWhole', WHERE WHAT IT READS IS OF BULK AT MOST 1048576: true; the input reads as it did. -/
def containWholeUptoRow : OpenClaim := { program := "ytmnddnlabdafcaa", sum := "5be9d635beff29c272113ad88c1275d85b37cddbbe835e3732affe5b342041d5", func := "memfault/memfaultlaw33.ContainWhole", spec := "containWhole", unfollowed := true, recurses := true, apart := false, narrowed := true }
def ContainWholeUptoSaid : Prop := containWholeUptoRow.holds Try.pinned (OpenSpec.upto containWholeSpec)

/-- 'memfaultlaw33.ContainReloads', WHERE WHAT IT READS IS OF BULK AT MOST 1048576: true; the input reads as it did. -/
def containReloadsUptoRow : OpenClaim := { program := "ytmnddnlabdafcaa", sum := "5be9d635beff29c272113ad88c1275d85b37cddbbe835e3732affe5b342041d5", func := "memfault/memfaultlaw33.ContainReloads", spec := "containReloads", unfollowed := true, recurses := true, apart := false, narrowed := true }
def ContainReloadsUptoSaid : Prop := containReloadsUptoRow.holds Try.pinned (OpenSpec.upto containReloadsSpec)

/-- 'memfaultlaw33.ContainTold', WHERE WHAT IT READS IS OF BULK AT MOST 1048576: true; the input reads as it did. -/
def containToldUptoRow : OpenClaim := { program := "ytmnddnlabdafcaa", sum := "5be9d635beff29c272113ad88c1275d85b37cddbbe835e3732affe5b342041d5", func := "memfault/memfaultlaw33.ContainTold", spec := "containTold", unfollowed := true, recurses := true, apart := false, narrowed := true }
def ContainToldUptoSaid : Prop := containToldUptoRow.holds Try.pinned (OpenSpec.upto containToldSpec)

end Rows
end Go.Proofs.Ytmnddnlabdafcaa
