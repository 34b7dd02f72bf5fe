/-
  No cell of these rows narrows 'for every input' (looked for: loops, veiled, ifaces, maps, wideKeys, modest, calm, conditions, laid).
  DERIVED. THE GIVEN ROWS OF THIS SEAT. 5 by the template 'for every input the law returns true; each argument reads behind the call as it read before'; 0 by the template 'total and deterministic' (their statements: YtfmcicmbehjdcaaTotals.lean).
  GIVEN WITH THE SEED: the statements are not yours to turn. If you find one false, say at which input.
  Laid BY PROGRAM, IN A SANDBOX (cutbox-rows.mjs): the forced cells as the released guide's own fill.sh prints them over the translation 13a19fabdc800082… (all of the seat's roots in one cut). By AI agents, Wed Nov 11 2026. No macro, syntax, notation, axiom, sorry.
-/
import Derived.Test.YtfmcicmbehjdcaaChecked
import GoSem.Claim
import GoSem.ClaimJoined
import GoSem.ClaimMapViews
import Derived.JoinedTies
import Derived.KernelRfl
namespace Go.Proofs.Ytfmcicmbehjdcaa
/- THE CELL 'sum', in the pinned program and in every row, IS THE sha256 OF THE DUMP (.gsa) THAT YtfmcicmbehjdcaaProg.lean LOADS. Nothing in Lean hashes anything: it is a label: what it is worth is what the hold of that sum in a sandbox is worth. -/
noncomputable def Try.pinned : Pinned := { name := "ytfmcicmbehjdcaa", sum := "13a19fabdc80008275e2a07f15848390b171795fa20dbfe7fe30c6a205e23f4d", checked := Try.checked }
namespace Rows
def none {H : Type} : Left H := { results := [], args := [] }

/-- 'memfaultlaw31.CacheValid': WHATEVER THE INPUT: true; the input reads as it did. -/
def cacheValidSpec : ChangeSpec := { name := "cacheValid", fn := fun _ => fun
  | [d1, d2, d3, d4, d5, d6, d7, d8] => { results := [.lit (.bool true)], args := [d1, d2, d3, d4, d5, d6, d7, d8] }
  | _ => none }
def cacheValidRow : OpenClaim := { program := "ytfmcicmbehjdcaa", sum := "13a19fabdc80008275e2a07f15848390b171795fa20dbfe7fe30c6a205e23f4d", func := "memfault/memfaultlaw31.CacheValid", spec := "cacheValid", unfollowed := true, recurses := true, apart := false }
def CacheValidSaid : Prop := cacheValidRow.holds Try.pinned (OpenSpec.ofChange cacheValidSpec)

/-- ITS FALSE NEIGHBOUR: 'it returns false'. Refute it at one input. -/
def cacheValidWrong : ChangeSpec := { name := "cacheValid", fn := fun _ => fun
  | [d1, d2, d3, d4, d5, d6, d7, d8] => { results := [.lit (.bool false)], args := [d1, d2, d3, d4, d5, d6, d7, d8] }
  | _ => none }
def CacheValidWrongFalsely : Prop := cacheValidRow.holds Try.pinned (OpenSpec.ofChange cacheValidWrong)

/-- 'memfaultlaw31.CacheRuns': WHATEVER THE INPUT: true; the input reads as it did. -/
def cacheRunsSpec : ChangeSpec := { name := "cacheRuns", fn := fun _ => fun
  | [d] => { results := [.lit (.bool true)], args := [d] }
  | _ => none }
def cacheRunsRow : OpenClaim := { program := "ytfmcicmbehjdcaa", sum := "13a19fabdc80008275e2a07f15848390b171795fa20dbfe7fe30c6a205e23f4d", func := "memfault/memfaultlaw31.CacheRuns", spec := "cacheRuns", unfollowed := true, recurses := true, apart := false }
def CacheRunsSaid : Prop := cacheRunsRow.holds Try.pinned (OpenSpec.ofChange cacheRunsSpec)

/-- ITS FALSE NEIGHBOUR: 'it returns false'. Refute it at one input. -/
def cacheRunsWrong : ChangeSpec := { name := "cacheRuns", fn := fun _ => fun
  | [d] => { results := [.lit (.bool false)], args := [d] }
  | _ => none }
def CacheRunsWrongFalsely : Prop := cacheRunsRow.holds Try.pinned (OpenSpec.ofChange cacheRunsWrong)

/-- 'memfaultlaw31.CacheSets': WHATEVER THE INPUT: true; the input reads as it did. -/
def cacheSetsSpec : ChangeSpec := { name := "cacheSets", fn := fun _ => fun
  | [d1, d2] => { results := [.lit (.bool true)], args := [d1, d2] }
  | _ => none }
def cacheSetsRow : OpenClaim := { program := "ytfmcicmbehjdcaa", sum := "13a19fabdc80008275e2a07f15848390b171795fa20dbfe7fe30c6a205e23f4d", func := "memfault/memfaultlaw31.CacheSets", spec := "cacheSets", unfollowed := true, recurses := true, apart := false }
def CacheSetsSaid : Prop := cacheSetsRow.holds Try.pinned (OpenSpec.ofChange cacheSetsSpec)

/-- ITS FALSE NEIGHBOUR: 'it returns false'. Refute it at one input. -/
def cacheSetsWrong : ChangeSpec := { name := "cacheSets", fn := fun _ => fun
  | [d1, d2] => { results := [.lit (.bool false)], args := [d1, d2] }
  | _ => none }
def CacheSetsWrongFalsely : Prop := cacheSetsRow.holds Try.pinned (OpenSpec.ofChange cacheSetsWrong)

/-- 'memfaultlaw31.CacheFlush': WHATEVER THE INPUT: true; the input reads as it did. -/
def cacheFlushSpec : ChangeSpec := { name := "cacheFlush", fn := fun _ => fun
  | [d] => { results := [.lit (.bool true)], args := [d] }
  | _ => none }
def cacheFlushRow : OpenClaim := { program := "ytfmcicmbehjdcaa", sum := "13a19fabdc80008275e2a07f15848390b171795fa20dbfe7fe30c6a205e23f4d", func := "memfault/memfaultlaw31.CacheFlush", spec := "cacheFlush", unfollowed := true, recurses := true, apart := false }
def CacheFlushSaid : Prop := cacheFlushRow.holds Try.pinned (OpenSpec.ofChange cacheFlushSpec)

/-- ITS FALSE NEIGHBOUR: 'it returns false'. Refute it at one input. -/
def cacheFlushWrong : ChangeSpec := { name := "cacheFlush", fn := fun _ => fun
  | [d] => { results := [.lit (.bool false)], args := [d] }
  | _ => none }
def CacheFlushWrongFalsely : Prop := cacheFlushRow.holds Try.pinned (OpenSpec.ofChange cacheFlushWrong)

/-- 'memfaultlaw31.CacheActs': WHATEVER THE INPUT: true; the input reads as it did. -/
def cacheActsSpec : ChangeSpec := { name := "cacheActs", fn := fun _ => fun
  | [d1, d2, d3] => { results := [.lit (.bool true)], args := [d1, d2, d3] }
  | _ => none }
def cacheActsRow : OpenClaim := { program := "ytfmcicmbehjdcaa", sum := "13a19fabdc80008275e2a07f15848390b171795fa20dbfe7fe30c6a205e23f4d", func := "memfault/memfaultlaw31.CacheActs", spec := "cacheActs", unfollowed := true, recurses := true, apart := false }
def CacheActsSaid : Prop := cacheActsRow.holds Try.pinned (OpenSpec.ofChange cacheActsSpec)

/-- ITS FALSE NEIGHBOUR: 'it returns false'. Refute it at one input. -/
def cacheActsWrong : ChangeSpec := { name := "cacheActs", fn := fun _ => fun
  | [d1, d2, d3] => { results := [.lit (.bool false)], args := [d1, d2, d3] }
  | _ => none }
def CacheActsWrongFalsely : Prop := cacheActsRow.holds Try.pinned (OpenSpec.ofChange cacheActsWrong)

/- THE SECOND FORM. 'bulk': how many values and letters a reading holds, each counted each time it is reached (what is shared counts as often as it is met; a slice's spare places count too). A statement '..UptoSaid' is the law's where the arguments, and the package variables that the reading takes, are together of bulk at most 1048576: NARROWER than '..Said'. Prove '..Said' where nothing that the law and all that it calls make is longer than what came in: it says more and counts as full. Else prove '..UptoSaid'. A law counts once. -/
mutual
def uptoBulk {H : Type} : DataW H → Nat
  | .lit (.string bytes) => bytes.length + 1
  | .lit _ => 1
  | .nil => 1
  | .ptr d => uptoBulk d + 1
  | .slice elems spare => uptoBulkAll elems + uptoBulkAll spare + 1
  | .agg parts => uptoBulkAll parts + 1
  | .iface _ d => uptoBulk d + 1
  | .map entries => uptoBulkEntries entries + 1
  | .held _ => 1
def uptoBulkAll {H : Type} : List (DataW H) → Nat
  | [] => 0
  | d :: r => uptoBulk d + uptoBulkAll r
def uptoBulkEntries {H : Type} : List (Lit × DataW H) → Nat
  | [] => 0
  | x :: r => uptoBulkEntry x + uptoBulkEntries r
def uptoBulkEntry {H : Type} : Lit × DataW H → Nat
  | (.string bytes, d) => bytes.length + uptoBulk d + 1
  | (_, d) => uptoBulk d + 1
 end
def uptoSmall : (H : Type) → List (DataW H) → Bool := fun _ ds => decide (uptoBulkAll ds ≤ 1048576)
def OpenSpec.upto (s : _root_.Go.ChangeSpec) : _root_.Go.OpenSpec := { _root_.Go.OpenSpec.ofChange s with cond := some uptoSmall }

/-- 'memfaultlaw31.CacheValid', WHERE WHAT IT READS IS OF BULK AT MOST 1048576: true; the input reads as it did. -/
def cacheValidUptoRow : OpenClaim := { program := "ytfmcicmbehjdcaa", sum := "13a19fabdc80008275e2a07f15848390b171795fa20dbfe7fe30c6a205e23f4d", func := "memfault/memfaultlaw31.CacheValid", spec := "cacheValid", unfollowed := true, recurses := true, apart := false, narrowed := true }
def CacheValidUptoSaid : Prop := cacheValidUptoRow.holds Try.pinned (OpenSpec.upto cacheValidSpec)

/-- 'memfaultlaw31.CacheRuns', WHERE WHAT IT READS IS OF BULK AT MOST 1048576: true; the input reads as it did. -/
def cacheRunsUptoRow : OpenClaim := { program := "ytfmcicmbehjdcaa", sum := "13a19fabdc80008275e2a07f15848390b171795fa20dbfe7fe30c6a205e23f4d", func := "memfault/memfaultlaw31.CacheRuns", spec := "cacheRuns", unfollowed := true, recurses := true, apart := false, narrowed := true }
def CacheRunsUptoSaid : Prop := cacheRunsUptoRow.holds Try.pinned (OpenSpec.upto cacheRunsSpec)

/-- 'memfaultlaw31.CacheSets', WHERE WHAT IT READS IS OF BULK AT MOST 1048576: true; the input reads as it did. -/
def cacheSetsUptoRow : OpenClaim := { program := "ytfmcicmbehjdcaa", sum := "13a19fabdc80008275e2a07f15848390b171795fa20dbfe7fe30c6a205e23f4d", func := "memfault/memfaultlaw31.CacheSets", spec := "cacheSets", unfollowed := true, recurses := true, apart := false, narrowed := true }
def CacheSetsUptoSaid : Prop := cacheSetsUptoRow.holds Try.pinned (OpenSpec.upto cacheSetsSpec)

/-- 'memfaultlaw31.CacheFlush', WHERE WHAT IT READS IS OF BULK AT MOST 1048576: true; the input reads as it did. -/
def cacheFlushUptoRow : OpenClaim := { program := "ytfmcicmbehjdcaa", sum := "13a19fabdc80008275e2a07f15848390b171795fa20dbfe7fe30c6a205e23f4d", func := "memfault/memfaultlaw31.CacheFlush", spec := "cacheFlush", unfollowed := true, recurses := true, apart := false, narrowed := true }
def CacheFlushUptoSaid : Prop := cacheFlushUptoRow.holds Try.pinned (OpenSpec.upto cacheFlushSpec)

/-- 'memfaultlaw31.CacheActs', WHERE WHAT IT READS IS OF BULK AT MOST 1048576: true; the input reads as it did. -/
def cacheActsUptoRow : OpenClaim := { program := "ytfmcicmbehjdcaa", sum := "13a19fabdc80008275e2a07f15848390b171795fa20dbfe7fe30c6a205e23f4d", func := "memfault/memfaultlaw31.CacheActs", spec := "cacheActs", unfollowed := true, recurses := true, apart := false, narrowed := true }
def CacheActsUptoSaid : Prop := cacheActsUptoRow.holds Try.pinned (OpenSpec.upto cacheActsSpec)

end Rows
end Go.Proofs.Ytfmcicmbehjdcaa
