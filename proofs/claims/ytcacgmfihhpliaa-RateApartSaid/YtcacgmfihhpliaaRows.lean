/-
  No cell of these rows narrows 'for every input' (looked for: loops, veiled, ifaces, maps, wideKeys, modest, calm, conditions, laid).
  DERIVED. THE GIVEN ROWS OF THIS SEAT. 11 by the template 'for every input the law returns true; each argument reads behind the call as it read before'; 0 by the template 'total and deterministic' (their statements: YtcacgmfihhpliaaTotals.lean).
  GIVEN WITH THE SEED: the statements are not yours to turn. If you find one false, say at which input.
  Laid BY PROGRAM, IN A SANDBOX (cutbox-rows.mjs): the forced cells as the released guide's own fill.sh prints them over the translation 9510b6ceeab230e5… (all of the seat's roots in one cut). By AI agents, Wed Nov 11 2026. No macro, syntax, notation, axiom, sorry.
-/
import Derived.Test.YtcacgmfihhpliaaChecked
import GoSem.Claim
import GoSem.ClaimJoined
import GoSem.ClaimMapViews
import Derived.JoinedTies
import Derived.KernelRfl
namespace Go.Proofs.Ytcacgmfihhpliaa
/- THE CELL 'sum', in the pinned program and in every row, IS THE sha256 OF THE DUMP (.gsa) THAT YtcacgmfihhpliaaProg.lean LOADS. Nothing in Lean hashes anything: it is a label: what it is worth is what the hold of that sum in a sandbox is worth. -/
noncomputable def Try.pinned : Pinned := { name := "ytcacgmfihhpliaa", sum := "9510b6ceeab230e513dc4fe9cc6c4cef9509e3bcd30e9a24b6382fbe968b47d5", checked := Try.checked }
namespace Rows
def none {H : Type} : Left H := { results := [], args := [] }

/-- 'memfaultlaw36.SpareSwaps': WHATEVER THE INPUT: true; the input reads as it did. -/
def spareSwapsSpec : ChangeSpec := { name := "spareSwaps", fn := fun _ => fun
  | [d1, d2, d3, d4, d5, d6, d7] => { results := [.lit (.bool true)], args := [d1, d2, d3, d4, d5, d6, d7] }
  | _ => none }
def spareSwapsRow : OpenClaim := { program := "ytcacgmfihhpliaa", sum := "9510b6ceeab230e513dc4fe9cc6c4cef9509e3bcd30e9a24b6382fbe968b47d5", func := "memfault/memfaultlaw36.SpareSwaps", spec := "spareSwaps", unfollowed := true, recurses := true, apart := false }
def SpareSwapsSaid : Prop := spareSwapsRow.holds Try.pinned (OpenSpec.ofChange spareSwapsSpec)

/-- ITS FALSE NEIGHBOUR: 'it returns false'. Refute it at one input. -/
def spareSwapsWrong : ChangeSpec := { name := "spareSwaps", fn := fun _ => fun
  | [d1, d2, d3, d4, d5, d6, d7] => { results := [.lit (.bool false)], args := [d1, d2, d3, d4, d5, d6, d7] }
  | _ => none }
def SpareSwapsWrongFalsely : Prop := spareSwapsRow.holds Try.pinned (OpenSpec.ofChange spareSwapsWrong)

/-- 'memfaultlaw36.SpareFull': WHATEVER THE INPUT: true; the input reads as it did. -/
def spareFullSpec : ChangeSpec := { name := "spareFull", fn := fun _ => fun
  | [d1, d2] => { results := [.lit (.bool true)], args := [d1, d2] }
  | _ => none }
def spareFullRow : OpenClaim := { program := "ytcacgmfihhpliaa", sum := "9510b6ceeab230e513dc4fe9cc6c4cef9509e3bcd30e9a24b6382fbe968b47d5", func := "memfault/memfaultlaw36.SpareFull", spec := "spareFull", unfollowed := true, recurses := true, apart := false }
def SpareFullSaid : Prop := spareFullRow.holds Try.pinned (OpenSpec.ofChange spareFullSpec)

/-- ITS FALSE NEIGHBOUR: 'it returns false'. Refute it at one input. -/
def spareFullWrong : ChangeSpec := { name := "spareFull", fn := fun _ => fun
  | [d1, d2] => { results := [.lit (.bool false)], args := [d1, d2] }
  | _ => none }
def SpareFullWrongFalsely : Prop := spareFullRow.holds Try.pinned (OpenSpec.ofChange spareFullWrong)

/-- 'memfaultlaw36.SpareTurns': WHATEVER THE INPUT: true; the input reads as it did. -/
def spareTurnsSpec : ChangeSpec := { name := "spareTurns", fn := fun _ => fun
  | [d] => { results := [.lit (.bool true)], args := [d] }
  | _ => none }
def spareTurnsRow : OpenClaim := { program := "ytcacgmfihhpliaa", sum := "9510b6ceeab230e513dc4fe9cc6c4cef9509e3bcd30e9a24b6382fbe968b47d5", func := "memfault/memfaultlaw36.SpareTurns", spec := "spareTurns", unfollowed := true, recurses := true, apart := false }
def SpareTurnsSaid : Prop := spareTurnsRow.holds Try.pinned (OpenSpec.ofChange spareTurnsSpec)

/-- ITS FALSE NEIGHBOUR: 'it returns false'. Refute it at one input. -/
def spareTurnsWrong : ChangeSpec := { name := "spareTurns", fn := fun _ => fun
  | [d] => { results := [.lit (.bool false)], args := [d] }
  | _ => none }
def SpareTurnsWrongFalsely : Prop := spareTurnsRow.holds Try.pinned (OpenSpec.ofChange spareTurnsWrong)

/-- 'memfaultlaw36.SpareApart': WHATEVER THE INPUT: true; the input reads as it did. -/
def spareApartSpec : ChangeSpec := { name := "spareApart", fn := fun _ => fun
  | [d] => { results := [.lit (.bool true)], args := [d] }
  | _ => none }
def spareApartRow : OpenClaim := { program := "ytcacgmfihhpliaa", sum := "9510b6ceeab230e513dc4fe9cc6c4cef9509e3bcd30e9a24b6382fbe968b47d5", func := "memfault/memfaultlaw36.SpareApart", spec := "spareApart", unfollowed := true, recurses := true, apart := false }
def SpareApartSaid : Prop := spareApartRow.holds Try.pinned (OpenSpec.ofChange spareApartSpec)

/-- ITS FALSE NEIGHBOUR: 'it returns false'. Refute it at one input. -/
def spareApartWrong : ChangeSpec := { name := "spareApart", fn := fun _ => fun
  | [d] => { results := [.lit (.bool false)], args := [d] }
  | _ => none }
def SpareApartWrongFalsely : Prop := spareApartRow.holds Try.pinned (OpenSpec.ofChange spareApartWrong)

/-- 'memfaultlaw36.SpareNone': WHATEVER THE INPUT: true; the input reads as it did. -/
def spareNoneSpec : ChangeSpec := { name := "spareNone", fn := fun _ => fun
  | [d1, d2] => { results := [.lit (.bool true)], args := [d1, d2] }
  | _ => none }
def spareNoneRow : OpenClaim := { program := "ytcacgmfihhpliaa", sum := "9510b6ceeab230e513dc4fe9cc6c4cef9509e3bcd30e9a24b6382fbe968b47d5", func := "memfault/memfaultlaw36.SpareNone", spec := "spareNone", unfollowed := true, recurses := true, apart := false }
def SpareNoneSaid : Prop := spareNoneRow.holds Try.pinned (OpenSpec.ofChange spareNoneSpec)

/-- ITS FALSE NEIGHBOUR: 'it returns false'. Refute it at one input. -/
def spareNoneWrong : ChangeSpec := { name := "spareNone", fn := fun _ => fun
  | [d1, d2] => { results := [.lit (.bool false)], args := [d1, d2] }
  | _ => none }
def SpareNoneWrongFalsely : Prop := spareNoneRow.holds Try.pinned (OpenSpec.ofChange spareNoneWrong)

/-- 'memfaultlaw26.RateNotes': WHATEVER THE INPUT: true; the input reads as it did. -/
def rateNotesSpec : ChangeSpec := { name := "rateNotes", fn := fun _ => fun
  | [d1, d2, d3, d4, d5, d6] => { results := [.lit (.bool true)], args := [d1, d2, d3, d4, d5, d6] }
  | _ => none }
def rateNotesRow : OpenClaim := { program := "ytcacgmfihhpliaa", sum := "9510b6ceeab230e513dc4fe9cc6c4cef9509e3bcd30e9a24b6382fbe968b47d5", func := "memfault/memfaultlaw26.RateNotes", spec := "rateNotes", inPlace := ["slices.overlaps[memfault/api.Gauge]"], unfollowed := true, recurses := true, apart := false }
def RateNotesSaid : Prop := rateNotesRow.holds Try.pinned (OpenSpec.ofChange rateNotesSpec)

/-- ITS FALSE NEIGHBOUR: 'it returns false'. Refute it at one input. -/
def rateNotesWrong : ChangeSpec := { name := "rateNotes", fn := fun _ => fun
  | [d1, d2, d3, d4, d5, d6] => { results := [.lit (.bool false)], args := [d1, d2, d3, d4, d5, d6] }
  | _ => none }
def RateNotesWrongFalsely : Prop := rateNotesRow.holds Try.pinned (OpenSpec.ofChange rateNotesWrong)

/-- 'memfaultlaw26.RateLeaks': WHATEVER THE INPUT: true; the input reads as it did. -/
def rateLeaksSpec : ChangeSpec := { name := "rateLeaks", fn := fun _ => fun
  | [d1, d2] => { results := [.lit (.bool true)], args := [d1, d2] }
  | _ => none }
def rateLeaksRow : OpenClaim := { program := "ytcacgmfihhpliaa", sum := "9510b6ceeab230e513dc4fe9cc6c4cef9509e3bcd30e9a24b6382fbe968b47d5", func := "memfault/memfaultlaw26.RateLeaks", spec := "rateLeaks", inPlace := ["slices.overlaps[memfault/api.Gauge]"], unfollowed := true, recurses := true, apart := false }
def RateLeaksSaid : Prop := rateLeaksRow.holds Try.pinned (OpenSpec.ofChange rateLeaksSpec)

/-- ITS FALSE NEIGHBOUR: 'it returns false'. Refute it at one input. -/
def rateLeaksWrong : ChangeSpec := { name := "rateLeaks", fn := fun _ => fun
  | [d1, d2] => { results := [.lit (.bool false)], args := [d1, d2] }
  | _ => none }
def RateLeaksWrongFalsely : Prop := rateLeaksRow.holds Try.pinned (OpenSpec.ofChange rateLeaksWrong)

/-- 'memfaultlaw26.RateTwice': WHATEVER THE INPUT: true; the input reads as it did. -/
def rateTwiceSpec : ChangeSpec := { name := "rateTwice", fn := fun _ => fun
  | [d1, d2, d3] => { results := [.lit (.bool true)], args := [d1, d2, d3] }
  | _ => none }
def rateTwiceRow : OpenClaim := { program := "ytcacgmfihhpliaa", sum := "9510b6ceeab230e513dc4fe9cc6c4cef9509e3bcd30e9a24b6382fbe968b47d5", func := "memfault/memfaultlaw26.RateTwice", spec := "rateTwice", inPlace := ["slices.overlaps[memfault/api.Gauge]"], unfollowed := true, recurses := true, apart := false }
def RateTwiceSaid : Prop := rateTwiceRow.holds Try.pinned (OpenSpec.ofChange rateTwiceSpec)

/-- ITS FALSE NEIGHBOUR: 'it returns false'. Refute it at one input. -/
def rateTwiceWrong : ChangeSpec := { name := "rateTwice", fn := fun _ => fun
  | [d1, d2, d3] => { results := [.lit (.bool false)], args := [d1, d2, d3] }
  | _ => none }
def RateTwiceWrongFalsely : Prop := rateTwiceRow.holds Try.pinned (OpenSpec.ofChange rateTwiceWrong)

/-- 'memfaultlaw26.RateCounts': WHATEVER THE INPUT: true; the input reads as it did. -/
def rateCountsSpec : ChangeSpec := { name := "rateCounts", fn := fun _ => fun
  | [d1, d2, d3] => { results := [.lit (.bool true)], args := [d1, d2, d3] }
  | _ => none }
def rateCountsRow : OpenClaim := { program := "ytcacgmfihhpliaa", sum := "9510b6ceeab230e513dc4fe9cc6c4cef9509e3bcd30e9a24b6382fbe968b47d5", func := "memfault/memfaultlaw26.RateCounts", spec := "rateCounts", inPlace := ["slices.overlaps[memfault/api.Gauge]"], unfollowed := true, recurses := true, apart := false }
def RateCountsSaid : Prop := rateCountsRow.holds Try.pinned (OpenSpec.ofChange rateCountsSpec)

/-- ITS FALSE NEIGHBOUR: 'it returns false'. Refute it at one input. -/
def rateCountsWrong : ChangeSpec := { name := "rateCounts", fn := fun _ => fun
  | [d1, d2, d3] => { results := [.lit (.bool false)], args := [d1, d2, d3] }
  | _ => none }
def RateCountsWrongFalsely : Prop := rateCountsRow.holds Try.pinned (OpenSpec.ofChange rateCountsWrong)

/-- 'memfaultlaw26.RateApart': WHATEVER THE INPUT: true; the input reads as it did. -/
def rateApartSpec : ChangeSpec := { name := "rateApart", fn := fun _ => fun
  | [d1, d2, d3, d4] => { results := [.lit (.bool true)], args := [d1, d2, d3, d4] }
  | _ => none }
def rateApartRow : OpenClaim := { program := "ytcacgmfihhpliaa", sum := "9510b6ceeab230e513dc4fe9cc6c4cef9509e3bcd30e9a24b6382fbe968b47d5", func := "memfault/memfaultlaw26.RateApart", spec := "rateApart", inPlace := ["slices.overlaps[memfault/api.Gauge]"], unfollowed := true, recurses := true, apart := false }
def RateApartSaid : Prop := rateApartRow.holds Try.pinned (OpenSpec.ofChange rateApartSpec)

/-- ITS FALSE NEIGHBOUR: 'it returns false'. Refute it at one input. -/
def rateApartWrong : ChangeSpec := { name := "rateApart", fn := fun _ => fun
  | [d1, d2, d3, d4] => { results := [.lit (.bool false)], args := [d1, d2, d3, d4] }
  | _ => none }
def RateApartWrongFalsely : Prop := rateApartRow.holds Try.pinned (OpenSpec.ofChange rateApartWrong)

/-- 'memfaultlaw26.RateSilent': WHATEVER THE INPUT: true; the input reads as it did. -/
def rateSilentSpec : ChangeSpec := { name := "rateSilent", fn := fun _ => fun
  | [d1, d2, d3, d4] => { results := [.lit (.bool true)], args := [d1, d2, d3, d4] }
  | _ => none }
def rateSilentRow : OpenClaim := { program := "ytcacgmfihhpliaa", sum := "9510b6ceeab230e513dc4fe9cc6c4cef9509e3bcd30e9a24b6382fbe968b47d5", func := "memfault/memfaultlaw26.RateSilent", spec := "rateSilent", inPlace := ["slices.overlaps[memfault/api.Gauge]"], unfollowed := true, recurses := true, apart := false }
def RateSilentSaid : Prop := rateSilentRow.holds Try.pinned (OpenSpec.ofChange rateSilentSpec)

/-- ITS FALSE NEIGHBOUR: 'it returns false'. Refute it at one input. -/
def rateSilentWrong : ChangeSpec := { name := "rateSilent", fn := fun _ => fun
  | [d1, d2, d3, d4] => { results := [.lit (.bool false)], args := [d1, d2, d3, d4] }
  | _ => none }
def RateSilentWrongFalsely : Prop := rateSilentRow.holds Try.pinned (OpenSpec.ofChange rateSilentWrong)

/- THE SECOND FORM. 'bulk': how many values and letters a reading holds, each counted each time it is reached (what is shared counts as often as it is met; a slice's spare places count too). A statement '..UptoSaid' is the law's where the arguments, and the package variables that the reading takes, are together of bulk at most 1048576: NARROWER than '..Said'. Prove '..Said' where nothing that the law and all that it calls make is longer than what came in: it says more and counts as full. Else prove '..UptoSaid'. A law counts once. -/
mutual
def uptoBulk {H : Type} : DataW H → Nat
  | .lit (.string bytes) => bytes.length + 1
  | .lit _ => 1
  | .nil => 1
  | .ptr d => uptoBulk d + 1
  | .slice elems spare => uptoBulkAll elems + uptoBulkAll spare + 1
  | .agg parts => uptoBulkAll parts + 1
  | .iface _ d => uptoBulk d + 1
  | .map entries => uptoBulkEntries entries + 1
  | .held _ => 1
def uptoBulkAll {H : Type} : List (DataW H) → Nat
  | [] => 0
  | d :: r => uptoBulk d + uptoBulkAll r
def uptoBulkEntries {H : Type} : List (Lit × DataW H) → Nat
  | [] => 0
  | x :: r => uptoBulkEntry x + uptoBulkEntries r
def uptoBulkEntry {H : Type} : Lit × DataW H → Nat
  | (.string bytes, d) => bytes.length + uptoBulk d + 1
  | (_, d) => uptoBulk d + 1
 end
def uptoSmall : (H : Type) → List (DataW H) → Bool := fun _ ds => decide (uptoBulkAll ds ≤ 1048576)
def OpenSpec.upto (s : _root_.Go.ChangeSpec) : _root_.Go.OpenSpec := { _root_.Go.OpenSpec.ofChange s with cond := some uptoSmall }

/-- 'memfaultlaw36.SpareSwaps', WHERE WHAT IT READS IS OF BULK AT MOST 1048576: true; the input reads as it did. -/
def spareSwapsUptoRow : OpenClaim := { program := "ytcacgmfihhpliaa", sum := "9510b6ceeab230e513dc4fe9cc6c4cef9509e3bcd30e9a24b6382fbe968b47d5", func := "memfault/memfaultlaw36.SpareSwaps", spec := "spareSwaps", unfollowed := true, recurses := true, apart := false, narrowed := true }
def SpareSwapsUptoSaid : Prop := spareSwapsUptoRow.holds Try.pinned (OpenSpec.upto spareSwapsSpec)

/-- 'memfaultlaw36.SpareFull', WHERE WHAT IT READS IS OF BULK AT MOST 1048576: true; the input reads as it did. -/
def spareFullUptoRow : OpenClaim := { program := "ytcacgmfihhpliaa", sum := "9510b6ceeab230e513dc4fe9cc6c4cef9509e3bcd30e9a24b6382fbe968b47d5", func := "memfault/memfaultlaw36.SpareFull", spec := "spareFull", unfollowed := true, recurses := true, apart := false, narrowed := true }
def SpareFullUptoSaid : Prop := spareFullUptoRow.holds Try.pinned (OpenSpec.upto spareFullSpec)

/-- 'memfaultlaw36.SpareTurns', WHERE WHAT IT READS IS OF BULK AT MOST 1048576: true; the input reads as it did. -/
def spareTurnsUptoRow : OpenClaim := { program := "ytcacgmfihhpliaa", sum := "9510b6ceeab230e513dc4fe9cc6c4cef9509e3bcd30e9a24b6382fbe968b47d5", func := "memfault/memfaultlaw36.SpareTurns", spec := "spareTurns", unfollowed := true, recurses := true, apart := false, narrowed := true }
def SpareTurnsUptoSaid : Prop := spareTurnsUptoRow.holds Try.pinned (OpenSpec.upto spareTurnsSpec)

/-- 'memfaultlaw36.SpareApart', WHERE WHAT IT READS IS OF BULK AT MOST 1048576: true; the input reads as it did. -/
def spareApartUptoRow : OpenClaim := { program := "ytcacgmfihhpliaa", sum := "9510b6ceeab230e513dc4fe9cc6c4cef9509e3bcd30e9a24b6382fbe968b47d5", func := "memfault/memfaultlaw36.SpareApart", spec := "spareApart", unfollowed := true, recurses := true, apart := false, narrowed := true }
def SpareApartUptoSaid : Prop := spareApartUptoRow.holds Try.pinned (OpenSpec.upto spareApartSpec)

/-- 'memfaultlaw36.SpareNone', WHERE WHAT IT READS IS OF BULK AT MOST 1048576: true; the input reads as it did. -/
def spareNoneUptoRow : OpenClaim := { program := "ytcacgmfihhpliaa", sum := "9510b6ceeab230e513dc4fe9cc6c4cef9509e3bcd30e9a24b6382fbe968b47d5", func := "memfault/memfaultlaw36.SpareNone", spec := "spareNone", unfollowed := true, recurses := true, apart := false, narrowed := true }
def SpareNoneUptoSaid : Prop := spareNoneUptoRow.holds Try.pinned (OpenSpec.upto spareNoneSpec)

/-- 'memfaultlaw26.RateNotes', WHERE WHAT IT READS IS OF BULK AT MOST 1048576: true; the input reads as it did. -/
def rateNotesUptoRow : OpenClaim := { program := "ytcacgmfihhpliaa", sum := "9510b6ceeab230e513dc4fe9cc6c4cef9509e3bcd30e9a24b6382fbe968b47d5", func := "memfault/memfaultlaw26.RateNotes", spec := "rateNotes", inPlace := ["slices.overlaps[memfault/api.Gauge]"], unfollowed := true, recurses := true, apart := false, narrowed := true }
def RateNotesUptoSaid : Prop := rateNotesUptoRow.holds Try.pinned (OpenSpec.upto rateNotesSpec)

/-- 'memfaultlaw26.RateLeaks', WHERE WHAT IT READS IS OF BULK AT MOST 1048576: true; the input reads as it did. -/
def rateLeaksUptoRow : OpenClaim := { program := "ytcacgmfihhpliaa", sum := "9510b6ceeab230e513dc4fe9cc6c4cef9509e3bcd30e9a24b6382fbe968b47d5", func := "memfault/memfaultlaw26.RateLeaks", spec := "rateLeaks", inPlace := ["slices.overlaps[memfault/api.Gauge]"], unfollowed := true, recurses := true, apart := false, narrowed := true }
def RateLeaksUptoSaid : Prop := rateLeaksUptoRow.holds Try.pinned (OpenSpec.upto rateLeaksSpec)

/-- 'memfaultlaw26.RateTwice', WHERE WHAT IT READS IS OF BULK AT MOST 1048576: true; the input reads as it did. -/
def rateTwiceUptoRow : OpenClaim := { program := "ytcacgmfihhpliaa", sum := "9510b6ceeab230e513dc4fe9cc6c4cef9509e3bcd30e9a24b6382fbe968b47d5", func := "memfault/memfaultlaw26.RateTwice", spec := "rateTwice", inPlace := ["slices.overlaps[memfault/api.Gauge]"], unfollowed := true, recurses := true, apart := false, narrowed := true }
def RateTwiceUptoSaid : Prop := rateTwiceUptoRow.holds Try.pinned (OpenSpec.upto rateTwiceSpec)

/-- 'memfaultlaw26.RateCounts', WHERE WHAT IT READS IS OF BULK AT MOST 1048576: true; the input reads as it did. -/
def rateCountsUptoRow : OpenClaim := { program := "ytcacgmfihhpliaa", sum := "9510b6ceeab230e513dc4fe9cc6c4cef9509e3bcd30e9a24b6382fbe968b47d5", func := "memfault/memfaultlaw26.RateCounts", spec := "rateCounts", inPlace := ["slices.overlaps[memfault/api.Gauge]"], unfollowed := true, recurses := true, apart := false, narrowed := true }
def RateCountsUptoSaid : Prop := rateCountsUptoRow.holds Try.pinned (OpenSpec.upto rateCountsSpec)

/-- 'memfaultlaw26.RateApart', WHERE WHAT IT READS IS OF BULK AT MOST 1048576: true; the input reads as it did. -/
def rateApartUptoRow : OpenClaim := { program := "ytcacgmfihhpliaa", sum := "9510b6ceeab230e513dc4fe9cc6c4cef9509e3bcd30e9a24b6382fbe968b47d5", func := "memfault/memfaultlaw26.RateApart", spec := "rateApart", inPlace := ["slices.overlaps[memfault/api.Gauge]"], unfollowed := true, recurses := true, apart := false, narrowed := true }
def RateApartUptoSaid : Prop := rateApartUptoRow.holds Try.pinned (OpenSpec.upto rateApartSpec)

/-- 'memfaultlaw26.RateSilent', WHERE WHAT IT READS IS OF BULK AT MOST 1048576: true; the input reads as it did. -/
def rateSilentUptoRow : OpenClaim := { program := "ytcacgmfihhpliaa", sum := "9510b6ceeab230e513dc4fe9cc6c4cef9509e3bcd30e9a24b6382fbe968b47d5", func := "memfault/memfaultlaw26.RateSilent", spec := "rateSilent", inPlace := ["slices.overlaps[memfault/api.Gauge]"], unfollowed := true, recurses := true, apart := false, narrowed := true }
def RateSilentUptoSaid : Prop := rateSilentUptoRow.holds Try.pinned (OpenSpec.upto rateSilentSpec)

end Rows
end Go.Proofs.Ytcacgmfihhpliaa
