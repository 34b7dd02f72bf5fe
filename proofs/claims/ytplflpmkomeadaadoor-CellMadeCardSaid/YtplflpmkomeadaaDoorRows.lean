/-
  NARROWER THAN 'FOR EVERY INPUT', by the rows' own cells (each row's printed sentence says how): CellFlips: laid · CellSticks: laid · CellOrder: laid · CellStays: laid · CellRaw: laid · CellMade: laid.
  DERIVED. THE GIVEN ROWS OF THIS SEAT. 6 by the template 'for every input the law returns true; each argument reads behind the call as it read before'; 0 by the template 'total and deterministic' (their statements: YtplflpmkomeadaaDoorTotals.lean).
  GIVEN WITH THE SEED: the statements are not yours to turn. If you find one false, say at which input.
  Laid BY PROGRAM, IN A SANDBOX (cutbox-rows.mjs): the forced cells as the released guide's own fill.sh prints them over the translation a6c6d793d4fd0b41… (all of the seat's roots in one cut). By AI agents, Wed Nov 11 2026. No macro, syntax, notation, axiom, sorry.
-/
import Derived.Test.YtplflpmkomeadaaDoorChecked
import GoSem.Claim
import GoSem.ClaimJoined
import GoSem.ClaimMapViews
import Derived.JoinedTies
import Derived.KernelRfl
namespace Go.Proofs.YtplflpmkomeadaaDoor
/- THE CELL 'sum', in the pinned program and in every row, IS THE sha256 OF THE DUMP (.gsa) THAT YtplflpmkomeadaaDoorProg.lean LOADS. Nothing in Lean hashes anything: it is a label: what it is worth is what the hold of that sum in a sandbox is worth. -/
noncomputable def Tryd.pinned : Pinned := { name := "ytplflpmkomeadaadoor", sum := "a6c6d793d4fd0b417baa8dba136acc96e6773df0733ed7f0c474caa77a94aa95", checked := Tryd.checked }
namespace Rows
def none {H : Type} : Left H := { results := [], args := [] }

/- WHAT THE LISTED PACKAGE-LEVEL VARIABLES READ AS WHEN THE CALL BEGINS. Each datum BY PROGRAM (the guide's laid-datum.mjs) off the statement by which the dump's own 'gosem.cut.vars' lays the variable. In a bare row this is a premise. The card (YtplflpmkomeadaaDoorCards.lean) ties it to the program's text. -/
def laid_memfault_part_names {H : Type} : DataW H := .agg [.agg [.lit (.bool false), .lit (.bool false), .lit (.bool false), .lit (.bool false), .lit (.bool false), .lit (.bool false)], .agg [.lit (.bool true), .lit (.bool true), .lit (.bool true), .lit (.bool true), .lit (.bool true), .lit (.bool true)], .agg [.lit (.bool true), .lit (.bool true), .lit (.bool true), .lit (.bool true), .lit (.bool true), .lit (.bool false)], .agg [.lit (.bool true), .lit (.bool true), .lit (.bool true), .lit (.bool true), .lit (.bool false), .lit (.bool true)], .agg [.lit (.bool true), .lit (.bool true), .lit (.bool true), .lit (.bool true), .lit (.bool false), .lit (.bool false)], .agg [.lit (.bool true), .lit (.bool true), .lit (.bool true), .lit (.bool false), .lit (.bool false), .lit (.bool false)], .agg [.lit (.bool true), .lit (.bool true), .lit (.bool false), .lit (.bool false), .lit (.bool false), .lit (.bool false)]]

/-- 'memfaultlaw13.CellFlips': WHATEVER THE INPUT: true; the input reads as it did. -/
def cellFlipsSpec : ChangeSpec := { name := "cellFlips", fn := fun _ => fun
  | [d1, d2] => { results := [.lit (.bool true)], args := [d1, d2] }
  | _ => none }
def cellFlipsRow : OpenClaim := { program := "ytplflpmkomeadaadoor", sum := "a6c6d793d4fd0b417baa8dba136acc96e6773df0733ed7f0c474caa77a94aa95", func := "memfault/memfaultlaw13.CellFlips", spec := "cellFlips", unfollowed := true, recurses := true, named := ["memfault/part.names"], apart := false, laid := [("memfault/part.names", laid_memfault_part_names)] }
def CellFlipsSaid : Prop := cellFlipsRow.holds Tryd.pinned (OpenSpec.ofChange cellFlipsSpec)

/-- ITS FALSE NEIGHBOUR: 'it returns false'. Refute it at one input. -/
def cellFlipsWrong : ChangeSpec := { name := "cellFlips", fn := fun _ => fun
  | [d1, d2] => { results := [.lit (.bool false)], args := [d1, d2] }
  | _ => none }
def CellFlipsWrongFalsely : Prop := cellFlipsRow.holds Tryd.pinned (OpenSpec.ofChange cellFlipsWrong)

/-- 'memfaultlaw13.CellSticks': WHATEVER THE INPUT: true; the input reads as it did. -/
def cellSticksSpec : ChangeSpec := { name := "cellSticks", fn := fun _ => fun
  | [d1, d2] => { results := [.lit (.bool true)], args := [d1, d2] }
  | _ => none }
def cellSticksRow : OpenClaim := { program := "ytplflpmkomeadaadoor", sum := "a6c6d793d4fd0b417baa8dba136acc96e6773df0733ed7f0c474caa77a94aa95", func := "memfault/memfaultlaw13.CellSticks", spec := "cellSticks", unfollowed := true, recurses := true, named := ["memfault/part.names"], apart := false, laid := [("memfault/part.names", laid_memfault_part_names)] }
def CellSticksSaid : Prop := cellSticksRow.holds Tryd.pinned (OpenSpec.ofChange cellSticksSpec)

/-- ITS FALSE NEIGHBOUR: 'it returns false'. Refute it at one input. -/
def cellSticksWrong : ChangeSpec := { name := "cellSticks", fn := fun _ => fun
  | [d1, d2] => { results := [.lit (.bool false)], args := [d1, d2] }
  | _ => none }
def CellSticksWrongFalsely : Prop := cellSticksRow.holds Tryd.pinned (OpenSpec.ofChange cellSticksWrong)

/-- 'memfaultlaw13.CellOrder': WHATEVER THE INPUT: true; the input reads as it did. -/
def cellOrderSpec : ChangeSpec := { name := "cellOrder", fn := fun _ => fun
  | [d] => { results := [.lit (.bool true)], args := [d] }
  | _ => none }
def cellOrderRow : OpenClaim := { program := "ytplflpmkomeadaadoor", sum := "a6c6d793d4fd0b417baa8dba136acc96e6773df0733ed7f0c474caa77a94aa95", func := "memfault/memfaultlaw13.CellOrder", spec := "cellOrder", inPlace := ["slices.overlaps[memfault/api.Word]"], unfollowed := true, recurses := true, named := ["memfault/part.names"], apart := false, laid := [("memfault/part.names", laid_memfault_part_names)] }
def CellOrderSaid : Prop := cellOrderRow.holds Tryd.pinned (OpenSpec.ofChange cellOrderSpec)

/-- ITS FALSE NEIGHBOUR: 'it returns false'. Refute it at one input. -/
def cellOrderWrong : ChangeSpec := { name := "cellOrder", fn := fun _ => fun
  | [d] => { results := [.lit (.bool false)], args := [d] }
  | _ => none }
def CellOrderWrongFalsely : Prop := cellOrderRow.holds Tryd.pinned (OpenSpec.ofChange cellOrderWrong)

/-- 'memfaultlaw13.CellStays': WHATEVER THE INPUT: true; the input reads as it did. -/
def cellStaysSpec : ChangeSpec := { name := "cellStays", fn := fun _ => fun
  | [d1, d2, d3] => { results := [.lit (.bool true)], args := [d1, d2, d3] }
  | _ => none }
def cellStaysRow : OpenClaim := { program := "ytplflpmkomeadaadoor", sum := "a6c6d793d4fd0b417baa8dba136acc96e6773df0733ed7f0c474caa77a94aa95", func := "memfault/memfaultlaw13.CellStays", spec := "cellStays", inPlace := ["slices.overlaps[memfault/api.Word]"], unfollowed := true, recurses := true, named := ["memfault/part.names"], apart := false, laid := [("memfault/part.names", laid_memfault_part_names)] }
def CellStaysSaid : Prop := cellStaysRow.holds Tryd.pinned (OpenSpec.ofChange cellStaysSpec)

/-- ITS FALSE NEIGHBOUR: 'it returns false'. Refute it at one input. -/
def cellStaysWrong : ChangeSpec := { name := "cellStays", fn := fun _ => fun
  | [d1, d2, d3] => { results := [.lit (.bool false)], args := [d1, d2, d3] }
  | _ => none }
def CellStaysWrongFalsely : Prop := cellStaysRow.holds Tryd.pinned (OpenSpec.ofChange cellStaysWrong)

/-- 'memfaultlaw13.CellRaw': WHATEVER THE INPUT: true; the input reads as it did. -/
def cellRawSpec : ChangeSpec := { name := "cellRaw", fn := fun _ => fun
  | [d1, d2, d3] => { results := [.lit (.bool true)], args := [d1, d2, d3] }
  | _ => none }
def cellRawRow : OpenClaim := { program := "ytplflpmkomeadaadoor", sum := "a6c6d793d4fd0b417baa8dba136acc96e6773df0733ed7f0c474caa77a94aa95", func := "memfault/memfaultlaw13.CellRaw", spec := "cellRaw", inPlace := ["slices.overlaps[memfault/api.Word]"], unfollowed := true, recurses := true, named := ["memfault/part.names"], apart := false, laid := [("memfault/part.names", laid_memfault_part_names)] }
def CellRawSaid : Prop := cellRawRow.holds Tryd.pinned (OpenSpec.ofChange cellRawSpec)

/-- ITS FALSE NEIGHBOUR: 'it returns false'. Refute it at one input. -/
def cellRawWrong : ChangeSpec := { name := "cellRaw", fn := fun _ => fun
  | [d1, d2, d3] => { results := [.lit (.bool false)], args := [d1, d2, d3] }
  | _ => none }
def CellRawWrongFalsely : Prop := cellRawRow.holds Tryd.pinned (OpenSpec.ofChange cellRawWrong)

/-- 'memfaultlaw13.CellMade': WHATEVER THE INPUT: true; the input reads as it did. -/
def cellMadeSpec : ChangeSpec := { name := "cellMade", fn := fun _ => fun
  | [d] => { results := [.lit (.bool true)], args := [d] }
  | _ => none }
def cellMadeRow : OpenClaim := { program := "ytplflpmkomeadaadoor", sum := "a6c6d793d4fd0b417baa8dba136acc96e6773df0733ed7f0c474caa77a94aa95", func := "memfault/memfaultlaw13.CellMade", spec := "cellMade", inPlace := ["slices.overlaps[memfault/api.Word]"], unfollowed := true, recurses := true, named := ["memfault/part.names"], apart := false, laid := [("memfault/part.names", laid_memfault_part_names)] }
def CellMadeSaid : Prop := cellMadeRow.holds Tryd.pinned (OpenSpec.ofChange cellMadeSpec)

/-- ITS FALSE NEIGHBOUR: 'it returns false'. Refute it at one input. -/
def cellMadeWrong : ChangeSpec := { name := "cellMade", fn := fun _ => fun
  | [d] => { results := [.lit (.bool false)], args := [d] }
  | _ => none }
def CellMadeWrongFalsely : Prop := cellMadeRow.holds Tryd.pinned (OpenSpec.ofChange cellMadeWrong)

/- THE SECOND FORM. 'bulk': how many values and letters a reading holds, each counted each time it is reached (what is shared counts as often as it is met; a slice's spare places count too). A statement '..UptoSaid' is the law's where the arguments, and the package variables that the reading takes, are together of bulk at most 1048576: NARROWER than '..Said'. Prove '..Said' where nothing that the law and all that it calls make is longer than what came in: it says more and counts as full. Else prove '..UptoSaid'. A law counts once. -/
mutual
def uptoBulk {H : Type} : DataW H → Nat
  | .lit (.string bytes) => bytes.length + 1
  | .lit _ => 1
  | .nil => 1
  | .ptr d => uptoBulk d + 1
  | .slice elems spare => uptoBulkAll elems + uptoBulkAll spare + 1
  | .agg parts => uptoBulkAll parts + 1
  | .iface _ d => uptoBulk d + 1
  | .map entries => uptoBulkEntries entries + 1
  | .held _ => 1
def uptoBulkAll {H : Type} : List (DataW H) → Nat
  | [] => 0
  | d :: r => uptoBulk d + uptoBulkAll r
def uptoBulkEntries {H : Type} : List (Lit × DataW H) → Nat
  | [] => 0
  | x :: r => uptoBulkEntry x + uptoBulkEntries r
def uptoBulkEntry {H : Type} : Lit × DataW H → Nat
  | (.string bytes, d) => bytes.length + uptoBulk d + 1
  | (_, d) => uptoBulk d + 1
 end
def uptoSmall : (H : Type) → List (DataW H) → Bool := fun _ ds => decide (uptoBulkAll ds ≤ 1048576)
def OpenSpec.upto (s : _root_.Go.ChangeSpec) : _root_.Go.OpenSpec := { _root_.Go.OpenSpec.ofChange s with cond := some uptoSmall }

/-- 'memfaultlaw13.CellFlips', WHERE WHAT IT READS IS OF BULK AT MOST 1048576: true; the input reads as it did. -/
def cellFlipsUptoRow : OpenClaim := { program := "ytplflpmkomeadaadoor", sum := "a6c6d793d4fd0b417baa8dba136acc96e6773df0733ed7f0c474caa77a94aa95", func := "memfault/memfaultlaw13.CellFlips", spec := "cellFlips", unfollowed := true, recurses := true, named := ["memfault/part.names"], apart := false, laid := [("memfault/part.names", laid_memfault_part_names)], narrowed := true }
def CellFlipsUptoSaid : Prop := cellFlipsUptoRow.holds Tryd.pinned (OpenSpec.upto cellFlipsSpec)

/-- 'memfaultlaw13.CellSticks', WHERE WHAT IT READS IS OF BULK AT MOST 1048576: true; the input reads as it did. -/
def cellSticksUptoRow : OpenClaim := { program := "ytplflpmkomeadaadoor", sum := "a6c6d793d4fd0b417baa8dba136acc96e6773df0733ed7f0c474caa77a94aa95", func := "memfault/memfaultlaw13.CellSticks", spec := "cellSticks", unfollowed := true, recurses := true, named := ["memfault/part.names"], apart := false, laid := [("memfault/part.names", laid_memfault_part_names)], narrowed := true }
def CellSticksUptoSaid : Prop := cellSticksUptoRow.holds Tryd.pinned (OpenSpec.upto cellSticksSpec)

/-- 'memfaultlaw13.CellOrder', WHERE WHAT IT READS IS OF BULK AT MOST 1048576: true; the input reads as it did. -/
def cellOrderUptoRow : OpenClaim := { program := "ytplflpmkomeadaadoor", sum := "a6c6d793d4fd0b417baa8dba136acc96e6773df0733ed7f0c474caa77a94aa95", func := "memfault/memfaultlaw13.CellOrder", spec := "cellOrder", inPlace := ["slices.overlaps[memfault/api.Word]"], unfollowed := true, recurses := true, named := ["memfault/part.names"], apart := false, laid := [("memfault/part.names", laid_memfault_part_names)], narrowed := true }
def CellOrderUptoSaid : Prop := cellOrderUptoRow.holds Tryd.pinned (OpenSpec.upto cellOrderSpec)

/-- 'memfaultlaw13.CellStays', WHERE WHAT IT READS IS OF BULK AT MOST 1048576: true; the input reads as it did. -/
def cellStaysUptoRow : OpenClaim := { program := "ytplflpmkomeadaadoor", sum := "a6c6d793d4fd0b417baa8dba136acc96e6773df0733ed7f0c474caa77a94aa95", func := "memfault/memfaultlaw13.CellStays", spec := "cellStays", inPlace := ["slices.overlaps[memfault/api.Word]"], unfollowed := true, recurses := true, named := ["memfault/part.names"], apart := false, laid := [("memfault/part.names", laid_memfault_part_names)], narrowed := true }
def CellStaysUptoSaid : Prop := cellStaysUptoRow.holds Tryd.pinned (OpenSpec.upto cellStaysSpec)

/-- 'memfaultlaw13.CellRaw', WHERE WHAT IT READS IS OF BULK AT MOST 1048576: true; the input reads as it did. -/
def cellRawUptoRow : OpenClaim := { program := "ytplflpmkomeadaadoor", sum := "a6c6d793d4fd0b417baa8dba136acc96e6773df0733ed7f0c474caa77a94aa95", func := "memfault/memfaultlaw13.CellRaw", spec := "cellRaw", inPlace := ["slices.overlaps[memfault/api.Word]"], unfollowed := true, recurses := true, named := ["memfault/part.names"], apart := false, laid := [("memfault/part.names", laid_memfault_part_names)], narrowed := true }
def CellRawUptoSaid : Prop := cellRawUptoRow.holds Tryd.pinned (OpenSpec.upto cellRawSpec)

/-- 'memfaultlaw13.CellMade', WHERE WHAT IT READS IS OF BULK AT MOST 1048576: true; the input reads as it did. -/
def cellMadeUptoRow : OpenClaim := { program := "ytplflpmkomeadaadoor", sum := "a6c6d793d4fd0b417baa8dba136acc96e6773df0733ed7f0c474caa77a94aa95", func := "memfault/memfaultlaw13.CellMade", spec := "cellMade", inPlace := ["slices.overlaps[memfault/api.Word]"], unfollowed := true, recurses := true, named := ["memfault/part.names"], apart := false, laid := [("memfault/part.names", laid_memfault_part_names)], narrowed := true }
def CellMadeUptoSaid : Prop := cellMadeUptoRow.holds Tryd.pinned (OpenSpec.upto cellMadeSpec)

end Rows
end Go.Proofs.YtplflpmkomeadaaDoor
