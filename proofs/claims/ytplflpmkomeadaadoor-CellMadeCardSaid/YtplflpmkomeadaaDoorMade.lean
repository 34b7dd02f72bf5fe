/- made.(*Dice).Fault and OddFault: some fault. -/
import Derived.Test.YtplflpmkomeadaaDoorK1
import Derived.Test.YtplflpmkomeadaaDoorCov
import Derived.Test.YtplflpmkomeadaaDoorShape
import Derived.Deep.CutRange
import Derived.Deep.CutBlock
namespace Go.Proofs.YtplflpmkomeadaaDoor
set_option linter.unusedSimpArgs false
set_option linter.unusedVariables false
open Go.RowKit
set_option maxRecDepth 100000
attribute [local go_sem] lt_more ne_more ne_more'
attribute [local irreducible] wpX wpF

def FaultPost (B b : Nat) (w : World) (e : Ending) (w' : World) : Prop :=
  ∃ (k f0 f1 f2 f3 f4 f5 ch ms vl : Int) (hd : Bool), e = .returned (vF k f0 f1 f2 f3 f4 f5 ch ms vl hd) ∧ Dice B w' b ∧ Chg b w w'

end Go.Proofs.YtplflpmkomeadaaDoor
