import Derived.Test.YtocfmjiollafaaaGreatDoorBase
namespace Go.Proofs.YtocfmjiollafaaaGreatDoor
open Go.RowKit
/-- a recipe handed over by value -/
def RcV (N : Nat → Prop) (x : Rc) (v : Value) (w : World) : Prop := ∃ cs, v = .agg cs ∧ kRc.K w N x cs.toList
end Go.Proofs.YtocfmjiollafaaaGreatDoor
