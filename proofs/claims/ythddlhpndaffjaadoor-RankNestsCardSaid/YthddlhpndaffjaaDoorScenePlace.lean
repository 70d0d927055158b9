/- The law's own functions for scenes: place and same answer true where a scene in memory tells what the reference's scene tells. -/
import Derived.Test.YthddlhpndaffjaaDoorSceneText
namespace Go.Proofs.YthddlhpndaffjaaDoor
open Go.RowKit

/-- At place i the scene in memory tells what the reference's scene tells. -/
def Tells (s' : ByteArray) (m : List UInt8) (s : ByteArray) (c e : Int) (t : Bool) (i : Int) : Prop :=
  sMark m i = srMarks s c e t i ∧ sBegin m i = srB s c e t i ∧ sEnd m i = srE s c e t i ∧
  ((srByte s t i = -1 ∧ sHas s' i = false ∧ sByte s' i = 0) ∨ ∃ x : UInt8, srByte s t i = x.toNat ∧ sHas s' i = true ∧ sByte s' i = x.toNat)

end Go.Proofs.YthddlhpndaffjaaDoor
