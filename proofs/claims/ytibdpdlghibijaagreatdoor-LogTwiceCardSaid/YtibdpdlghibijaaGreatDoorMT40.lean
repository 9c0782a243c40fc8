/-
  Walk of layer 9's document: a file is set (as in the disk's rows).
-/
import Derived.Test.YtibdpdlghibijaaGreatDoorMT7
import Derived.Test.YtibdpdlghibijaaGreatDoorMT12
import Derived.Test.YtibdpdlghibijaaGreatDoorMT13
import Derived.Test.YtibdpdlghibijaaGreatDoorMT30
/-
  Walk of layer 9's document: a file is set (as in the disk's rows).
-/
namespace Go.Proofs
open Go Go.Eng
set_option maxRecDepth 100000
set_option maxHeartbeats 4000000
attribute [local irreducible] Tri

def restW (n s : List UInt8) (S : FL) (done : Bool) (i : Nat) : FL := if done then (S.drop i).filter (fun q => !decide (q.1 = n)) else setN n s (S.drop i)
def nxtW (n : List UInt8) (S : FL) (i : Nat) : FL := match S[i]? with
  | some p => if p.1 = n then [] else [p]
  | none => []
structure HalfW (n s : List UInt8) (S : FL) (i : Nat) (done : Bool) (out : FL) : Prop where
  eq : out ++ (nxtW n S i ++ restW n s S done (i + 1)) = setN n s S
  len : out.length ≤ i + (if done then 1 else 0)
  fin : i = S.length → done = true

end Go.Proofs
