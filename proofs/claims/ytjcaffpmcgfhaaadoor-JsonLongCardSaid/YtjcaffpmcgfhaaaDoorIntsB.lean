/-
  Contracts of the reference's run and Scan.
-/
import Derived.Test.YtjcaffpmcgfhaaaDoorIntsA
namespace Go.Proofs.YtjcaffpmcgfhaaaDoor.intsB
open Go.ChangeShapes Go.WideShapes Go.ChangeAt Go.RowKit intsP intsA

def scR (l : List UInt8) : Value := if whole l = 0 then .tuple #[.int .i64 0, .int .i64 0] else .tuple #[.int .i64 (whole l : Int), .int .i64 (every l : Int)]

def isF (l : List UInt8) (k : Nat) : Bool := decide (bt l k = 46 ∧ dn (l.drop (k + 1)) ≠ 0)

end Go.Proofs.YtjcaffpmcgfhaaaDoor.intsB
