/- Chains: plain law. No conditions beyond those in the theorems. -/
import Derived.Test.YtjiheebhmokfbaaDoorE1
import Derived.Test.YtjiheebhmokfbaaDoorC9
set_option linter.all false
set_option linter.deprecated false
set_option linter.unnecessarySimpa false
set_option linter.unusedVariables false
set_option linter.unusedSimpArgs false
set_option linter.defProp false
namespace Go.Proofs.Eng
open Go Go.Proofs
set_option maxRecDepth 100000
set_option maxHeartbeats 16000000
end Go.Proofs.Eng
namespace Go.Proofs.Eng
open Go Go.Proofs
set_option maxRecDepth 100000
set_option maxHeartbeats 16000000
end Go.Proofs.Eng
namespace Go.Proofs.Eng
open Go Go.Proofs
set_option maxRecDepth 100000
set_option maxHeartbeats 16000000
section
variable (ts : List Tm)
mutual
def Tm.st (d : Nat) : Tm → Tm
 | .mk k i n ls kids => if k = 0 then (if i < d then .mk k i n ls kids else match ts[(i - d).toNat]? with | some t => t.sh d 0 0 | none => vr (i - ts.length)) else .mk k i n ls (stL d k 0 kids)
def stL (d : Nat) (k : Int) : Nat → List Tm → List Tm
 | _, [] => []
 | j, t :: l => t.st (d + (binderG k j).toNat) :: stL d k (j + 1) l
end
mutual
def Tm.stE (d : Nat) : Tm → Bool
 | .mk k i _ _ kids => if k = 0 then (if i < d then false else match ts[(i - d).toNat]? with | some t => t.shE d 0 0 | none => decide (65535 < i - ts.length)) else stEL d k 0 kids
def stEL (d : Nat) (k : Int) : Nat → List Tm → Bool
 | _, [] => false
 | j, t :: l => t.stE (d + (binderG k j).toNat) || stEL d k (j + 1) l
end
end
section
variable {ts : List Tm}
end
end Go.Proofs.Eng
namespace Go.Proofs.Eng
section
variable {b fr : Int}
end
end Go.Proofs.Eng
namespace Go.Proofs.Eng
end Go.Proofs.Eng
namespace Go.Proofs.Eng
def ch (i : Int) : Nat → Tm
 | 0 => vr i
 | n + 1 => .mk 4 0 ⟨#[]⟩ [] [ch i n, ch i n]
end Go.Proofs.Eng
