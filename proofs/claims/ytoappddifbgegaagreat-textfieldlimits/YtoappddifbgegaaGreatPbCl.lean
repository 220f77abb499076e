/- The reference: the cluster boundaries of a text are the program's, exactly. -/
import Derived.Test.YtoappddifbgegaaGreatPiN
import Derived.Test.YtoappddifbgegaaGreatPaCl
set_option linter.all false
namespace Go.Ab
open Go.Proofs
namespace Bi
attribute [local congr] wGq_congr
section
variable {prim : FuncId → Option Prim} (d : Nat)
end
end Bi
end Go.Ab
