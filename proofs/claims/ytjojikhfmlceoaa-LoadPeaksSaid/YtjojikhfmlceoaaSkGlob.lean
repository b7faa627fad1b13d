/- SK: the package variables that the rows list, and what they hold: none here. -/
import Derived.Test.YtjojikhfmlceoaaSkDef
namespace Go.Proofs.Ytjojikhfmlceoaa.Sk
open Go
def glob (g : Nat) : Option ((t : Ty) × t.den) := none
end Go.Proofs.Ytjojikhfmlceoaa.Sk
