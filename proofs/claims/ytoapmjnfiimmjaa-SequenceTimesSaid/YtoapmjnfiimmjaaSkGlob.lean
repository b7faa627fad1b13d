/- SK: the package variables that the rows list, and what they hold: none here. -/
import Derived.Test.YtoapmjnfiimmjaaSkDef
namespace Go.Proofs.Ytoapmjnfiimmjaa.Sk
open Go
def glob (g : Nat) : Option ((t : Ty) × t.den) := none
end Go.Proofs.Ytoapmjnfiimmjaa.Sk
