/- SK: the package variables that the rows list, and what they hold: none here. -/
import Derived.Test.YtcmcacophbbagaaSkDef
namespace Go.Proofs.Ytcmcacophbbagaa.Sk
open Go
def glob (g : Nat) : Option ((t : Ty) × t.den) := none
end Go.Proofs.Ytcmcacophbbagaa.Sk
