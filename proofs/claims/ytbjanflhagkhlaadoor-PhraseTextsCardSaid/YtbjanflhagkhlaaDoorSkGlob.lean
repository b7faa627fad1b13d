/- SK: the package variables that the rows list, and what they hold: phrase.most, phrase.words, strconv.uint64pow10; bytealg.MaxLen is some int. -/
import Derived.Test.YtbjanflhagkhlaaDoorSkDef
namespace Go.Proofs.YtbjanflhagkhlaaDoor.Sk
open Go
def glob : Nat → Option ((t : Ty) × t.den)
  | 0 => some ⟨.vec 3 .i64, ([60000, 4095, 400] : List Int)⟩
  | 1 => some ⟨.pair .str (.pair .str (.pair .str (.pair .str (.pair .str (.pair .str (.str)))))), ((⟨#[72, 69, 73, 71, 72, 84]⟩, ⟨#[72, 69, 65, 68, 73, 78, 71]⟩, ⟨#[83, 80, 69, 69, 68]⟩, ⟨#[68, 73, 82, 69, 67, 84]⟩, ⟨#[72, 79, 76, 68]⟩, ⟨#[67, 79, 78, 84, 65, 67, 84]⟩, ⟨#[76, 65, 78, 68]⟩) : ByteArray × ByteArray × ByteArray × ByteArray × ByteArray × ByteArray × ByteArray)⟩
  | 5 => some ⟨.vec 20 .u64, ([1, 10, 100, 1000, 10000, 100000, 1000000, 10000000, 100000000, 1000000000, 10000000000, 100000000000, 1000000000000, 10000000000000, 100000000000000, 1000000000000000, 10000000000000000, 100000000000000000, 1000000000000000000, 10000000000000000000] : List Int)⟩
  | _ => none
def globI : Nat → Bool
  | 2 => true
  | _ => false
end Go.Proofs.YtbjanflhagkhlaaDoor.Sk
