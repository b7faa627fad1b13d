/- SK: the package variables that the rows list, and what they hold: phrase.most, phrase.words, math._cos, math._sin. -/
import Derived.Test.YtnbkofkgdbhbpaaDoorSkDef
namespace Go.Proofs.YtnbkofkgdbhbpaaDoor.Sk
open Go
def glob : Nat → Option ((t : Ty) × t.den)
  | 0 => some ⟨.vec 3 .i64, ([60000, 4095, 400] : List Int)⟩
  | 1 => some ⟨.pair .str (.pair .str (.pair .str (.pair .str (.pair .str (.pair .str (.str)))))), ((⟨#[72, 69, 73, 71, 72, 84]⟩, ⟨#[72, 69, 65, 68, 73, 78, 71]⟩, ⟨#[83, 80, 69, 69, 68]⟩, ⟨#[68, 73, 82, 69, 67, 84]⟩, ⟨#[72, 79, 76, 68]⟩, ⟨#[67, 79, 78, 84, 65, 67, 84]⟩, ⟨#[76, 65, 78, 68]⟩) : ByteArray × ByteArray × ByteArray × ByteArray × ByteArray × ByteArray × ByteArray)⟩
  | 3 => some ⟨.pair .flt (.pair .flt (.pair .flt (.pair .flt (.pair .flt .flt)))), ((13666448263388469915, 4477121864728985349, 13732177093698800582, 4537941361668146421, 13787419979223748497, 4586165620538955083) : Nat × Nat × Nat × Nat × Nat × Nat)⟩
  | 4 => some ⟨.pair .flt (.pair .flt (.pair .flt (.pair .flt (.pair .flt .flt)))), ((4460209587652500685, 13716528389658582877, 4523617212962785441, 13774824197404483331, 4575957461383575504, 13818544856648471880) : Nat × Nat × Nat × Nat × Nat × Nat)⟩
  | _ => none
end Go.Proofs.YtnbkofkgdbhbpaaDoor.Sk
