/- SK, part 1: an interpreter of the program's code over values without memory addresses: its definitions. -/
import Derived.Below
import Derived.Laws.OwnMore
import Derived.Orders
import Derived.KernelRfl
import Derived.Laws.FloatArith
set_option linter.unusedVariables false
namespace Go.Proofs.YtbjanflhagkhlaaDoor.Sk
open Go

/-- The shapes of data. -/
inductive Ty where
  | int (k : IntKind) | bool | str | unit | flt
  | pair (a b : Ty)
  | vec (n : Nat) (k : IntKind)
  | sl (e : TypeId) (t : Ty)
  deriving DecidableEq

@[reducible] def Ty.den : Ty → Type
  | .int _ => Int | .bool => Bool | .str => ByteArray | .unit => Unit | .flt => Nat
  | .pair a b => a.den × b.den
  | .vec _ _ => List Int
  | .sl _ t => List t.den

def Ty.dflt : (t : Ty) → t.den
  | .int _ => (0 : Int) | .bool => false | .str => (⟨#[]⟩ : ByteArray) | .unit => () | .flt => (0 : Nat)
  | .pair a b => (a.dflt, b.dflt)
  | .vec _ _ => ([] : List Int)
  | .sl _ t => ([] : List t.den)

/-- No slices inside. -/
def Ty.flat : Ty → Bool
  | .sl _ _ => false
  | .pair a b => a.flat && b.flat
  | _ => true

/-- How many cells. -/
def Ty.size : Ty → Nat
  | .int _ | .bool | .str | .flt => 1 | .unit => 0
  | .pair a b => a.size + b.size
  | .vec n _ => n
  | .sl _ _ => 1

/-- Values: memory is named by the places of a list of blocks. -/
inductive AV where
  | sc (v : Value)
  | ptr (id off : Nat)
  | own (id : Nat)
  /-- n elements of a block of one's own, from the place off on. -/
  | osl (id off n : Nat)
  | ros (fr : Bool) (e : TypeId) (t : Ty) (l : List t.den)
  | rop (fr : Bool) (t : Ty) (x : t.den) (off : Nat)
  | rptr (id i off : Nat)
  | clo (f : FuncId) (caps : List AV)
  | agg (cs : List AV)
  | tup (vs : List AV)
  | any
  /-- v if b, else nothing was put here. -/
  | gd (b : Bool) (v : AV)
  /-- A whole slice that is read only, and full. -/
  | lit (e : TypeId) (t : Ty) (l : List t.den)
  /-- A map of texts to integers. -/
  | mp (id : Nat)
  /-- What a range over a function hands to the function: the loop's temps, what a round is given, the round's code. -/
  | yl (tm : List AV) (ps : Array Tmp) (asg body : Code)

/-- Blocks. -/
inductive ABlk where
  | dead
  | cells (cs : List AV) (T : TypeId)
  | rows (fr : Bool) (T : TypeId) (t : Ty) (l : List t.den)
  | smap (l : List (ByteArray × Int))

structure St where
  tm : List AV
  hp : List ABlk

/-- Reading of blocks, with tests. -/
inductive Rd (α : Type) : Type where
  | ret (a : α) | fail
  | rd (id : Nat) (k : ABlk → Rd α)
  | chk (b : Bool) (k : Rd α)

namespace Rd
def bind {α β : Type} : Rd α → (α → Rd β) → Rd β
  | ret a, f => f a
  | fail, _ => fail
  | rd id k, f => rd id fun b => (k b).bind f
  | chk b k, f => chk b (k.bind f)
def runO {α : Type} (look : Nat → ABlk) : Rd α → List Nat → Option (α × List Nat)
  | ret a, g => some (a, g)
  | fail, _ => none
  | rd id k, g => (k (look id)).runO look (id :: g)
  | chk b k, g => cond b (k.runO look g) none
def runK {α R : Type} (look : Nat → ABlk) : Rd α → List Nat → (α → List Nat → Option R) → Option R
  | ret a, g, K => K a g
  | fail, _, _ => none
  | rd id k, g, K => (k (look id)).runK look (id :: g) K
  | chk b k, g, K => cond b (k.runK look g K) none
/-- Tests under a guard. -/
def under {α : Type} (g : Bool) : Rd α → Rd α
  | ret a => ret a
  | fail => fail
  | rd id k => rd id fun b => (k b).under g
  | chk b k => chk (b || !g) (k.under g)
def ofO {α : Type} : Option α → Rd α
  | some a => ret a
  | none => fail
end Rd

def lookIn (hp : List ABlk) (id : Nat) : ABlk := (hp[id]?).getD .dead

/-- What an operation does. -/
structure Eff where
  v : AV
  news : List ABlk
  upd : List (Nat × ABlk)

def Eff.val (v : AV) : Rd Eff := .ret ⟨v, [], []⟩

/-! ### plain values -/
def ofV : Value → AV
  | .agg cs => .agg (cs.toList.map .sc)
  | .tuple vs => .tup (vs.toList.map .sc)
  | v => .sc v

def scs : List AV → Option (List Value)
  | [] => some []
  | .sc v :: r => (scs r).map (v :: ·)
  | _ => none

def toV : AV → Option Value
  | .sc v => some v
  | .agg cs => (scs cs).map fun l => .agg l.toArray
  | .tup cs => (scs cs).map fun l => .tuple l.toArray
  | _ => none

def pureRun {α : Type} (P : Program) : Sem α → Option α
  | .pure a => some a
  | .program k => pureRun P (k P)
  | .mark _ k => pureRun P k
  | _ => none

/-- The equality of texts, byte by byte. -/
def seq (a b : ByteArray) : Bool := a.data.toList == b.data.toList
def slt (a b : ByteArray) : Bool := Op.bytesLess a.data.toList b.data.toList

def bandI (k : IntKind) (a b : Int) : Int := k.wrap ((BitVec.ofInt k.bits a &&& BitVec.ofInt k.bits b).toNat : Int)
def borI (k : IntKind) (a b : Int) : Int := k.wrap ((BitVec.ofInt k.bits a ||| BitVec.ofInt k.bits b).toNat : Int)
def bandNotI (k : IntKind) (a b : Int) : Int := k.wrap ((BitVec.ofInt k.bits a &&& ~~~ BitVec.ofInt k.bits b).toNat : Int)
def bxorI (k : IntKind) (a b : Int) : Int := k.wrap ((BitVec.ofInt k.bits a ^^^ BitVec.ofInt k.bits b).toNat : Int)
def shlI (k : IntKind) (a b : Int) : Int := k.wrap (a * 2 ^ (min b.toNat k.bits))
def shrI (k : IntKind) (a b : Int) : Int := a.fdiv (2 ^ (min b.toNat k.bits))

def fadd (k : FloatKind) (a b : Nat) : Option Nat := k.format.add a b
def fsub (k : FloatKind) (a b : Nat) : Option Nat := k.format.sub a b
def fmul (k : FloatKind) (a b : Nat) : Option Nat := k.format.mul a b
def fdiv (k : FloatKind) (a b : Nat) : Option Nat := k.format.div a b
def feql (k : FloatKind) (a b : Nat) : Bool := k.format.order a b == some .eq
def flss (k : FloatKind) (a b : Nat) : Bool := k.format.order a b == some .lt
def fleq (k : FloatKind) (a b : Nat) : Bool := k.format.order a b == some .lt || k.format.order a b == some .eq
def fgtr (k : FloatKind) (a b : Nat) : Bool := k.format.order a b == some .gt
def fgeq (k : FloatKind) (a b : Nat) : Bool := k.format.order a b == some .gt || k.format.order a b == some .eq
def fneg (k : FloatKind) (a : Nat) : Nat := Op.negFloat k a
def abin (op : BinOp) (x y : Value) : Rd Value :=
  match x, y with
  | .int k a, .int k' b =>
    match op with
    | .shl => .chk (decide (0 ≤ b)) (.ret (.int k (shlI k a b)))
    | .shr => .chk (decide (0 ≤ b)) (.ret (.int k (shrI k a b)))
    | op => cond (decide (k = k')) (match op with
      | .and => .ret (.int k (bandI k a b))
      | .or => .ret (.int k (borI k a b))
      | .xor => .ret (.int k (bxorI k a b))
      | .andNot => .ret (.int k (bandNotI k a b))
      | .add => .ret (.int k (k.wrap (a + b)))
      | .sub => .ret (.int k (k.wrap (a - b)))
      | .mul => .ret (.int k (k.wrap (a * b)))
      | .quo => .chk (b != 0) (.ret (.int k (k.wrap (a.tdiv b))))
      | .rem => .chk (b != 0) (.ret (.int k (a.tmod b)))
      | .lss => .ret (.bool (decide (a < b)))
      | .leq => .ret (.bool (decide (a ≤ b)))
      | .gtr => .ret (.bool (decide (a > b)))
      | .geq => .ret (.bool (decide (a ≥ b)))
      | _ => .fail) .fail
  | .float k a, .float k' b =>
    cond (decide (k = k')) (match op with
      | .add => .chk (fadd k a b).isSome (.ret (.float k ((fadd k a b).getD 0)))
      | .sub => .chk (fsub k a b).isSome (.ret (.float k ((fsub k a b).getD 0)))
      | .mul => .chk (fmul k a b).isSome (.ret (.float k ((fmul k a b).getD 0)))
      | .quo => .chk (fdiv k a b).isSome (.ret (.float k ((fdiv k a b).getD 0)))
      | .lss => .ret (.bool (flss k a b))
      | .leq => .ret (.bool (fleq k a b))
      | .gtr => .ret (.bool (fgtr k a b))
      | .geq => .ret (.bool (fgeq k a b))
      | _ => .fail) .fail
  | .string a, .string b =>
    match op with
    | .add => .chk (Nat.ble (a.size + b.size) 9223372036854775807) (.ret (.string (a ++ b)))
    | .lss => .ret (.bool (slt a b))
    | .leq => .ret (.bool (slt a b || seq a b))
    | .gtr => .ret (.bool (!(slt a b || seq a b)))
    | .geq => .ret (.bool (!(slt a b)))
    | _ => .fail
  | _, _ => .fail

/-- The equality of plain values, by their type. -/
def partV (P : Program) (t : TypeId) (xs : List Value) (off : Nat) : Option Value :=
  match P.underlying t with
  | some (.struct _) | some (.array _ _) => (P.info? t).map fun i => .agg ((xs.drop off).take i.size).toArray
  | some _ => xs[off]?
  | none => none
def eqFs (P : Program) (eq : TypeId → Value → Value → Option Bool) (xs ys : List Value) : List Field → Option Bool
  | [] => some true
  | f :: r =>
    cond (f.name == "_") none
      (match partV P f.type xs f.offset, partV P f.type ys f.offset with
      | some x, some y => match eq f.type x y, eqFs P eq xs ys r with
        | some a, some b => some (a && b)
        | _, _ => none
      | _, _ => none)
def eqV (P : Program) : Nat → TypeId → Value → Value → Option Bool
  | 0, _, _, _ => none
  | d + 1, t, x, y =>
    match P.underlying t, x, y with
    | some (.int _), .int k a, .int k' b => cond (decide (k = k')) (some (a == b)) none
    | some .bool, .bool a, .bool b => some (a == b)
    | some .string, .string a, .string b => some (seq a b)
    | some (.struct fs), .agg xs, .agg ys => cond (P.stoodInHeld t) none (eqFs P (eqV P d) xs.toList ys.toList fs.toList)
    | _, _, _ => none

/-! ### typed data and cells -/
def encC (fr : Bool) : (t : Ty) → t.den → List AV
  | .int k, x => [.sc (.int k x)]
  | .bool, b => [.sc (.bool b)]
  | .str, s => [.sc (.string s)]
  | .flt, b => [.sc (.float .f64 b)]
  | .unit, _ => []
  | .pair a b, x => encC fr a x.1 ++ encC fr b x.2
  | .vec n k, l => (List.range n).map fun i => .sc (.int k (List.getD l i 0))
  | .sl e t, l => [.ros fr e t l]

def castL (t u : Ty) (l : List t.den) : Option (List u.den) :=
  if h : t = u then some (h ▸ l) else none

/-- The integers in cells. -/
def ints (k : IntKind) : List AV → Option (List Int)
  | [] => some []
  | .sc (.int k' x) :: r => cond (decide (k' = k)) ((ints k r).map (x :: ·)) none
  | _ => none

/-- What was read: the datum, is all memory that it leads to the call's own, and which blocks of one's own it leads to. -/
structure Dec (α : Type) where
  x : α
  fr : Bool
  own : List Nat

def decS (e : TypeId) (t : Ty) : AV → Rd (Dec (List t.den))
  | .ros fr e' t' l => cond (decide (e' = e)) (.ofO ((castL t' t l).map fun l => ⟨l, fr, []⟩)) .fail
  | .own id => .rd id fun
    | .rows fr e' t' l => cond (decide (e' = e)) (.ofO ((castL t' t l).map fun l => ⟨l, fr, [id]⟩)) .fail
    | _ => .fail
  | .osl id off n => .rd id fun
    | .rows fr e' t' l => cond (decide (e' = e)) (.ofO ((castL t' t l).map fun l => ⟨(l.drop off).take n, fr, [id]⟩)) .fail
    | _ => .fail
  | .lit e' t' l => cond (decide (e' = e)) (.ofO ((castL t' t l).map fun l => ⟨l, true, []⟩)) .fail
  | .sc (.slice none 0 0) => .ret ⟨[], true, []⟩
  | _ => .fail

def decInt (k : IntKind) : List AV → Rd (Dec (Int × List AV))
  | .sc (.int k' x) :: r => cond (decide (k' = k)) (.ret ⟨(x, r), true, []⟩) .fail
  | _ => .fail
def decBool : List AV → Rd (Dec (Bool × List AV))
  | .sc (.bool b) :: r => .ret ⟨(b, r), true, []⟩
  | _ => .fail
def decStr : List AV → Rd (Dec (ByteArray × List AV))
  | .sc (.string s) :: r => .ret ⟨(s, r), true, []⟩
  | _ => .fail
def decFlt : List AV → Rd (Dec (Nat × List AV))
  | .sc (.float .f64 b) :: r => .ret ⟨(b, r), true, []⟩
  | _ => .fail
def decVec (n : Nat) (k : IntKind) (r : List AV) : Rd (Dec (List Int × List AV)) :=
  match ints k (r.take n) with
  | some l => cond (decide (l.length = n)) (.ret ⟨(l, r.drop n), true, []⟩) .fail
  | none => .fail
def decSl (e : TypeId) (t : Ty) : List AV → Rd (Dec (List t.den × List AV))
  | v :: r => (decS e t v).bind fun l => .ret ⟨(l.x, r), l.fr, l.own⟩
  | [] => .fail

def decC : (t : Ty) → List AV → Rd (Dec (t.den × List AV))
  | .int k, r => decInt k r
  | .bool, r => decBool r
  | .str, r => decStr r
  | .flt, r => decFlt r
  | .unit, r => .ret ⟨((), r), true, []⟩
  | .pair a b, r => (decC a r).bind fun p => (decC b p.x.2).bind fun q => .ret ⟨((p.x.1, q.x.1), q.x.2), p.fr && q.fr, p.own ++ q.own⟩
  | .vec n k, r => decVec n k r
  | .sl e t, r => decSl e t r

/-- The values of a call: a cell's, or an aggregate's. -/
inductive VT where
  | cell (t : Ty)
  | agg (t : Ty)
  /-- A place that is read only: what a closure has caught. -/
  | box (t : Ty)
def VT.ty : VT → Ty | .cell t => t | .agg t => t | .box t => t
def VT.enc (fr : Bool) : (v : VT) → v.ty.den → AV
  | .cell t, x => (encC fr t x).headD .any
  | .agg t, x => .agg (encC fr t x)
  | .box t, x => .rop fr t x 0
def VT.dec : (v : VT) → AV → Rd (Dec v.ty.den)
  | .cell t, a => (decC t [a]).bind fun p => match p.x.2 with | [] => .ret ⟨p.x.1, p.fr, p.own⟩ | _ => .fail
  | .agg t, .agg cs => (decC t cs).bind fun p => match p.x.2 with | [] => .ret ⟨p.x.1, p.fr, p.own⟩ | _ => .fail
  | .agg _, _ => .fail
  | .box t, .ptr id 0 => .rd id fun
    | .cells cs _ => (decC t cs).bind fun p => .ret ⟨p.x.1, p.fr, id :: p.own⟩
    | _ => .fail
  | .box _, _ => .fail

inductive RT where
  | val (v : VT)
  | own (e : TypeId) (t : Ty)
def RT.ty : RT → Ty | .val v => v.ty | .own e t => .sl e t

@[reducible] def denL : List Ty → Type
  | [] => Unit
  | [t] => t.den
  | t :: u :: r => t.den × denL (u :: r)

def dfltL : (ts : List RT) → denL (ts.map RT.ty)
  | [] => ()
  | [r] => r.ty.dflt
  | r :: u :: q => (r.ty.dflt, dfltL (u :: q))
def hasOwn : List RT → Bool
  | [] => false
  | .own _ _ :: _ => true
  | .val _ :: r => hasOwn r

/-- What a function answers. ali: what it answers may lie in the arguments' memory. -/
structure PSpec where
  ali : Bool
  arg : List VT
  res : List RT
  fn : denL (arg.map VT.ty) → Option (denL (res.map RT.ty))

inductive Spec where
  | pure (s : PSpec)
  | inl (fn : Func)
  /-- What a function does, told as an operation's effect. -/
  | mac (m : List AV → Nat → Rd Eff)

def decArgs : (ts : List VT) → List AV → Rd (Dec (denL (ts.map VT.ty)))
  | [], [] => .ret ⟨(), true, []⟩
  | [v], [a] => v.dec a
  | v :: u :: r, a :: as => (v.dec a).bind fun x => (decArgs (u :: r) as).bind fun y => .ret ⟨(x.x, y.x), x.fr && y.fr, x.own ++ y.own⟩
  | _, _ => .fail

def encArgs (fr : Bool) : (ts : List VT) → denL (ts.map VT.ty) → List AV
  | [], _ => []
  | [v], x => [v.enc fr x]
  | v :: u :: r, x => v.enc fr x.1 :: encArgs fr (u :: r) x.2

/-- Results of a call: values, and the blocks of the slices that are the caller's own now. -/
def RT.enc (fr : Bool) (n : Nat) : (r : RT) → r.ty.den → AV × List ABlk
  | .val v, x => (v.enc fr x, [])
  | .own e t, l => (.own n, [.rows fr e t l])
def encRes (fr : Bool) : (n : Nat) → (ts : List RT) → denL (ts.map RT.ty) → List AV × List ABlk
  | _, [], _ => ([], [])
  | n, [r], x => let p := r.enc fr n x; ([p.1], p.2)
  | n, r :: u :: q, x =>
    let p := r.enc fr n x.1
    let s := encRes fr (n + p.2.length) (u :: q) x.2
    (p.1 :: s.1, p.2 ++ s.2)
def tupOf : List AV → AV
  | [v] => v
  | vs => .tup vs

/-- Results at a call's end: the own ones' blocks apart from what the others lead to. -/
structure Res (α : Type) where
  x : α
  fr : Bool
  own : List Nat
  sh : List Nat
def RT.dec : (r : RT) → AV → Rd (Res r.ty.den)
  | .val v, a => (v.dec a).bind fun p => .ret ⟨p.x, p.fr, [], p.own⟩
  | .own e t, .own id => (decS e t (.own id)).bind fun p => .ret ⟨p.x, p.fr, [id], []⟩
  | .own e t, .sc (.slice none 0 0) => cond (Nat.blt 0 t.size) (.ret ⟨[], true, [], []⟩) .fail
  | .own _ _, _ => .fail
def decRes : (ts : List RT) → List AV → Rd (Res (denL (ts.map RT.ty)))
  | [], [] => .ret ⟨(), true, [], []⟩
  | [r], [a] => r.dec a
  | r :: u :: q, a :: as => (r.dec a).bind fun x => (decRes (u :: q) as).bind fun y => .ret ⟨(x.x, y.x), x.fr && y.fr, x.own ++ y.own, x.sh ++ y.sh⟩
  | _, _ => .fail

/-! ### operations -/
def cellsOf : AV → List AV
  | .agg cs => cs
  | v => [v]
def known : AV → Bool
  | .any | .gd _ _ | .lit _ _ _ | .mp _ | .yl _ _ _ _ => false
  | .sc (.agg _) => false
  | _ => true
/-- What one cell may hold. -/
def storA : AV → Bool
  | .sc v => v.oneCell'
  | .agg _ | .tup _ | .any | .gd _ _ | .lit _ _ _ | .mp _ | .yl _ _ _ _ => false
  | _ => true

def zeroA (P : Program) (t : TypeId) : Option (List AV) :=
  match P.info? t with
  | some i => i.zero.map fun z => z.cells.toList.map .sc
  | none => none

def isAggA (P : Program) (t : TypeId) : Option Bool :=
  match P.underlying t with
  | some (.struct _) | some (.array _ _) => some true
  | some _ => some false
  | none => none

def sizeA (P : Program) (t : TypeId) : Option Nat := (P.info? t).map (·.size)

/-- A part of cells. -/
def partA (P : Program) (t : TypeId) (cs : List AV) (off : Nat) : Rd AV :=
  match isAggA P t, sizeA P t with
  | some true, some n => cond (Nat.ble (off + n) cs.length) (.ret (.agg ((cs.drop off).take n))) .fail
  | some false, _ => match cs[off]? with
    | some v => .ret v
    | none => .fail
  | _, _ => .fail

def strs : List AV → Option (List ByteArray)
  | [] => some []
  | .sc (.string x) :: r => (strs r).map (x :: ·)
  | _ :: _ => none
/-- A cell of integers, at a place that is known at the run alone. -/
def intAt (P : Program) (t : TypeId) (cs : List AV) (off : Nat) : Rd AV :=
  match P.underlying t with
  | some (.int k) => match ints k cs with
    | some l => .chk (decide (off < l.length)) (.ret (.sc (.int k (l.getD off 0))))
    | none => partA P t cs off
  | some .string => match strs cs with
    | some l => .chk (decide (off < l.length)) (.ret (.sc (.string (l.getD off ⟨#[]⟩))))
    | none => partA P t cs off
  | _ => partA P t cs off

def aggAt (P : Program) (t : TypeId) (cs : List AV) (off : Nat) : Rd AV :=
  match cs with
  | .sc (.int k x) :: r =>
    match ints k (.sc (.int k x) :: r), isAggA P t, sizeA P t with
    | some l, some true, some n => .chk (decide (off + n ≤ l.length)) (.ret (.agg ((List.range n).map fun j => .sc (.int k (l.getD (off + j) 0)))))
    | _, _, _ => partA P t (.sc (.int k x) :: r) off
  | cs => partA P t cs off

/-- A cell, or a row of integers, at a place that may be known at the run alone. -/
def atA (P : Program) (t : TypeId) (cs : List AV) (off : Nat) : Rd AV :=
  match isAggA P t with
  | some true => aggAt P t cs off
  | _ => intAt P t cs off

def fieldOff (P : Program) (s : TypeId) (f : Nat) : Option Nat :=
  match P.underlying s with
  | some (.struct fs) => match fs.toList[f]? with
    | some g => match sizeA P g.type with
      | some (_ + 1) => some g.offset
      | _ => none
    | none => none
  | _ => none

def setAt (cs : List AV) (off : Nat) : List AV → List AV
  | [] => cs
  | v :: r => setAt (cs.set off v) (off + 1) r

def fillA (place : Nat → Option (Nat × Nat)) (cs : List AV) : List (Nat × AV) → Option (List AV)
  | [] => some cs
  | (i, v) :: r =>
    match place i with
    | none => none
    | some (off, size) =>
      let vs := cellsOf v
      cond (known v && Nat.beq vs.length size && Nat.ble (off + vs.length) cs.length) (fillA place (setAt cs off vs) r) none

def placeOf (P : Program) (t : TypeId) : Option (Nat → Option (Nat × Nat)) :=
  match P.underlying t with
  | some (.struct fs) => (fs.toList.mapM (fun f => (P.info? f.type).map fun i => (f.offset, i.size))).map fun places => fun i => places[i]?
  | some (.array _ e) => (P.info? e).map fun ie => fun i => some (i * ie.size, ie.size)
  | _ => none

def lenA : AV → Rd Int
  | .ros _ _ _ l => .ret l.length
  | .own id => .rd id fun
    | .rows _ _ _ l => .ret l.length
    | _ => .fail
  | .osl id _ n => .rd id fun
    | .rows _ _ _ _ => .ret n
    | _ => .fail
  | .sc (.slice _ n _) => .ret n
  | _ => .fail

def nilS : AV → Rd Bool
  | .sc (.slice none _ _) => .ret true
  | .own id => .rd id fun
    | .rows _ _ _ l => .chk (!l.isEmpty) (.ret false)
    | _ => .fail
  | .ros _ _ _ l => .chk (!l.isEmpty) (.ret false)
  | _ => .fail
def nilP : AV → Rd Bool
  | .sc (.pointer none) => .ret true
  | .ptr _ _ | .rop _ _ _ _ | .rptr _ _ _ => .ret false
  | _ => .fail
def nilF : AV → Rd Bool
  | .sc .nilFunc => .ret true
  | .clo _ _ => .ret false
  | _ => .fail

def eqA (P : Program) (t : TypeId) (x y : AV) : Rd Bool :=
  match P.underlying t with
  | some (.slice _) => match x, y with
    | x, .sc (.slice none _ _) => nilS x
    | .sc (.slice none _ _), y => nilS y
    | _, _ => .fail
  | some (.pointer _) => match x, y with
    | x, .sc (.pointer none) => nilP x
    | .sc (.pointer none), y => nilP y
    | _, _ => .fail
  | some (.func _ _ _) => match x, y with
    | x, .sc .nilFunc => nilF x
    | .sc .nilFunc, y => nilF y
    | _, _ => .fail
  | some (.int _) | some .bool | some .string => match x, y with
    | .sc u, .sc v => .ofO (eqV P 8 t u v)
    | _, _ => .fail
  | some (.float _) => match x, y with
    | .sc (.float k a), .sc (.float k' b) => cond (decide (k = k')) (.ret (feql k a b)) .fail
    | _, _ => .fail
  | some (.struct _) => cond (P.eqGuardType P.depth t) .fail (match toV x, toV y with
    | some u, some v => .ofO (eqV P 8 t u v)
    | _, _ => .fail)
  | _ => .fail

def constO : Operand → Bool
  | .const _ => true
  | _ => false
/-- With what stands for two nil interfaces, one of them written out. -/
def eqB (P : Program) (t : TypeId) (ox oy : Operand) (x y : AV) : Rd Bool :=
  match x, y with
  | .sc .nilIface, .sc .nilIface => match P.underlying t with
    | some (.interface _) => cond (constO ox || constO oy) (.ret true) .fail
    | _ => .fail
  | x, y => eqA P t x y

def sliceA (x : AV) (lo hi : Option AV) : Rd AV :=
  match x with
  | .ros fr e t l =>
    match lo, hi with
    | none, none => .ret (.ros fr e t l)
    | some (.sc (.int _ a)), none => .chk (decide (0 ≤ a) && decide (a ≤ l.length)) (.ret (.ros fr e t (l.drop a.toNat)))
    | none, some (.sc (.int _ b)) => .chk (decide (0 ≤ b) && decide (b ≤ l.length)) (.ret (.ros fr e t (l.take b.toNat)))
    | some (.sc (.int _ a)), some (.sc (.int _ b)) => .chk (decide (0 ≤ a) && decide (a ≤ b) && decide (b ≤ l.length)) (.ret (.ros fr e t ((l.take b.toNat).drop a.toNat)))
    | _, _ => .fail
  | .sc (.string s) =>
    match lo, hi with
    | none, none => .ret (.sc (.string s))
    | some (.sc (.int _ a)), none => .chk (decide (0 ≤ a) && decide (a ≤ s.size)) (.ret (.sc (.string (s.extract a.toNat s.size))))
    | none, some (.sc (.int _ b)) => .chk (decide (0 ≤ b) && decide (b ≤ s.size)) (.ret (.sc (.string (s.extract 0 b.toNat))))
    | some (.sc (.int _ a)), some (.sc (.int _ b)) => .chk (decide (0 ≤ a) && decide (a ≤ b) && decide (b ≤ s.size)) (.ret (.sc (.string (s.extract a.toNat b.toNat))))
    | _, _ => .fail
  | _ => .fail

/-- A part of what is one's own; l: the block's elements, n: the slice's length. -/
def sliceOwn (id off n : Nat) (len : Nat) (lo hi : Option AV) : Rd AV :=
  match lo, hi with
  | none, none => .ret (.osl id off n)
  | some (.sc (.int _ a)), none => .chk (decide (0 ≤ a) && decide (a ≤ n)) (.ret (.osl id (off + a.toNat) (n - a.toNat)))
  | none, some (.sc (.int _ b)) => .chk (decide (0 ≤ b) && decide (off + b.toNat ≤ len)) (.ret (.osl id off b.toNat))
  | some (.sc (.int _ a)), some (.sc (.int _ b)) => .chk (decide (0 ≤ a) && decide (a ≤ b) && decide (off + b.toNat ≤ len)) (.ret (.osl id (off + a.toNat) (b.toNat - a.toNat)))
  | _, _ => .fail
/-- A slice up to a capacity: the bounds alone. -/
def sliceMax (n : Nat) (lo hi : Option AV) (mx : AV) : Rd AV :=
  match lo, hi, mx with
  | some (.sc (.int _ a)), some (.sc (.int _ b)), .sc (.int _ m) => .chk (decide (0 ≤ a) && decide (a ≤ b) && decide (b ≤ m) && decide (m ≤ n)) (.ret .any)
  | _, _, _ => .fail

def bytesA (P : Program) (t : TypeId) : Nat := ((P.info? t).map (·.bytes)).getD 0
def elemA (P : Program) (t : TypeId) : Option TypeId :=
  match P.underlying t with
  | some (.slice e) => some e
  | _ => none

def sliceOk (P : Program) (T : TypeId) : AV → Bool
  | .ros _ e t _ => decide (elemA P T = some e) && decide (sizeA P e = some t.size)
  | .sc (.string _) => match P.underlying T with | some .string => true | _ => false
  | _ => false
/-- How the elements of a type are told. -/
structure Env where
  G : FuncId → Option Spec
  N : Nat
  tyOf : TypeId → Option Ty
  keep : Nat → List (Nat × Option (TypeId × Ty))
  /-- Slices that are written out are read only. -/
  lits : Bool := false

def kills (l : List Nat) : List (Nat × ABlk) := l.map fun id => (id, .dead)

/-- May rows of this type be made? -/
def rowOk (P : Program) (e : TypeId) (t : Ty) : Bool :=
  decide (sizeA P e = some t.size) && decide ((zeroA P e).map (·.length) = some t.size) && decide (0 < t.size)

def appendA (E : Env) (P : Program) (n : Nat) (s x : AV) (T : TypeId) : Rd Eff :=
  match elemA P T with
  | none => .fail
  | some e =>
    match E.tyOf e with
    | none => .fail
    | some t => cond (rowOk P e t) (
      (decS e t s).bind fun l => (decS e t x).bind fun m =>
        .chk (decide (((l.x.length + m.x.length) * bytesA P e : Nat) ≤ (140737488355328 : Nat)) && decide (l.x.length + m.x.length ≤ maxLen))
          (match s with
            | .own id => .ret ⟨.own n, [.rows (t.flat || (l.fr && m.fr)) e t (l.x ++ m.x)], [(id, .dead)]⟩
            | .osl id 0 k => cond (m.own.contains id)
                (.rd id fun
                  | .rows fr e' t' l0 => cond (decide (e' = e)) ((Rd.ofO (castL t' t l0)).bind fun l0 =>
                      .chk (decide (k + m.x.length ≤ l0.length)) (.ret ⟨.osl id 0 (k + m.x.length), [], [(id, .rows (t.flat || (fr && m.fr)) e t (l0.take k ++ m.x ++ l0.drop (k + m.x.length)))]⟩)) .fail
                  | _ => .fail)
                (.ret ⟨.own n, [.rows (t.flat || (l.fr && m.fr)) e t (l.x ++ m.x)], [(id, .dead)]⟩)
            | .sc _ => .ret ⟨.own n, [.rows (t.flat || m.fr) e t m.x], []⟩
            | .lit _ _ _ => cond t.flat (.chk (!m.x.isEmpty) (.ret ⟨.own n, [.rows true e t (l.x ++ m.x)], []⟩)) .fail
            | _ => .fail)) .fail

/-- What a map holds at a key, and a map with another entry. -/
def mfind : List (ByteArray × Int) → ByteArray → Option Int
  | [], _ => none
  | p :: r, k => bif seq k p.1 then some p.2 else mfind r k
def mset : List (ByteArray × Int) → ByteArray → Int → List (ByteArray × Int)
  | [], k, v => [(k, v)]
  | p :: r, k, v => bif seq k p.1 then (k, v) :: r else p :: mset r k v
/-- A type of maps of texts to integers. -/
def mapOk (P : Program) (T : TypeId) : Bool :=
  match P.underlying T with
  | some (.map k e) => (match P.underlying k, (P.info? e).bind (·.zero) with
    | some .string, some (.int .i64 x) => x == 0
    | _, _ => false)
  | _ => false

/-- The elements of a block between off and off + n become a value. -/
def fillL {α : Type} (l : List α) (off n : Nat) (z : α) : List α := l.take off ++ List.replicate n z ++ l.drop (off + n)
def clearA (E : Env) (P : Program) (x : AV) (T : TypeId) : Rd Eff :=
  match x, elemA P T with
  | .osl id off n, some e =>
    match zeroA P e, E.tyOf e with
    | some z, some t => cond (rowOk P e t) ((decC t z).bind fun p => cond (p.own.isEmpty && p.fr) (.rd id fun
      | .rows fr e' t' l => cond (decide (e' = e)) ((Rd.ofO (castL t' t l)).bind fun l => .ret ⟨.tup [], [], [(id, .rows fr e t (fillL l off n p.x.1))]⟩) .fail
      | _ => .fail) .fail) .fail
    | _, _ => .fail
  | _, _ => .fail

/-- slices.Insert of one element. -/
def insM (P : Program) (e : TypeId) (t : Ty) (args : List AV) (n : Nat) : Rd Eff :=
  match args with
  | [s, .sc (.int .i64 i), x] => cond (t.flat && rowOk P e t) (
      (decS e t s).bind fun l => (decS e t x).bind fun m =>
        .chk (Nat.beq m.x.length 1) (.chk (decide (0 ≤ i) && decide (i ≤ (l.x.length : Int)))
          (.chk (decide (((l.x.length + 1) * bytesA P e : Nat) ≤ (140737488355328 : Nat)) && decide (l.x.length + 1 ≤ maxLen))
            (match s, x with
            | .own id, .own id2 => cond (Nat.beq id id2) .fail (.ret ⟨.own n, [.rows true e t (l.x.take i.toNat ++ m.x ++ l.x.drop i.toNat)], [(id, .dead)]⟩)
            | _, _ => .fail)))) .fail
  | _ => .fail

def eff (E : Env) (P : Program) (o : Oper) (ρ : Operand → AV) (n : Nat) : Rd Eff :=
  match o.op with
  | .move x | .assign x => Eff.val (ρ x)
  | .pick c a b =>
    match ρ c with
    | .sc (.bool c) =>
      match ρ a, ρ b with
      | .sc (.bool x), .sc (.bool y) => Eff.val (.sc (.bool (cond c x y)))
      | u, v => cond c (Eff.val u) (Eff.val v)
    | _ => .fail
  | .alloc t =>
    match zeroA P t with
    | some cs => .ret ⟨.ptr n 0, [.cells cs t], []⟩
    | none => .fail
  | .box t x => cond (known (ρ x)) (.ret ⟨.ptr n 0, [.cells (cellsOf (ρ x)) t], []⟩) .fail
  | .build t parts =>
    match zeroA P t, placeOf P t with
    | some z, some pl =>
      match fillA pl z (parts.toList.map fun p => (p.1, ρ p.2)) with
      | some cs => Eff.val (.agg cs)
      | none => .fail
    | _, _ => .fail
  | .buildSlice T len parts =>
    match elemA P T with
    | none => .fail
    | some e =>
      match zeroA P e, sizeA P e, E.tyOf e with
      | some z, some size, some t => cond (rowOk P e t) (cond (Nat.blt 0 len) (
        match fillA (fun i => some (i * size, size)) ((List.replicate len z).flatten) (parts.toList.map fun p => (p.1, ρ p.2)) with
        | some cs => (decN t len cs).bind fun l => cond (Nat.ble (len * size) 16777216) (cond (E.lits && t.flat) (.ret ⟨.lit e t l.x, [], []⟩) (.ret ⟨.own n, [.rows (t.flat || l.fr) e t l.x], kills l.own⟩)) .fail
        | none => .fail) (cond (Nat.beq len 0 && parts.isEmpty) (.ret ⟨.own n, [.rows true e t []], []⟩) .fail)) .fail
      | _, _, _ => .fail
  | .load t a =>
    match ρ a with
    | .ptr id off => .rd id fun
      | .cells cs _ => (atA P t cs off).bind Eff.val
      | _ => .fail
    | .rop fr u x off => (atA P t (encC fr u x) off).bind Eff.val
    | .rptr id i off => .rd id fun
      | .rows fr _ u l => .chk (decide (i < l.length)) ((atA P t (encC fr u (l.getD i u.dflt)) off).bind Eff.val)
      | _ => .fail
    | _ => .fail
  | .store t a x =>
    match ρ a with
    | .ptr id off => .rd id fun
      | .cells cs T =>
        let vs := cellsOf (ρ x)
        cond (decide (sizeA P t = some vs.length) && Nat.ble (off + vs.length) cs.length && vs.all storA && known (ρ x)) (.ret ⟨.any, [], [(id, .cells (setAt cs off vs) T)]⟩) .fail
      | _ => .fail
    | .rptr id i off => .rd id fun
      | .rows fr T u l =>
        let vs := cellsOf (ρ x)
        let cs := encC fr u (l.getD i u.dflt)
        cond (decide (sizeA P t = some vs.length) && Nat.ble (off + vs.length) cs.length && vs.all storA && known (ρ x))
          (.chk (decide (i < l.length)) ((decC u (setAt cs off vs)).bind fun p => cond (p.own.contains id) .fail
            (.ret ⟨.any, [], (id, .rows (fr && p.fr) T u (l.set i p.x.1)) :: kills p.own⟩))) .fail
      | _ => .fail
    | _ => .fail
  | .nilCheck x =>
    match ρ x with
    | .ptr id off => Eff.val (.ptr id off)
    | .rop fr t x off => Eff.val (.rop fr t x off)
    | .rptr id i off => Eff.val (.rptr id i off)
    | .clo f cs => Eff.val (.clo f cs)
    | _ => .fail
  | .binOp op t x y _ =>
    match op with
    | .eql => (eqB P t x y (ρ x) (ρ y)).bind fun b => Eff.val (.sc (.bool b))
    | .neq => (eqB P t x y (ρ x) (ρ y)).bind fun b => Eff.val (.sc (.bool (!b)))
    | op => match ρ x, ρ y with
      | .sc u, .sc v => (abin op u v).bind fun r => Eff.val (.sc r)
      | _, _ => .fail
  | .unOp op _ x =>
    match op, ρ x with
    | .not, .sc (.bool b) => Eff.val (.sc (.bool (!b)))
    | .neg, .sc (.int k a) => Eff.val (.sc (.int k (k.wrap (-a))))
    | .neg, .sc (.float k a) => Eff.val (.sc (.float k (fneg k a)))
    | _, _ => .fail
  | .convert s d x =>
    match P.underlying s, P.underlying d, ρ x with
    | some (.int _), some (.int k), .sc (.int _ a) => Eff.val (.sc (.int k (k.wrap a)))
    | some .string, some .string, .sc (.string b) => Eff.val (.sc (.string b))
    | some (.int _), some (.float k), .sc (.int _ a) => Eff.val (.sc (.float k (floatOfInt k a)))
    | some (.float _), some (.int k), .sc (.float j b) => .chk (floatToIntVal j b k).isSome (Eff.val (.sc (.int k ((floatToIntVal j b k).getD 0))))
    | _, _, _ => .fail
  | .makeFunc fn first caps =>
    match fn, first.toList with
    | .func f, [] => Eff.val (.clo f (caps.toList.map ρ))
    | _, _ => .fail
  | .makeSlice T l c =>
    match elemA P T with
    | none => .fail
    | some e =>
      match zeroA P e, E.tyOf e, ρ l, ρ c with
      | some z, some t, .sc (.int _ a), .sc (.int _ b) => cond (rowOk P e t) (
        (decC t z).bind fun p => cond (p.own.isEmpty && p.fr) (.chk (decide (0 ≤ a) && (a == b) && decide (a ≤ 9223372036854775807) && decide (a * (bytesA P e : Int) ≤ 140737488355328))
          (.ret ⟨.own n, [.rows true e t (List.replicate a.toNat p.x.1)], []⟩)) .fail) .fail
      | _, _, _, _ => .fail
  | .slice T x lo hi mx =>
    match mx with
    | none =>
      match ρ x with
      | .own id => .rd id fun
        | .rows _ e t l => cond (decide (elemA P T = some e) && decide (sizeA P e = some t.size)) ((sliceOwn id 0 l.length l.length (lo.map ρ) (hi.map ρ)).bind Eff.val) .fail
        | _ => .fail
      | .osl id off n => .rd id fun
        | .rows _ e t l => cond (decide (elemA P T = some e) && decide (sizeA P e = some t.size)) ((sliceOwn id off n l.length (lo.map ρ) (hi.map ρ)).bind Eff.val) .fail
        | _ => .fail
      | v => cond (sliceOk P T v) ((sliceA v (lo.map ρ) (hi.map ρ)).bind Eff.val) .fail
    | some mx =>
      match ρ x with
      | .own id => .rd id fun
        | .rows _ e t l => cond (decide (elemA P T = some e) && decide (sizeA P e = some t.size)) ((sliceMax l.length (lo.map ρ) (hi.map ρ) (ρ mx)).bind Eff.val) .fail
        | _ => .fail
      | .osl id _ n => .rd id fun
        | .rows _ e t _ => cond (decide (elemA P T = some e) && decide (sizeA P e = some t.size)) ((sliceMax n (lo.map ρ) (hi.map ρ) (ρ mx)).bind Eff.val) .fail
        | _ => .fail
      | .ros _ e t l => cond (decide (elemA P T = some e) && decide (sizeA P e = some t.size)) ((sliceMax l.length (lo.map ρ) (hi.map ρ) (ρ mx)).bind Eff.val) .fail
      | _ => .fail
  | .fieldAddr s x f =>
    match fieldOff P s f with
    | none => .fail
    | some k => match ρ x with
      | .ptr id off => Eff.val (.ptr id (off + k))
      | .rop fr t x off => Eff.val (.rop fr t x (off + k))
      | .rptr id i off => Eff.val (.rptr id i (off + k))
      | _ => .fail
  | .field s x f =>
    match P.underlying s with
    | some (.struct fs) => match fs.toList[f]?, ρ x with
      | some g, .agg cs => (partA P g.type cs g.offset).bind Eff.val
      | _, _ => .fail
    | _ => .fail
  | .indexAddr T x i =>
    match ρ i with
    | .sc (.int _ a) =>
      match P.underlying T, ρ x with
      | some (.slice e), .ros fr _ t l => cond (decide (sizeA P e = some t.size)) (.chk (decide (0 ≤ a) && decide (a < l.length)) (Eff.val (.rop fr t (l.getD a.toNat t.dflt) 0))) .fail
      | some (.slice e), .own id => .rd id fun
        | .rows _ _ t l => cond (decide (sizeA P e = some t.size)) (.chk (decide (0 ≤ a) && decide (a < l.length)) (Eff.val (.rptr id a.toNat 0))) .fail
        | _ => .fail
      | some (.slice e), .osl id off n => .rd id fun
        | .rows _ _ t l => cond (decide (sizeA P e = some t.size)) (.chk (decide (0 ≤ a) && decide (a < n)) (Eff.val (.rptr id (off + a.toNat) 0))) .fail
        | _ => .fail
      | some (.array len e), .ptr id off =>
        match sizeA P e with
        | some s => .chk (decide (0 ≤ a) && decide (a < (len : Int))) (Eff.val (.ptr id (off + a.toNat * s)))
        | none => .fail
      | some (.array len e), .rop fr t x off =>
        match sizeA P e with
        | some s => .chk (decide (0 ≤ a) && decide (a < (len : Int))) (Eff.val (.rop fr t x (off + a.toNat * s)))
        | none => .fail
      | _, _ => .fail
    | _ => .fail
  | .index T x i =>
    match ρ i with
    | .sc (.int _ a) =>
      match P.underlying T, ρ x with
      | some .string, .sc (.string s) => .chk (decide (0 ≤ a) && decide (a < s.size)) (Eff.val (.sc (.int .u8 ((s.data.getD a.toNat 0).toNat))))
      | some (.array len e), .agg cs =>
        match sizeA P e with
        | some n => .chk (decide (0 ≤ a) && decide (a < (len : Int))) ((atA P e cs (a.toNat * n)).bind Eff.val)
        | none => .fail
      | _, _ => .fail
    | _ => .fail
  | .makeMap _ none => .ret ⟨.mp n, [.smap []], []⟩
  | .lookup T x i false =>
    match ρ x, ρ i with
    | .mp id, .sc (.string k) => cond (mapOk P T) (.rd id fun
      | .smap l => Eff.val (.sc (.int .i64 ((mfind l k).getD 0)))
      | _ => .fail) .fail
    | _, _ => .fail
  | .mapUpdate T x i v =>
    match ρ x, ρ i, ρ v with
    | .mp id, .sc (.string k), .sc (.int .i64 y) => cond (mapOk P T) (.rd id fun
      | .smap l => .ret ⟨.any, [], [(id, .smap (mset l k y))]⟩
      | _ => .fail) .fail
    | _, _, _ => .fail
  | .extract x i =>
    match ρ x with
    | .tup vs => match vs[i]? with
      | some v => Eff.val v
      | none => .fail
    | _ => .fail
  | .call { callee := .builtin b, args, argTypes } =>
    match b, args.toList.map ρ, argTypes.toList with
    | .len, [x], [t] =>
      match P.underlying t with
      | some (.slice _) => (lenA x).bind fun n => Eff.val (.sc (.int .i64 n))
      | some .string => match x with
        | .sc (.string s) => Eff.val (.sc (.int .i64 s.size))
        | _ => .fail
      | some (.array n _) => Eff.val (.sc (.int .i64 n))
      | some (.map _ _) => match x with
        | .mp id => .rd id fun
          | .smap l => Eff.val (.sc (.int .i64 l.length))
          | _ => .fail
        | _ => .fail
      | _ => .fail
    | .append, [s, x], [T, T'] => cond (Nat.beq T T') (appendA E P n s x T) .fail
    | .clear, [x], [T] => clearA E P x T
    | .min, [.sc (.int k a), .sc (.int k' b)], _ => cond (decide (k = k')) (Eff.val (.sc (.int k (if b < a then b else a)))) .fail
    | .max, [.sc (.int k a), .sc (.int k' b)], _ => cond (decide (k = k')) (Eff.val (.sc (.int k (if b > a then b else a)))) .fail
    | .max, [.sc (.int k a), .sc (.int k' b), .sc (.int k2 d)], _ => cond (decide (k = k')) (cond (decide (k = k2)) (Eff.val (.sc (.int k (if d > (if b > a then b else a) then d else (if b > a then b else a))))) .fail) .fail
    | _, _, _ => .fail
  | _ => .fail
where
  decN (t : Ty) : Nat → List AV → Rd (Dec (List t.den))
    | 0, [] => .ret ⟨[], true, []⟩
    | 0, _ => .fail
    | n + 1, cs => (decC t cs).bind fun p => (decN t n p.x.2).bind fun l => .ret ⟨p.x.1 :: l.x, p.fr && l.fr, p.own ++ l.own⟩

end Go.Proofs.YtbjanflhagkhlaaDoor.Sk
