/- SK, part 2: the interpreter of code. -/
import Derived.Test.YtbjanflhagkhlaaDoorSkGlob
namespace Go.Proofs.YtbjanflhagkhlaaDoor.Sk
open Go

namespace St
def ev (S : St) : Operand → AV
  | .tmp t => (S.tm[t]?).getD .any
  | .const v => ofV v
  | .global g => match glob g with
    | some ⟨t, x⟩ => .rop false t x 0
    | none => .any
  | .func f => .clo f []
def put (S : St) (d : Option Tmp) (v : AV) : St :=
  match d with
  | some t => ⟨S.tm.set t v, S.hp⟩
  | none => S
end St
/-- The first of two changes of one block counts. -/
def updAll : List ABlk → List (Nat × ABlk) → List ABlk
  | hp, [] => hp
  | hp, (i, b) :: r => (updAll hp r).set i b
def St.app (S : St) (d : Option Tmp) (e : Eff) : St := (St.mk S.tm (updAll (S.hp ++ e.news) e.upd)).put d e.v

/-- What is called: a function, or a round of a loop. -/
inductive Tgt where
  | fn (f : FuncId)
  | yl (tm : List AV) (ps : Array Tmp) (asg body : Code)
abbrev CallK (R : Type) := Tgt → List AV → List ABlk → (AV → List ABlk → Option R) → Option R

mutual
/-- No loop's round is named. -/
def noYl : AV → Bool
  | .yl _ _ _ _ => false
  | .clo _ cs => noYlL cs
  | .agg cs => noYlL cs
  | .tup cs => noYlL cs
  | .gd _ v => noYl v
  | _ => true
def noYlL : List AV → Bool
  | [] => true
  | v :: r => noYl v && noYlL r
end
def noYlB : ABlk → Bool
  | .cells cs _ => noYlL cs
  | _ => true
def noYlH : List ABlk → Bool
  | [] => true
  | b :: r => noYlB b && noYlH r
def noRange : Code → Bool
  | .seq a b => noRange a && noRange b
  | .cond _ a b => noRange a && noRange b
  | .block _ c => noRange c
  | .loop c => noRange c
  | .scope c => noRange c
  | .rangeFunc _ _ _ _ => false
  | _ => true
def setAll : List Tmp → List AV → List AV → List AV
  | p :: ps, v :: vs, tm => setAll ps vs (tm.set p v)
  | _, _, tm => tm

/-! ### values that are there under a guard -/
def strip : AV → AV
  | .gd _ v => v
  | v => v
def needOf : AV → List Bool
  | .gd b _ => [b]
  | _ => []
def boolOf : AV → Bool
  | .sc (.bool b) => b
  | _ => false
/-- What must hold that an operation may look at its operands. -/
def needs (ρ : Operand → AV) : Op → List Bool
  | .pick c a b => needOf (ρ c) ++ (needOf (ρ a)).map (fun q => !boolOf (strip (ρ c)) || q) ++ (needOf (ρ b)).map (fun q => boolOf (strip (ρ c)) || q)
  | op => op.operands.toList.flatMap fun x => needOf (ρ x)
def St.evs (S : St) (x : Operand) : AV := strip (S.ev x)
def chkAll {R : Type} : List Bool → Option R → Option R
  | [], k => k
  | b :: r, k => cond b (chkAll r k) none
/-- Operations that change nothing. -/
def stillOp : Op → Bool
  | .move _ | .assign _ | .pick _ _ _ | .build _ _ | .load _ _ | .nilCheck _ | .binOp _ _ _ _ _ | .unOp _ _ _ | .convert _ _ _ | .makeFunc _ _ _ | .slice _ _ _ _ _
  | .fieldAddr _ _ _ | .field _ _ _ | .indexAddr _ _ _ | .index _ _ _ | .extract _ _ => true
  | .call { callee := .builtin .len, .. } => true
  | .call { callee := .builtin .min, .. } => true
  | .call { callee := .builtin .max, .. } => true
  | _ => false

/-- Both ways, where they answer alike. -/
noncomputable def agree {R : Type} (a b : Option R) : Option R := @ite _ (a = b) (Classical.propDecidable _) a none
theorem agree_self {R : Type} (a : Option R) : agree a a = a := by unfold agree; rw [if_pos rfl]
/-- May the slice be nil? (none: no such test.) -/
def mayNil (P : Program) (t : TypeId) (x y : AV) (hp : List ABlk) : Option Bool :=
  match P.underlying t with
  | some (.slice _) => match x, y with
    | .ros _ _ _ l, .sc (.slice none _ _) => some l.isEmpty
    | .own id, .sc (.slice none _ _) => match lookIn hp id with | .rows _ _ _ l => some l.isEmpty | _ => none
    | _, _ => none
  | _ => none
def unkB (P : Program) (S : St) : Op → Option (Bool × Bool)
  | .binOp op t x y _ =>
    match op with
    | .eql => (mayNil P t (S.evs x) (S.evs y) S.hp).map fun e => (e, false)
    | .neq => (mayNil P t (S.evs x) (S.evs y) S.hp).map fun e => (e, true)
    | _ => none
  | _ => none

section
variable {R : Type}

noncomputable def opK (E : Env) (P : Program) (call : CallK R) (o : Oper) (S : St) (K : St → Option R) : Option R :=
  chkAll (needs S.ev o.op) (match o.op with
  | .call { callee := .value f, args, .. } =>
    match S.evs f with
    | .clo g caps => call (.fn g) (args.toList.map S.evs ++ caps) S.hp fun v hp => K ((St.mk S.tm hp).put o.dst v)
    | .yl tm ps asg body => call (.yl tm ps asg body) (args.toList.map S.evs) S.hp fun v hp => K ((St.mk S.tm hp).put o.dst v)
    | _ => none
  | op => match unkB P S op with
    | some (e, neg) => cond e (agree (K (S.app o.dst ⟨.sc (.bool true), [], []⟩)) (K (S.app o.dst ⟨.sc (.bool false), [], []⟩))) (K (S.app o.dst ⟨.sc (.bool neg), [], []⟩))
    | none => (eff E P o S.evs S.hp.length).runK (lookIn S.hp) [] fun e _ => K (S.app o.dst e))

/-- May an operation be looked at before one knows whether it is done? -/
def still0 (E : Env) (S : St) (o : Oper) : Bool :=
  match o.op with
  | .call { callee := .value f, .. } =>
    match S.evs f with
    | .clo g _ =>
      match E.G g with
      | some (.pure s) => !hasOwn s.res
      | _ => false
    | _ => false
  | op => stillOp op

/-- (A function with the key 999999 in 'keep' splits on each guard.) -/
def still (E : Env) (S : St) (o : Oper) : Bool := (E.keep 999999).isEmpty && still0 E S o

/-- An operation under a guard. -/
def effG (E : Env) (P : Program) (g : Bool) (o : Oper) (S : St) (n : Nat) (K : Eff → List Nat → Option R) : Option R :=
  chkAll ((needs S.ev o.op).map fun q => !g || q) (match o.op with
  | .call { callee := .value f, args, .. } =>
    match S.evs f with
    | .clo h caps =>
      match E.G h with
      | some (.pure s) => ((decArgs s.arg (args.toList.map S.evs ++ caps)).under g).runK (lookIn S.hp) [] fun xs log =>
          cond ((s.ali && !xs.own.isEmpty) || hasOwn s.res) none ((cond g (s.fn xs.x) (some (dfltL s.res))).bind fun r => K ⟨.gd g (tupOf (encRes (!s.ali || xs.fr) n s.res r).1), [], []⟩ log)
      | _ => none
    | _ => none
  | _ => ((eff E P o S.evs n).under g).runK (lookIn S.hp) [] fun e log => cond (e.news.isEmpty && e.upd.isEmpty) (K ⟨.gd g e.v, [], []⟩ log) none)

/-- Where an operation's answer lies. -/
def dstOf (ops : List Oper) (j : Nat) : Option Tmp := (ops[j]?).bind (·.dst)

def litB (S : St) (t : Tmp) (b : Bool) : St := S.put (some t) (.sc (.bool b))
def wantB : Bool → Bool → Bool
  | true, b => b
  | false, b => !b

/-- kn: the guards on which one has split. -/
noncomputable def reg (E : Env) (P : Program) (call : CallK R) (ops : List Oper) : List Nat → List Oper → St → (St → Option R) → Option R
  | _, [], S, K => K S
  | kn, o :: r, S, K =>
    match o.guard with
    | none => opK E P call o S fun S' => reg E P call ops kn r S' K
    | some (j, want) =>
      match dstOf ops j with
      | none => none
      | some t =>
        let yes := fun S1 => opK E P call o S1 fun S' => reg E P call ops (t :: kn) r S' K
        let no := fun (S1 : St) => reg E P call ops (t :: kn) r (S1.put o.dst (.sc undef)) K
        let may := fun (g : Bool) => effG E P g o S S.hp.length fun e _ => reg E P call ops kn r (S.app o.dst e) K
        match S.ev (.tmp t) with
        | .sc (.bool b) =>
          cond (still E S o && !kn.contains t) (may (wantB want b)) (match want with
          | true => cond b (yes (litB S t true)) (no (litB S t false))
          | false => cond b (no (litB S t true)) (yes (litB S t false)))
        | .gd q (.sc (.bool b)) => cond (still E S o) (may (q && wantB want b)) none
        | .sc _ => no S
        | _ => none

/-- The state, looked at once. -/
def St.force {α : Type} (S : St) (f : St → α) : α := match S with | ⟨tm, hp⟩ => f ⟨tm, hp⟩
theorem St.force_eq {α : Type} (S : St) (f : St → α) : S.force f = f S := by cases S; rfl
/-! ### regions that draw their order -/
def bindsA (e : Edge) : Bool := Region.binds .any e
/-- (Sets of numbers are told by bits.) -/
def maskE (acc : List Nat) : List Edge → Nat
  | [] => 0
  | e :: r => Nat.lor (Nat.lor (Nat.shiftLeft 1 e.on) (acc.getD e.on 0)) (maskE acc r)
def befores : List Oper → List Nat → List Nat
  | [], acc => acc
  | o :: r, acc => befores r (acc ++ [maskE acc (o.after.toList.filter bindsA)])
/-- What an operation looked at, and what it wrote. -/
structure Ent where
  dst : Option Nat
  looks : List Nat
  reads : List Nat
  writes : List Nat
def tmpsOf (l : List Operand) : List Nat := l.filterMap fun | .tmp t => some t | _ => none
def disj (a b : List Nat) : Bool := a.all fun x => !b.contains x
/-- The temps that an operation may look at, and the one that it writes. -/
def looksOf (ops : List Oper) (o : Oper) : List Nat :=
  (match o.guard with | some (j, _) => (match dstOf ops j with | some t => [t] | none => []) | none => []) ++ tmpsOf o.op.operands.toList
def maskL : List Nat → Nat
  | [] => 0
  | t :: r => Nat.lor (Nat.shiftLeft 1 t) (maskL r)
structure Stat where
  dst : Option Nat
  looks : Nat
def statOf (ops : List Oper) (o : Oper) : Stat := ⟨o.dst, maskL (looksOf ops o)⟩
def optNe : Option Nat → Nat → Bool
  | some x, d => !Nat.beq x d
  | none, _ => true
def stat2 (x y : Stat) : Bool :=
  (match x.dst with | some d => !Nat.testBit y.looks d && optNe y.dst d | none => true) &&
  (match y.dst with | some d => !Nat.testBit x.looks d | none => true)
def statAll (m : Nat) (y : Stat) : Nat → List Stat → Bool
  | _, [] => true
  | i, x :: r => (Nat.testBit m i || stat2 x y) && statAll m y (i + 1) r
def statOk (T : List Nat) : Nat → List Stat → List Stat → Bool
  | _, _, [] => true
  | j, acc, y :: r => statAll (T.getD j 0) y 0 acc && statOk T (j + 1) (acc ++ [y]) r
/-- What an operation did with memory. -/
structure HEnt where
  i : Nat
  reads : List Nat
  writes : List Nat
def hind (r w r' w' : List Nat) : Bool := disj w r' && disj w' r && disj w w'
def hpAll (m : Nat) (r' w' : List Nat) : List HEnt → Bool
  | [] => true
  | h :: q => (Nat.testBit m h.i || hind h.reads h.writes r' w') && hpAll m r' w' q
/-- acc: the entries of the operations ahead, in their order. -/
def effC (E : Env) (P : Program) (o : Oper) (S : St) (n : Nat) (K : Eff → List Nat → Option R) : Option R :=
  chkAll (needs S.ev o.op) (match o.op with
  | .call { callee := .value f, args, .. } =>
    match S.evs f with
    | .clo g caps =>
      match E.G g with
      | some (.pure s) => (decArgs s.arg (args.toList.map S.evs ++ caps)).runK (lookIn S.hp) [] fun xs log =>
          cond (s.ali && !xs.own.isEmpty) none ((s.fn xs.x).bind fun r => let q := encRes (!s.ali || xs.fr) n s.res r; K ⟨tupOf q.1, q.2, []⟩ log)
      | some (.mac m) => (m (args.toList.map S.evs ++ caps) n).runK (lookIn S.hp) [] K
      | _ => none
    | _ => none
  | _ => (eff E P o S.evs n).runK (lookIn S.hp) [] K)

def numbered : Nat → List ABlk → List (Nat × ABlk)
  | _, [] => []
  | n, b :: r => (n, b) :: numbered (n + 1) r
def St.appD (S : St) (n : Nat) (d : Option Tmp) (e : Eff) : St := (St.mk S.tm (updAll S.hp (e.upd ++ numbered n e.news))).put d e.v
/-- Each operation waits for operations ahead of it alone. -/
def edgesOk : Nat → List Oper → Bool
  | _, [] => true
  | i, o :: r => (o.after.toList.filter bindsA).all (fun e => Nat.blt e.on i) && edgesOk (i + 1) r

def writesOf (n : Nat) (e : Eff) : List Nat := (List.range e.news.length).map (n + ·) ++ e.upd.map (·.1)
def entOf (o : Oper) (n : Nat) (looks : List Nat) (e : Eff) (log : List Nat) : Ent := ⟨o.dst, looks, log, writesOf n e⟩

def regD (E : Env) (P : Program) (ops : List Oper) (T : List Nat) (base : Nat) : List Nat → Nat → List Oper → List HEnt → St → (St → Option R) → Option R
  | _, _, [], _, S, K => K S
  | kn, i, o :: r, acc, S, K =>
    let n := base + 3 * i
    let go := fun (kn : List Nat) (S1 : St) (e : Eff) (log : List Nat) =>
      cond (Nat.ble e.news.length 3) ((S1.appD n o.dst e).force fun S2 =>
        cond (log.isEmpty && e.news.isEmpty && e.upd.isEmpty) (regD E P ops T base kn (i + 1) r acc S2 K)
          (cond (hpAll (T.getD i 0) log (writesOf n e) acc) (regD E P ops T base kn (i + 1) r (acc ++ [⟨i, log, writesOf n e⟩]) S2 K) none)) none
    let yes := fun (kn : List Nat) (S1 : St) => effC E P o S1 n fun e log => go kn S1 e log
    let no := fun (kn : List Nat) (S1 : St) => go kn S1 ⟨.sc undef, [], []⟩ []
    let may := fun (q : Bool) => effG E P q o S n fun e log => go kn S e log
    match o.guard with
    | none => yes kn S
    | some (j, want) =>
      match dstOf ops j with
      | none => none
      | some t =>
        match S.ev (.tmp t) with
        | .sc (.bool b) =>
          cond (still E S o && !kn.contains t) (may (wantB want b)) (match want with
          | true => cond b (yes (t :: kn) (litB S t true)) (no (t :: kn) (litB S t false))
          | false => cond b (no (t :: kn) (litB S t true)) (yes (t :: kn) (litB S t false)))
        | .gd q (.sc (.bool b)) => cond (still E S o) (may (q && wantB want b)) none
        | .sc _ => no kn S
        | _ => none

noncomputable def region (E : Env) (P : Program) (call : CallK R) (ops : List Oper) (draw : Bool) (S : St) (K : St → Option R) : Option R :=
  match draw with
  | false => reg E P call ops [] ops S K
  | true => cond (edgesOk 0 ops && statOk (befores ops []) 0 [] (ops.map (statOf ops))) (regD E P ops (befores ops []) S.hp.length [] 0 ops [] ⟨S.tm, S.hp ++ List.replicate (3 * ops.length) .dead⟩ K) none

/-! ### what is forgotten at a loop's head -/
mutual
def idsOf : AV → List Nat
  | .ptr id _ => [id]
  | .own id => [id]
  | .osl id _ _ => [id]
  | .rptr id _ _ => [id]
  | .mp id => [id]
  | .clo _ cs => idsOfL cs
  | .yl tm _ _ _ => idsOfL tm
  | .agg cs => idsOfL cs
  | .tup cs => idsOfL cs
  | .gd _ v => idsOf v
  | _ => []
def idsOfL : List AV → List Nat
  | [] => []
  | v :: r => idsOf v ++ idsOfL r
end
def idsOfB : ABlk → List Nat
  | .cells cs _ => idsOfL cs
  | _ => []
mutual
/-- A place that has no new name: the value is forgotten. -/
def renV (r : Nat → Option Nat) : AV → AV
  | .ptr id off => match r id with | some j => .ptr j off | none => .any
  | .own id => match r id with | some j => .own j | none => .any
  | .osl id off n => match r id with | some j => .osl j off n | none => .any
  | .rptr id i off => match r id with | some j => .rptr j i off | none => .any
  | .mp id => match r id with | some j => .mp j | none => .any
  | .clo f cs => .clo f (renL r cs)
  | .yl tm ps a b => .yl (renL r tm) ps a b
  | .agg cs => .agg (renL r cs)
  | .tup cs => .tup (renL r cs)
  | .gd b v => .gd b (renV r v)
  | v => v
def renL (r : Nat → Option Nat) : List AV → List AV
  | [] => []
  | v :: l => renV r v :: renL r l
end
def renB (r : Nat → Option Nat) : ABlk → ABlk
  | .cells cs T => .cells (renL r cs) T
  | b => b
/-- The blocks that are reached, each once, in the order in which they are met. -/
def visit (hp : List ABlk) : Nat → List Nat → List Nat → List Nat
  | 0, _, seen => seen
  | _, [], seen => seen
  | f + 1, id :: todo, seen =>
    cond (seen.contains id) (visit hp f todo seen) (visit hp f (idsOfB (lookIn hp id) ++ todo) (seen ++ [id]))
def posOf : List Nat → Nat → Nat → Option Nat
  | [], _, _ => none
  | x :: r, id, n => cond (Nat.beq x id) (some n) (posOf r id (n + 1))
def keepT (ks : List (Nat × Option (TypeId × Ty))) : Nat → List AV → List ABlk → List AV × List ABlk
  | _, [], hp => ([], hp)
  | i, v :: r, hp =>
    match ks.find? (fun k => Nat.beq k.1 i) with
    | none => let q := keepT ks (i + 1) r hp; (.any :: q.1, q.2)
    | some (_, none) => let q := keepT ks (i + 1) r hp; (v :: q.1, q.2)
    | some (_, some (e, t)) =>
      match v with
      | .sc (.slice none 0 0) =>
        cond (Nat.blt 0 t.size) (let q := keepT ks (i + 1) r (hp ++ [.rows true e t []]); (.own hp.length :: q.1, q.2)) (let q := keepT ks (i + 1) r hp; (v :: q.1, q.2))
      | .own id =>
        cond (Nat.beq t.size 0) (match lookIn hp id with
          | .rows fr T t' l => let q := keepT ks (i + 1) r (hp.set id .dead ++ [.rows fr T t' l]); (.own hp.length :: q.1, q.2)
          | _ => let q := keepT ks (i + 1) r hp; (v :: q.1, q.2)) (let q := keepT ks (i + 1) r hp; (v :: q.1, q.2))
      | v => let q := keepT ks (i + 1) r hp; (v :: q.1, q.2)
/-- Where a key of keepH points: above a billion thousands the block and the cell; else the temp that points to the block, and the cell. -/
def locH (k : Nat) (tm : List AV) : Option (Nat × Nat) :=
  cond (Nat.ble 1000000000000 k) (some (k % 1000000, k / 1000000 % 1000000)) (match tm[k % 1000000]? with
    | some (.ptr id off) => some (id, off + (k / 1000000 - 1))
    | _ => none)
/-- Cells that hold no slice yet: an empty one of one's own; of a type without cells: what the cell holds is forgotten. -/
def keepH : List (Nat × Option (TypeId × Ty)) → List AV → List ABlk → List ABlk
  | [], _, hp => hp
  | (_, none) :: r, tm, hp => keepH r tm hp
  | (k, some (e, t)) :: r, tm, hp =>
    cond (Nat.ble 1000000 k && Nat.blt 0 t.size) (match locH k tm with
      | some (id, j) =>
        match lookIn hp id with
        | .cells cs T =>
          match cs[j]? with
          | some (.sc (.slice none 0 0)) => keepH r tm ((hp ++ [ABlk.rows true e t []]).set id (.cells (cs.set j (.own hp.length)) T))
          | _ => keepH r tm hp
        | _ => keepH r tm hp
      | _ => keepH r tm hp) (cond (Nat.ble 1000000 k && Nat.beq t.size 0) (match locH k tm with
      | some (id, j) =>
        match lookIn hp id with
        | .cells cs T => keepH r tm (hp.set id (.cells (cs.set j .any) T))
        | _ => keepH r tm hp
      | _ => keepH r tm hp) (keepH r tm hp))
def newName (lo : Nat) (seen : List Nat) (id : Nat) : Option Nat := cond (Nat.blt id lo) (some id) (posOf seen id lo)
def renSt (lo : Nat) (seen : List Nat) (tm : List AV) (hp : List ABlk) : St :=
  ⟨renL (newName lo seen) tm, (hp.take lo).map (renB (newName lo seen)) ++ seen.map fun id => renB (newName lo seen) (lookIn hp id)⟩
def seenOf (lo : Nat) (tm : List AV) (hp : List ABlk) : List Nat :=
  (visit hp (1000 + 20 * hp.length) (idsOfL tm ++ (hp.take lo).flatMap idsOfB) []).filter fun id => Nat.ble lo id
def norm (ks : List (Nat × Option (TypeId × Ty))) (lo : Nat) (S : St) : St :=
  let p := keepT ks 0 S.tm S.hp
  let hp := keepH ks p.1 p.2
  renSt lo (seenOf lo p.1 hp) p.1 hp

/-- What is forgotten where ways meet again. (The fuel keeps Lean from unfolding what comes behind.) -/
def fuelK {R : Type} : Nat → Option R → Option R
  | 0, _ => none
  | _ + 1, k => k
theorem fuelK_some {R : Type} {n : Nat} {k : Option R} {x : R} (h : fuelK n k = some x) : k = some x := by
  cases n with
  | zero => cases h
  | succ n => exact h
theorem fuelK_eq {R : Type} {n m : Nat} (h : n = m + 1) (k : Option R) : fuelK n k = k := by subst h; rfl
def joinR {R : Type} (E : Env) (lo : Nat) (S : St) (k : St → Option R) : List (Nat × Option (TypeId × Ty)) → Option R
  | [] => k S
  | x :: ks => fuelK E.N (k (norm (x :: ks) lo S))

/-! ### code -/
inductive Ex where
  | normal
  | exit (id : Nat)
  | ret
/-- The number by which a loop is known: its first region's. -/
def keyOf : Code → Nat
  | .region id _ _ => id
  | .seq a _ => keyOf a
  | .block _ c => keyOf c
  | .loop c => keyOf c
  | .scope c => keyOf c
  | _ => 0

def loopN (nrm : St → St) (body : St → (Ex → St → Option R) → Option R) : Nat → St → (Ex → St → Option R) → Option R
  | 0, _, _ => none
  | k + 1, S, K => body S fun e S' =>
    match e with
    | .normal => loopN nrm body k (nrm S') K
    | .exit j => K (.exit j) S'
    | .ret => K .ret S'

def seqK (k : St → (Ex → St → Option R) → Option R) (K : Ex → St → Option R) : Ex → St → Option R := fun e S =>
  match e with
  | .normal => k S K
  | .exit j => K (.exit j) S
  | .ret => K .ret S
def blockK (id : Nat) (K : Ex → St → Option R) : Ex → St → Option R := fun e S =>
  match e with
  | .normal => K .normal S
  | .exit j => cond (Nat.beq j id) (K .normal S) (K (.exit j) S)
  | .ret => K .ret S

def rangeE (tm : List AV) (K : Ex → St → Option R) : AV → List ABlk → Option R := fun _ hp => cond (noYlH hp) (K .normal ⟨tm, hp⟩) none
def rangeK (S : St) (f : St → Option R) : Option R := f S

noncomputable def ev (E : Env) (P : Program) (call : CallK R) (lo : Nat) : Code → St → (Ex → St → Option R) → Option R
  | .skip, S, K => K .normal S
  | .label _, S, K => K .normal S
  | .seq a b, S, K => ev E P call lo a S (seqK (ev E P call lo b) K)
  | .cond c a b, S, K =>
    match S.evs c with
    | .sc (.bool x) => chkAll (needOf (S.ev c)) (cond x (ev E P call lo a S K) (ev E P call lo b S K))
    | _ => none
  | .block id c, S, K => ev E P call lo c S (blockK id K)
  | .loop c, S, K => loopN (norm (E.keep (keyOf c)) lo) (ev E P call lo c) E.N (norm (E.keep (keyOf c)) lo S) K
  | .exit id, S, K => K (.exit id) S
  | .ret, S, K => K .ret S
  | .region id ops draw, S, K => joinR E lo S (fun S => region E P call ops.toList draw S fun S' => K .normal S') (E.keep (1000000 + id))
  | .rangeFunc g ps asg body, S, K => rangeK (norm (E.keep (2000000 + keyOf asg)) lo S) fun S =>
    match S.evs g with
    | .clo f caps => chkAll (needOf (S.ev g)) (cond (noYlL S.tm && noYlH S.hp) (call (.fn f) (.yl S.tm ps asg body :: caps) S.hp (rangeE S.tm K)) none)
    | _ => none
  | _, _, _ => none

/-! ### calls -/
def enterT (fn : Func) (args : List AV) : List AV := args ++ List.replicate (fn.ntmps - args.length) .any

def loadA (P : Program) (t : TypeId) : AV → Rd AV
  | .ptr id off => .rd id fun
    | .cells cs _ => partA P t cs off
    | _ => .fail
  | _ => .fail
def resA (P : Program) (S : St) : List ResultVar → Rd (List AV)
  | [] => .ret []
  | .tmp t :: r => (resA P S r).bind fun l => .ret (S.ev (.tmp t) :: l)
  | .cell a t :: r => (loadA P t (S.ev (.tmp a))).bind fun v => (resA P S r).bind fun l => .ret (v :: l)

/-- Results that are parts of blocks of one's own become blocks of their own. -/
def tidy : List AV → List ABlk → List AV × List ABlk
  | [], hp => ([], hp)
  | v :: r, hp =>
    match v with
    | .osl id 0 n =>
      match lookIn hp id with
      | .rows fr T t l => let q := tidy r ((hp ++ [ABlk.rows fr T t (l.take n)]).set id ABlk.dead); (.own hp.length :: q.1, q.2)
      | _ => let q := tidy r hp; (v :: q.1, q.2)
    | _ => let q := tidy r hp; (v :: q.1, q.2)

def retK (P : Program) (fn : Func) (K : List AV → List ABlk → Option R) : Ex → St → Option R := fun e S =>
  match e with
  | .exit _ => none
  | _ => (resA P S fn.results.toList).runK (lookIn S.hp) [] fun vs _ => let q := tidy vs S.hp; K q.1 q.2

/-- Behind a round's body, and behind what a round is given. -/
def rndB (K : AV → List ABlk → Option R) : Ex → St → Option R := fun e S =>
  match e with
  | .normal => cond (noYlH S.hp) (K (.sc (.bool true)) S.hp) none
  | _ => none
def rndA (k : St → (Ex → St → Option R) → Option R) (K : AV → List ABlk → Option R) : Ex → St → Option R := fun e S =>
  match e with
  | .normal => cond (noYlL S.tm && noYlH S.hp) (k S (rndB K)) none
  | _ => none

noncomputable def callD (E : Env) (P : Program) : Nat → CallK R
  | 0 => fun _ _ _ _ => none
  | d + 1 => fun q args hp K =>
    match q with
    | .yl tm ps asg body =>
      cond (noRange asg && noRange body && (noYlL tm && noYlL args && noYlH hp) && Nat.beq args.length ps.size)
        (ev E P (callD E P d) hp.length asg ⟨setAll ps.toList args tm, hp⟩ (rndA (ev E P (callD E P d) hp.length body) K)) none
    | .fn f =>
    match E.G f with
    | none => none
    | some (.pure s) => (decArgs s.arg args).runK (lookIn hp) [] fun xs _ =>
        cond (s.ali && !xs.own.isEmpty) none ((s.fn xs.x).bind fun r => let q := encRes (!s.ali || xs.fr) hp.length s.res r; K (tupOf q.1) (hp ++ q.2))
    | some (.mac m) => (m args hp.length).runK (lookIn hp) [] fun e _ => K e.v (updAll (hp ++ e.news) e.upd)
    | some (.inl fn) =>
      match fn.body with
      | none => none
      | some c => ev E P (callD E P d) hp.length c ⟨enterT fn args, hp⟩ (retK P fn fun vs hp' => K (tupOf vs) hp')
end

def nodup : List Nat → Bool
  | [] => true
  | x :: r => !r.contains x && nodup r

/-- What a function answers. -/
noncomputable def evFn (E : Env) (P : Program) (d : Nat) (fn : Func) (ali : Bool) (arg : List VT) (res : List RT) (xs : denL (arg.map VT.ty)) : Option (denL (res.map RT.ty)) :=
  match fn.body with
  | none => none
  | some c => ev E P (callD E P d) 0 c ⟨enterT fn (encArgs ali arg xs), []⟩
      (retK P fn fun vs hp => (decRes res vs).runK (lookIn hp) [] fun r _ => cond (nodup r.own && disj r.own r.sh && r.fr) (some r.x) none)

end Go.Proofs.YtbjanflhagkhlaaDoor.Sk
