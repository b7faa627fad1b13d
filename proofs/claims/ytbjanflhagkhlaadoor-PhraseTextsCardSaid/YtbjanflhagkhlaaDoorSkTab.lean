/- SK, part 23: tables for the printed texts. -/
import Derived.Test.YtbjanflhagkhlaaDoorSkRow
import Derived.Test.YtbjanflhagkhlaaDoorRows
set_option linter.unusedVariables false
namespace Go.Proofs.YtbjanflhagkhlaaDoor.Sk
open Go

/-- More rounds than any slice has elements. -/
def NN : Nat := 18446744073709551616
abbrev w (x : Int) : Int := IntKind.wrap .i64 x
def vl (n : Nat) (v : List Int) : List Int := (List.range n).map fun i => List.getD v i 0

def tab : List (Nat × Spec) → FuncId → Option Spec
  | [], _ => none
  | (g, s) :: r, f => cond (Nat.beq g f) (some s) (tab r f)
def tyOf : List (Nat × Ty) → TypeId → Option Ty
  | [], _ => none
  | (g, s) :: r, f => cond (Nat.beq g f) (some s) (tyOf r f)
def kpOf : List (Nat × List (Nat × Option (TypeId × Ty))) → Nat → List (Nat × Option (TypeId × Ty))
  | [], _ => []
  | (g, s) :: r, f => cond (Nat.beq g f) s (kpOf r f)
def mkEnv (G : List (Nat × Spec)) (N : Nat) (ty : TypeId → Option Ty) (kp : List (Nat × List (Nat × Option (TypeId × Ty)))) (lits : Bool := false) : Env := ⟨tab G, N, ty, kpOf kp, lits⟩

def TabOk (P : Program) : List (Nat × Spec) → Prop
  | [] => True
  | (f, .pure s) :: r => (Enters P f ∧ Sound P f s) ∧ TabOk P r
  | (f, .inl fn) :: r => (Enters P f ∧ P.funcs[f]? = some fn) ∧ TabOk P r
  | (f, .mac m) :: r => ((Enters P f ∧ MacOk P f m) ∨ ExtOk P f m) ∧ TabOk P r

theorem pure_tab {P : Program} : ∀ {G : List (Nat × Spec)}, TabOk P G → ∀ f s, tab G f = some (.pure s) → Enters P f ∧ Sound P f s
  | [], _, f, s, h => by cases h
  | (g, sp) :: r, ht, f, s, h => by
    have h : cond (Nat.beq g f) (some sp) (tab r f) = some (.pure s) := h
    have hr : TabOk P r := by cases sp <;> exact ht.2
    cases hb : Nat.beq g f with
    | true =>
      rw [hb] at h
      cases h
      have := Nat.eq_of_beq_eq_true hb
      subst this
      exact ht.1
    | false => rw [hb] at h; exact pure_tab hr f s h
theorem mac_tab {P : Program} : ∀ {G : List (Nat × Spec)}, TabOk P G → ∀ f m, tab G f = some (.mac m) → (Enters P f ∧ MacOk P f m) ∨ ExtOk P f m
  | [], _, f, s, h => by cases h
  | (g, sp) :: r, ht, f, s, h => by
    have h : cond (Nat.beq g f) (some sp) (tab r f) = some (.mac s) := h
    have hr : TabOk P r := by cases sp <;> exact ht.2
    cases hb : Nat.beq g f with
    | true =>
      rw [hb] at h
      cases h
      have := Nat.eq_of_beq_eq_true hb
      subst this
      exact ht.1
    | false => rw [hb] at h; exact mac_tab hr f s h
theorem inl_tab {P : Program} : ∀ {G : List (Nat × Spec)}, TabOk P G → ∀ f fn, tab G f = some (.inl fn) → Enters P f ∧ P.funcs[f]? = some fn
  | [], _, f, s, h => by cases h
  | (g, sp) :: r, ht, f, s, h => by
    have h : cond (Nat.beq g f) (some sp) (tab r f) = some (.inl s) := h
    have hr : TabOk P r := by cases sp <;> exact ht.2
    cases hb : Nat.beq g f with
    | true =>
      rw [hb] at h
      cases h
      have := Nat.eq_of_beq_eq_true hb
      subst this
      exact ht.1
    | false => rw [hb] at h; exact inl_tab hr f s h
theorem specs_tab {P : Program} {N : Nat} {ty : TypeId → Option Ty} {kp : List (Nat × List (Nat × Option (TypeId × Ty)))} {G : List (Nat × Spec)} {lits : Bool} (h : TabOk P G) : SpecsOk P (mkEnv G N ty kp lits) := ⟨pure_tab h, mac_tab h⟩
theorem inls_tab {P : Program} {N : Nat} {ty : TypeId → Option Ty} {kp : List (Nat × List (Nat × Option (TypeId × Ty)))} {G : List (Nat × Spec)} {lits : Bool} (h : TabOk P G) : InlOk P (mkEnv G N ty kp lits) := inl_tab h

/-! ### places in code, and what comes behind -/
def bodyOf (fn : Func) : Code := match fn.body with | some c => c | none => .skip
def codeAt : Code → List Nat → Code
  | c, [] => c
  | .seq a b, i :: p => cond (Nat.beq i 0) (codeAt a p) (codeAt b p)
  | .cond _ a b, i :: p => cond (Nat.beq i 0) (codeAt a p) (codeAt b p)
  | .block _ c, _ :: p => codeAt c p
  | .loop c, _ :: p => codeAt c p
  | .rangeFunc _ _ a b, i :: p => cond (Nat.beq i 0) (codeAt a p) (codeAt b p)
  | c, _ => c
def rfP : Code → Array Tmp
  | .rangeFunc _ ps _ _ => ps
  | _ => #[]
def rfA : Code → Code
  | .rangeFunc _ _ a _ => a
  | c => c
def rfB : Code → Code
  | .rangeFunc _ _ _ b => b
  | c => c
def opsAt : Code → List Oper
  | .region _ ops _ => ops.toList
  | _ => []
def loopK {R : Type} (nrm : St → St) (body : St → (Ex → St → Option R) → Option R) (k : Nat) (K : Ex → St → Option R) : Ex → St → Option R := fun e S' =>
  match e with
  | .normal => loopN nrm body k (nrm S') K
  | .exit j => K (.exit j) S'
  | .ret => K .ret S'
def endK (P : Program) (fn : Func) (res : List RT) : Ex → St → Option (denL (res.map RT.ty)) :=
  retK P fn fun vs hp => (decRes res vs).runK (lookIn hp) [] fun r _ => cond (nodup r.own && disj r.own r.sh && r.fr) (some r.x) none
end Go.Proofs.YtbjanflhagkhlaaDoor.Sk
