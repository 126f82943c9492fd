/- D, part 11: the evaluator of code; one operation. -/
import Derived.Test.YtpfhmnmpiagnnaaGreatDoorD10
import Derived.LoopNIn
import Derived.OwnWalkIn
import Derived.OrdersIn
import Derived.Scope
import Derived.RangeFuncIn
import Derived.RangeFuncRecord
import Derived.RangeFuncLeaves
namespace Go.D
open Go

/-! ### The evaluator -/
inductive Ex where
  | nrm
  | exit (id : Nat)
  | ret
abbrev CallF := FuncId → List SV → Heap → Option (SV × Heap)

/-- Is an operation wanted. -/
def wantD (ops : Array Oper) (e : Env) (o : Oper) : Bool :=
  match o.guard with
  | none => true
  | some (j, want) => match (ops[j]?).bind (·.dst) with
    | some d => match e.at d with | .bool b => b == want | _ => false
    | none => false
def restD (P : Program) (e : Env) (h : Heap) (o : Op) : Option (SV × Heap) :=
  match stillD P e h o with
  | some v => some (v, h)
  | none => match newD P e h.next o with
    | some (v, cs) => some (v, h.new cs)
    | none => match actD P e h o with
      | some (v, h, _) => some (v, h)
      | none => none
/-- The function and the arguments of a call of a value. -/
def calleeD (e : Env) (o : Op) : Option (FuncId × List SV) :=
  match o with
  | .call c => match c.callee with
    | .value f => match ev e f, evs e c.args.toList with
      | some (.fn (.func f) a b), some xs => some (f, a ++ xs ++ b)
      | _, _ => none
    | _ => none
  | _ => none
/-- The loop and the arguments of a call of a round. -/
def yieldeeD (e : Env) (o : Op) : Option (Nat × List SV) :=
  match o with
  | .call c => match c.callee with
    | .value f => match ev e f, evs e c.args.toList with
      | some (.yld nm), some xs => some (nm, xs)
      | _, _ => none
    | _ => none
  | _ => none
/-- A loop over a function: what its rounds start from. -/
structure LoopRec where
  e : Env
  ps : List Tmp
  nt : Nat
  asg : Code
  body : Code
/-- What is called: a function; a round of a loop; a function that is given a new loop's rounds. -/
structure Lo where
  call : CallF
  yield : Nat → List SV → Heap → Option (SV × Heap)
  under : Nat → LoopRec → CallF
def doD (P : Program) (lo : Lo) (e : Env) (h : Heap) (o : Op) : Option (SV × Heap) :=
  match calleeD e o with
  | some (f, xs) => lo.call f xs h
  | none => match restD P e h o with
    | some r => some r
    | none => match yieldeeD e o with
      | some (nm, xs) => lo.yield nm xs h
      | none => none
def fitsD (nt : Nat) (d : Option Nat) : Bool := match d with | some d => d < nt | none => true
def opsD (P : Program) (lo : Lo) (nt : Nat) (ops : Array Oper) : List Oper → Env → Heap → Option (Env × Heap)
  | [], e, h => some (e, h)
  | o :: os, e, h =>
    if fitsD nt o.dst = true then
      if wantD ops e o = true then
        match doD P lo e h o.op with
        | some (v, h) => opsD P lo nt ops os (e.set o.dst v) h
        | none => none
      else opsD P lo nt ops os (e.set o.dst und) h
    else none
def iterD (body : Env → Heap → Option (Ex × Env × Heap)) : Nat → Env → Heap → Option (Ex × Env × Heap)
  | 0, _, _ => none
  | n + 1, e, h => match body e h with
    | some (.nrm, e, h) => iterD body n e h
    | some (.exit id, e, h) => some (.exit id, e, h)
    | some (.ret, e, h) => some (.ret, e, h)
    | none => none
abbrev AnyF := Lo → Nat → Array Oper → Env → Heap → Option (Env × Heap)
/-- 'L': how many rounds a loop is given; 'any': the run of a region in any order; 'rf': loops over functions are taken. -/
def codeD (P : Program) (lo : Lo) (any : AnyF) (rf : Bool) (L nt : Nat) : Code → Env → Heap → Option (Ex × Env × Heap)
  | .skip, e, h => some (.nrm, e, h)
  | .region _ ops draw, e, h => match (if draw then any lo nt ops e h else opsD P lo nt ops ops.toList e h) with
    | some (e, h) => some (.nrm, e, h)
    | none => none
  | .seq a b, e, h => match codeD P lo any rf L nt a e h with
    | some (.nrm, e, h) => codeD P lo any rf L nt b e h
    | some (.exit id, e, h) => some (.exit id, e, h)
    | some (.ret, e, h) => some (.ret, e, h)
    | none => none
  | .cond c a b, e, h => match ev e c with
    | some (.bool t) => if t then codeD P lo any rf L nt a e h else codeD P lo any rf L nt b e h
    | _ => none
  | .block id b, e, h => match codeD P lo any rf L nt b e h with
    | some (.nrm, e, h) => some (.nrm, e, h)
    | some (.exit i, e, h) => if i = id then some (.nrm, e, h) else some (.exit i, e, h)
    | some (.ret, e, h) => some (.ret, e, h)
    | none => none
  | .loop b, e, h => iterD (codeD P lo any rf L nt b) L e h
  | .exit id, e, h => some (.exit id, e, h)
  | .ret, e, h => some (.ret, e, h)
  | .label _, e, h => some (.nrm, e, h)
  | .scope b, e, h => codeD P lo any rf L nt b e h
  | .rangeFunc f ps asg body, e, h =>
    if rf = true ∧ (ps.toList.all fun p => decide (p < nt)) = true then
      match ev e f with
      | some (.fn (.func g) a b) =>
        match lo.under (h.next + 1) ⟨e, ps.toList, nt, asg, body⟩ g (a ++ [.yld (h.next + 1)] ++ b) ⟨h.mem, h.next + 2⟩ with
        | some (_, h') => some (.nrm, e, h')
        | none => none
      | _ => none
    else none
  | _, _, _ => none
def resultsD (P : Program) (h : Heap) (e : Env) : List ResultVar → Option (List SV)
  | [] => some []
  | .tmp t :: rs => match resultsD P h e rs with | some vs => some (e.at t :: vs) | none => none
  | .cell t ty :: rs => match e.at t with
    | .ptr nm off => match loadT P h ty nm off, resultsD P h e rs with | some v, some vs => some (v :: vs) | _, _ => none
    | _ => none
def packD : List SV → SV
  | [v] => v
  | vs => .tup vs
def putArgs (e : Env) (i : Nat) : List SV → Env
  | [] => e
  | v :: vs => putArgs (Tr.put e i (some v)) (i + 1) vs
def putPs (e : Env) : List Tmp → List SV → Env
  | p :: ps, v :: vs => putPs (e.set (some p) v) ps vs
  | _, _ => e
def bodyD (P : Program) (any : AnyF) (L : Nat) (lo : Lo) : CallF := fun f args h =>
  match P.funcs[f]? with
  | none => none
  | some fn => match fn.body with
    | none => none
    | some c => match codeD P lo any true L fn.ntmps c (putArgs .tip 0 args) h with
      | some (.nrm, e, h) | some (.ret, e, h) => match resultsD P h e fn.results.toList with
        | some vs => some (packD vs, h)
        | none => none
      | _ => none
/-- A round: it must end off its end. -/
def roundD (P : Program) (any : AnyF) (L : Nat) (lo : Lo) (r : LoopRec) (args : List SV) (h : Heap) : Option (SV × Heap) :=
  if args.length = r.ps.length ∧ (r.ps.all fun p => decide (p < r.nt)) = true then
    match codeD P lo any false L r.nt r.asg (putPs r.e r.ps args) h with
    | some (.nrm, e1, h1) => match codeD P lo any false L r.nt r.body e1 h1 with
      | some (.nrm, _, h2) => some (.bool true, h2)
      | _ => none
    | _ => none
  else none
def findY : List (Nat × LoopRec) → Nat → Option LoopRec
  | [], _ => none
  | (k, r) :: Y, nm => if k = nm then some r else findY Y nm
def dropY (Y : List (Nat × LoopRec)) (nm : Nat) : List (Nat × LoopRec) := Y.filter fun x => !(x.1 == nm)
mutual
/-- A value that holds no name. -/
def SV.pure : SV → Bool
  | .ptr _ _ | .slc _ _ _ _ _ | .yld _ => false
  | .fn _ a b => SV.pures a && SV.pures b
  | .ifc _ v => SV.pure v
  | .agg cs | .tup cs => SV.pures cs
  | _ => true
def SV.pures : List SV → Bool
  | [] => true
  | v :: vs => SV.pure v && SV.pures vs
end
def Tr.merge {α : Type} : Tr α → Tr α → Tr α
  | .tip, t => t
  | .n v l r, .tip => .n v l r
  | .n v l r, .n v' l' r' => .n (match v' with | some x => some x | none => v) (l.merge l') (r.merge r')
/-- A call none of whose arguments holds a name: in a heap of its own. -/
def arenaD (P : Program) (any : AnyF) (L : Nat) (lo : Lo) : CallF := fun f args h =>
  match bodyD P any L lo f args ⟨.tip, h.next⟩ with
  | some (v, h') => if v.pure = true then some (v, h) else some (v, ⟨h.mem.merge h'.mem, h'.next⟩)
  | none => none
/-- The evaluator of calls. 'X': functions that are told apart. -/
def loD (P : Program) (X : Lo → CallF) (any : AnyF) (L : Nat) : Nat → List (Nat × LoopRec) → Lo
  | 0, _ => ⟨fun _ _ _ => none, fun _ _ _ => none, fun _ _ _ _ _ => none⟩
  | n + 1, Y => {
      call := fun f args h => match X (loD P X any L n Y) f args h with
        | some r => some r
        | none => if SV.pures args = true then arenaD P any L (loD P X any L n []) f args h else bodyD P any L (loD P X any L n Y) f args h
      yield := fun nm args h => match findY Y nm with
        | some r => roundD P any L (loD P X any L n (dropY Y nm)) r args h
        | none => none
      under := fun nm r => bodyD P any L (loD P X any L n ((nm, r) :: Y)) }
def callD (P : Program) (X : Lo → CallF) (any : AnyF) (L n : Nat) : CallF := (loD P X any L n []).call
end Go.D
