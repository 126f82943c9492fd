/- D, part 21: from the evaluator to a row's walk; running code by steps. -/
import Derived.Test.YtpfhmnmpiagnnaaGreatDoorD20
import Derived.RowKit3
namespace Go.D
open Go

/-- The boolean that a call answers, and the heap behind it. -/
def isTrue : Option (SV × Heap) → Bool
  | some (.bool b, _) => b
  | _ => false
def theHeap : Option (SV × Heap) → Heap
  | some (_, h) => h
  | none => ⟨.tip, 0⟩
def theVal : Option (SV × Heap) → SV
  | some (v, _) => v
  | none => .tup []
theorem of_isTrue {r : Option (SV × Heap)} (h : isTrue r = true) : r = some (.bool true, theHeap r) := by
  unfold isTrue at h
  split at h
  · subst h; rfl
  · cases h
theorem of_isSome {r : Option (SV × Heap)} (h : r.isSome = true) : r = some (theVal r, theHeap r) := by
  cases r with
  | none => cases h
  | some x => rfl

section
variable {P : Program} {lo : Lo} {nt : Nat} {ops : Array Oper} {o : Oper} {os : List Oper} {e : Env} {h : Heap} {r : Option (Env × Heap)}
theorem opsD_call {f : FuncId} {xs : List SV} {v : SV} {h' : Heap} (h1 : fitsD nt o.dst = true) (h2 : wantD ops e o = true) (h3 : calleeD e o.op = some (f, xs)) (h4 : lo.call f xs h = some (v, h'))
    (H : opsD P lo nt ops os (e.set o.dst v) h' = r) : opsD P lo nt ops (o :: os) e h = r := by
  rw [← H, opsD, if_pos h1, if_pos h2]
  simp only [doD, h3, h4]
theorem opsD_rest {v : SV} {h' : Heap} (h1 : fitsD nt o.dst = true) (h2 : wantD ops e o = true) (h3 : calleeD e o.op = none) (h4 : restD P e h o.op = some (v, h'))
    (H : opsD P lo nt ops os (e.set o.dst v) h' = r) : opsD P lo nt ops (o :: os) e h = r := by
  rw [← H, opsD, if_pos h1, if_pos h2]
  simp only [doD, h3, h4]
theorem opsD_nil : opsD P lo nt ops [] e h = some (e, h) := rfl
end

section
variable {P : Program} {lo : Lo} {any : AnyF} {rf : Bool} {L nt : Nat} {e e1 : Env} {h h1 : Heap} {r : Option (Ex × Env × Heap)}
theorem codeD_seq {a b : Code} (h1' : codeD P lo any rf L nt a e h = some (.nrm, e1, h1)) (h2 : codeD P lo any rf L nt b e1 h1 = r) : codeD P lo any rf L nt (.seq a b) e h = r := by
  rw [codeD, h1']; exact h2
theorem codeD_region {id : Nat} {ops : Array Oper} (h1' : opsD P lo nt ops ops.toList e h = some (e1, h1)) : codeD P lo any rf L nt (.region id ops false) e h = some (.nrm, e1, h1) := by
  simp only [codeD, Bool.false_eq_true, if_false, h1']
theorem codeD_cond_true {c : Operand} {a b : Code} (hc : ev e c = some (.bool true)) (h1' : codeD P lo any rf L nt a e h = r) : codeD P lo any rf L nt (.cond c a b) e h = r := by
  simp only [codeD, hc, if_true, h1']
theorem codeD_cond_false {c : Operand} {a b : Code} (hc : ev e c = some (.bool false)) (h1' : codeD P lo any rf L nt b e h = r) : codeD P lo any rf L nt (.cond c a b) e h = r := by
  simp only [codeD, hc, Bool.false_eq_true, if_false, h1']
theorem codeD_ret : codeD P lo any rf L nt .ret e h = some (.ret, e, h) := by rw [codeD]
theorem codeD_skip : codeD P lo any rf L nt .skip e h = some (.nrm, e, h) := by rw [codeD]
theorem bodyD_of {f : FuncId} {fn : Func} {c : Code} {args : List SV} {x : Ex} {vs : List SV} (hf : P.funcs[f]? = some fn) (hb : fn.body = some c) (hc : codeD P lo any true L fn.ntmps c (putArgs .tip 0 args) h = some (x, e1, h1))
    (hx : x = .nrm ∨ x = .ret) (hr : resultsD P h1 e1 fn.results.toList = some vs) : bodyD P any L lo f args h = some (packD vs, h1) := by
  unfold bodyD
  rw [hf]
  simp only [hb, hc]
  rcases hx with rfl | rfl <;> simp only [hr]
end

/-- A call of closed arguments, by the evaluator, in any world: what it answers; every block that lay keeps what it held. -/
theorem calls_of_run {P : Program} {lo : Lo} (hg : GoodLo P [] lo) {f : FuncId} {args : List SV} {v : SV} {h' : Heap} (hd : lo.call f args ⟨.tip, 0⟩ = some (v, h')) {xs : List Value} (hx : VRs (fun _ => none) args xs)
    {fn : Func} {c : Code} (hf : P.funcs[f]? = some fn) (hb : fn.body = some c) (hn : fn.name ≠ "runtime.NumGoroutine") (w : World) :
    Calls P f ⟨xs⟩ w fun (en : Ending) (w' : World) => ∃ x, en = .returned x ∧ (∃ ρ, VR ρ v x) ∧ Same w w' ∧ ∀ (b : Nat) (o : Obj), w.heap[b]? = some o → w'.heap[b]? = some o := by
  have hs : Sim (fun _ => none) ⟨.tip, 0⟩ (fun b => w.heap[b]?) w :=
    ⟨fun nm cs hg => (by cases hg), fun nm nm' cs cs' l l' hg => (by cases hg), fun b o hb => hb, fun _ _ => rfl⟩
  have hcall : (callFunc f ⟨xs⟩).run P w = .ok (.enter f ⟨xs⟩) w := by simp [callFunc, hf, hn, hb]
  rcases hg.call f args _ v h' hd Fence.wide 0 _ _ w xs Wide.wide (Ctx.nil _ _) hs hx with ⟨x, w', h1, _⟩ | ⟨f', args', w', h1, h2⟩
  · rw [hcall] at h1; cases h1
  · rw [hcall] at h1; cases h1
    refine (callsIn_wide.1 h2).mono fun en w'' hR => ?_
    cases en with
    | returned x =>
      obtain ⟨ρ', g1, g2, g3, g4, g5⟩ := hR
      exact ⟨x, rfl, ⟨ρ', g2⟩, g4, fun b o hb => g3.frame b o hb⟩
    | panicked c => exact hR.elim
    | outgrown => exact hR.elim
theorem keptBut_of {w w' : World} (hs : Same w w') (hk : ∀ (b : Nat) (o : Obj), w.heap[b]? = some o → w'.heap[b]? = some o) (may : MemPlace → Prop) : w.keptBut w' may := by
  refine ⟨hs.os, hs.output, fun i hi => ?_⟩
  have h1 : w.heap[i]? = some w.heap[i] := by simp [hi]
  rw [hk i _ h1, h1]
  cases w.heap[i] <;> simp
end Go.D
