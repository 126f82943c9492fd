/- D, part 13: code in order; calls. -/
import Derived.Test.YtpfhmnmpiagnnaaGreatDoorD12b
namespace Go.D
open Go

/-- A fence that lets everything in. -/
structure Wide (Fc : Fence) : Prop where
  fn : ∀ f, Fc.fn f
  depth : Fc.depth = none
theorem Wide.wide : Wide Fence.wide := ⟨fun _ => trivial, rfl⟩
theorem Wide.inRound {Fc : Fence} (h : Wide Fc) (l : Nat) : Wide (Fc.inRound l) := ⟨h.fn, h.depth⟩
theorem Wide.plain {Fc : Fence} (h : Wide Fc) : Wide Fc.plain := ⟨h.fn, h.depth⟩
theorem Wide.le {Fc : Fence} (h : Wide Fc) {n : Nat} : Fc.depth.isSome = true → 1 ≤ n := fun h' => by rw [h.depth] at h'; cases h'

/-- What a call leaves. -/
def Post (ρ : Nm) (F : Fr) (w : World) (k : Nat) (v : SV) (h' : Heap) (x : Value) (w' : World) : Prop :=
  ∃ ρ', Ext k ρ ρ' ∧ VR ρ' v x ∧ Sim ρ' h' F w' ∧ Same w w' ∧ k ≤ h'.next
def CallOk (Fc : Fence) (n : Nat) (P : Program) (f : FuncId) (xs : List Value) (w : World) (R : Value → World → Prop) : Prop :=
  (∃ x w', (callFunc f ⟨xs⟩).run P w = .ok (.value x) w' ∧ R x w') ∨
  (∃ f' args w', (callFunc f ⟨xs⟩).run P w = .ok (.enter f' args) w' ∧ CallsIn Fc n P f' args w' (fun | .returned x, w'' => R x w'' | _, _ => False))
/-- The active loops' records lie beside the heap, ready for a round. -/
def Bound (ρ : Nm) (F : Fr) (nm : Nat) (r : LoopRec) : Prop :=
  ∃ (l : Loc) (rec : Loop), ρ nm = some l ∧ F l.blk = some (.loop rec) ∧ rec.state = .ready ∧ rec.pending = none ∧ rec.params = ⟨r.ps⟩ ∧ rec.assign = r.asg ∧ rec.body = r.body ∧
    Rel ρ r.nt r.e { tmps := rec.tmps, defers := [] }
structure Ctx (ρ : Nm) (F : Fr) (Y : List (Nat × LoopRec)) : Prop where
  bound : ∀ nm r, findY Y nm = some r → Bound ρ F nm r
  apart : ∀ nm nm' r r' l l', findY Y nm = some r → findY Y nm' = some r' → ρ nm = some l → ρ nm' = some l' → l.blk = l'.blk → nm = nm'
theorem Ctx.mono {ρ ρ' : Nm} {F F' : Fr} {Y : List (Nat × LoopRec)} (h : Ctx ρ F Y) (hρ : ρ.le ρ') (hF : F.le F') : Ctx ρ' F' Y := by
  refine ⟨fun nm r hy => ?_, fun nm nm' r r' l l' h1 h2 h3 h4 he => ?_⟩
  · obtain ⟨l, rec, g1, g2, g3, g4, g5, g6, g7, g8⟩ := h.bound nm r hy
    exact ⟨l, rec, hρ _ _ g1, hF _ _ g2, g3, g4, g5, g6, g7, g8.mono hρ⟩
  · obtain ⟨l1, _, g1, _⟩ := h.bound nm r h1
    obtain ⟨l2, _, g2, _⟩ := h.bound nm' r' h2
    have e1 := hρ _ _ g1
    have e2 := hρ _ _ g2
    rw [h3] at e1; rw [h4] at e2
    cases e1; cases e2
    exact h.apart nm nm' r r' _ _ h1 h2 g1 g2 he
theorem Ctx.nil (ρ : Nm) (F : Fr) : Ctx ρ F [] := ⟨fun nm r h => (by cases h), fun nm nm' r r' l l' h => (by cases h)⟩

structure GoodLo (P : Program) (Y : List (Nat × LoopRec)) (lo : Lo) : Prop where
  call : ∀ f args h v h', lo.call f args h = some (v, h') → ∀ (Fc : Fence) (n : Nat) (ρ : Nm) (F : Fr) (w : World) (xs : List Value), Wide Fc → Ctx ρ F Y → Sim ρ h F w → VRs ρ args xs →
    CallOk Fc n P f xs w (Post ρ F w h.next v h')
  yield : ∀ nm args h v h', lo.yield nm args h = some (v, h') → ∀ (Fc : Fence) (n : Nat) (ρ : Nm) (F : Fr) (w : World) (xs : List Value) (l : Loc), Wide Fc → Ctx ρ F Y → Sim ρ h F w → VRs ρ args xs → ρ nm = some l →
    ∃ f tmps asg body, (Instr.yield l.blk ⟨xs⟩).run P w = .ok (.round l.blk f tmps asg body) w ∧ RoundIn Fc n P l.blk f tmps asg body w (fun | .returned x, w' => Post ρ F w h.next v h' x w' | _, _ => False)
  under : ∀ nm r f args h v h', lo.under nm r f args h = some (v, h') → ∀ (Fc : Fence) (n : Nat) (ρ : Nm) (F : Fr) (w : World) (xs : List Value), Wide Fc → Ctx ρ F ((nm, r) :: Y) → Sim ρ h F w → VRs ρ args xs →
    (callFunc f ⟨xs⟩).run P w = .ok (.enter f ⟨xs⟩) w ∧ CallsIn Fc n P f ⟨xs⟩ w (fun | .returned x, w' => Post ρ F w h.next v h' x w' | _, _ => False)
/-- The deferred calls are marks of loops, and those that there were. -/
def Marked (F F' : Fr) (ds ds' : List Deferred) : Prop :=
  ∃ rs : List Nat, rs.Nodup ∧ (∀ r ∈ rs, F r = none ∧ F' r = some (.deferred (some []))) ∧ ds' = rs.map (fun r => { target := .collected r, args := #[] }) ++ ds
theorem Marked.refl (F F' : Fr) (ds : List Deferred) : Marked F F' ds ds := ⟨[], List.nodup_nil, fun r h => (by cases h), rfl⟩
theorem Marked.trans {F F1 F2 : Fr} {ds ds1 ds2 : List Deferred} (h1 : Marked F F1 ds ds1) (hF : F.le F1) (hF2 : F1.le F2) (h2 : Marked F1 F2 ds1 ds2) : Marked F F2 ds ds2 := by
  obtain ⟨rs, a1, a2, a3⟩ := h1
  obtain ⟨rs', b1, b2, b3⟩ := h2
  refine ⟨rs' ++ rs, ?_, fun r hr => ?_, by rw [b3, a3, List.map_append, List.append_assoc]⟩
  · refine List.nodup_append.2 ⟨b1, a1, fun x hx y hy he => ?_⟩
    subst he
    have h1 := (b2 x hx).1
    rw [(a2 x hy).2] at h1; cases h1
  · rcases List.mem_append.1 hr with hr | hr
    · refine ⟨?_, (b2 r hr).2⟩
      cases hh : F r with
      | none => rfl
      | some o => have := (b2 r hr).1; rw [hF _ _ hh] at this; cases this
    · exact ⟨(a2 r hr).1, hF2 _ _ (a2 r hr).2⟩
/-- What code leaves. -/
def Stp (ρ : Nm) (nt : Nat) (F : Fr) (w : World) (k : Nat) (e' : Env) (h' : Heap) (ds : List Deferred) (a' : Act) (w' : World) : Prop :=
  ∃ ρ' F', Ext k ρ ρ' ∧ F.le F' ∧ Rel ρ' nt e' a' ∧ Marked F F' ds a'.defers ∧ Sim ρ' h' F' w' ∧ Same w w' ∧ k ≤ h'.next
theorem Stp.refl {ρ : Nm} {nt : Nat} {F : Fr} {w : World} {e : Env} {h : Heap} {a : Act} (hr : Rel ρ nt e a) (hs : Sim ρ h F w) : Stp ρ nt F w h.next e h a.defers a w :=
  ⟨ρ, F, Ext.refl _ _, Fr.le_refl _, hr, Marked.refl _ _ _, hs, Same.refl _, Nat.le_refl _⟩
theorem Stp.trans {ρ ρ' : Nm} {nt : Nat} {F F' : Fr} {w w' w'' : World} {k : Nat} {e'' : Env} {h' h'' : Heap} {ds ds' : List Deferred} {a'' : Act}
    (h1 : Ext k ρ ρ') (hF : F.le F') (hd : Marked F F' ds ds') (h4 : Same w w') (h5 : k ≤ h'.next) (H : Stp ρ' nt F' w' h'.next e'' h'' ds' a'' w'') : Stp ρ nt F w k e'' h'' ds a'' w'' := by
  obtain ⟨ρ'', F'', g1, gF, g2, g3, g4, g5, g6⟩ := H
  exact ⟨ρ'', F'', h1.trans g1 h5, Fr.le_trans hF gF, g2, hd.trans hF gF g3, g4, h4.trans g5, Nat.le_trans h5 g6⟩
def AnyGood (P : Program) (Y : List (Nat × LoopRec)) (lo : Lo) (any : AnyF) : Prop :=
  ∀ nt ops e h e' h', any lo nt ops e h = some (e', h') → ∀ (Fc : Fence) (n id : Nat) (Q : Exit → Act → World → Prop) (ρ : Nm) (F : Fr) (w : World) (a : Act), Wide Fc → Ctx ρ F Y →
    Rel ρ nt e a → Sim ρ h F w → (∀ a' w', Stp ρ nt F w h.next e' h' a.defers a' w' → Q .normal a' w') → (Code.region id ops true).wpIn Fc n P Q a w

section
variable {P : Program}

theorem VR_bool {ρ : Nm} {v : SV} {b : Bool} (h : VR ρ v (.bool b)) : v = .bool b := by
  cases v <;> simp only [VR] at h
  case bool c => cases h; rfl
  all_goals first | cases h; done | (obtain ⟨_, _, h⟩ := h; cases h; done) | (obtain ⟨_, h⟩ := h; first | cases h; done | (obtain ⟨_, h⟩ := h; first | cases h; done | (obtain ⟨_, _, h⟩ := h; cases h; done) | (obtain ⟨_, h, _⟩ := h; cases h)))
theorem wanted_sound {ρ : Nm} {nt : Nat} {e : Env} {a : Act} (hr : Rel ρ nt e a) (ops : Array Oper) (o : Oper) : Region.wanted o (yielded ops a.tmps) = wantD ops e o := by
  unfold Region.wanted wantD
  cases o.guard with
  | none => rfl
  | some g =>
    obtain ⟨j, want⟩ := g
    simp only [yielded]
    cases hd : (ops[j]?).bind (·.dst) with
    | none => rfl
    | some d =>
      simp only [Option.bind_some]
      have hv := hr.val d
      simp only [Array.getD_eq_getD_getElem?] at hv
      cases ht : a.tmps[d]? with
      | none =>
        rw [ht] at hv
        cases he : e.at d with
        | bool b => rw [he] at hv; simp only [VR] at hv; cases hv
        | _ => rfl
      | some x =>
        rw [ht] at hv
        simp only [Option.getD_some] at hv
        cases he : e.at d with
        | bool b => rw [he] at hv; simp only [VR] at hv; subst hv; rfl
        | _ =>
          cases x with
          | bool b => have := VR_bool hv; rw [he] at this; cases this
          | _ => rfl

theorem run_callee {ρ : Nm} {nt : Nat} {e : Env} {a : Act} (hr : Rel ρ nt e a) {o : Oper} {f : FuncId} {args : List SV} (hc : calleeD e o.op = some (f, args)) :
    ∃ xs, VRs ρ args xs ∧ (∀ c, o.op ≠ .defer c) ∧ execOp a.eval o = callFunc f ⟨xs⟩ := by
  obtain ⟨dst, op, type, pos, after, guard⟩ := o
  simp only at hc
  unfold calleeD at hc
  split at hc
  · rename_i c
    obtain ⟨callee, cargs, argTypes⟩ := c
    simp only at hc
    split at hc
    · rename_i g
      split at hc
      · rename_i f2 p q us hf hu
        cases hc
        have hfr := ev_sound hr hf
        simp only [VR] at hfr
        obtain ⟨px, qx, hp, hq, hfe⟩ := hfr
        refine ⟨px ++ cargs.toList.map a.eval ++ qx, VRs_append (VRs_append hp (evs_sound hr hu)) hq, fun c hh => (by cases hh), ?_⟩
        have hargs := eval_list a.eval cargs
        simp only [execOp, resolve, hfe, hargs, Deferred.ofValue, pure_bind, invoke]
        simp
      · cases hc
    · cases hc
  · cases hc

theorem run_yieldee {ρ : Nm} {nt : Nat} {e : Env} {a : Act} (hr : Rel ρ nt e a) {o : Oper} {nm : Nat} {args : List SV} (hc : yieldeeD e o.op = some (nm, args)) :
    ∃ xs l, VRs ρ args xs ∧ ρ nm = some l ∧ (∀ c, o.op ≠ .defer c) ∧ execOp a.eval o = Instr.yield l.blk ⟨xs⟩ := by
  obtain ⟨dst, op, type, pos, after, guard⟩ := o
  simp only at hc
  unfold yieldeeD at hc
  split at hc
  · rename_i c
    obtain ⟨callee, cargs, argTypes⟩ := c
    simp only at hc
    split at hc
    · rename_i g
      split at hc
      · rename_i nm2 us hf hu
        cases hc
        have hfr := ev_sound hr hf
        simp only [VR] at hfr
        obtain ⟨l, hl, hfe⟩ := hfr
        refine ⟨cargs.toList.map a.eval, l, evs_sound hr hu, hl, fun c hh => (by cases hh), ?_⟩
        have hargs := eval_list a.eval cargs
        simp only [execOp, resolve, hfe, hargs, Deferred.ofValue, pure_bind, invoke]
        simp
      · cases hc
    · cases hc
  · cases hc

theorem do_sound {Y : List (Nat × LoopRec)} {lo : Lo} (hg : GoodLo P Y lo) {Fc : Fence} (hw : Wide Fc) {n : Nat} {ρ : Nm} {F : Fr} {w : World} {nt : Nat} {e : Env} {a : Act} {h h' : Heap} (hy : Ctx ρ F Y) (hr : Rel ρ nt e a) (hs : Sim ρ h F w) {o : Oper} {v : SV}
    (hd : doD P lo e h o.op = some (v, h')) {next : Act → World → Prop} {Q : Exit → Act → World → Prop}
    (hK : ∀ x w', Post ρ F w h.next v h' x w' → next (a.put o.dst x) w') : o.wpIn Fc n P a w next Q := by
  unfold doD at hd
  refine ⟨fun f _ => hw.fn f, ?_⟩
  split at hd
  · rename_i f args hc
    obtain ⟨xs, hx, hnd, hrun⟩ := run_callee hr hc
    rw [Oper.semAt_plain Fc _ _ hnd, hrun]
    rcases hg.call f args h v h' hd Fc (n - 1) ρ F w xs hw hy hs hx with ⟨x, w', h1, h2⟩ | ⟨f', args', w', h1, h2⟩
    · rw [h1]; exact hK x w' h2
    · rw [h1]
      refine ⟨hw.le, CallsIn.mono h2 fun en w'' hR => ?_⟩
      cases en with
      | returned x => exact hK x w'' hR
      | panicked c => exact hR.elim
      | outgrown => exact hR.elim
  · split at hd
    · rename_i r hrest
      cases hd
      have hnd : ∀ c, o.op ≠ .defer c := fun c hc => by
        rw [hc] at hrest
        simp [restD, stillD, newD, actD] at hrest
      rw [Oper.semAt_plain Fc _ _ hnd]
      obtain ⟨ρ', x, w', h1, h2, h3, h4, h5, h6⟩ := rest_sound hs hr hrest
      rcases h6 with h6 | ⟨h6, rfl⟩
      · rw [h6]; exact hK x w' ⟨ρ', h1, h2, h3, h4, h5⟩
      · rw [h6]; exact hK _ w' ⟨ρ', h1, h2, h3, h4, h5⟩
    · split at hd
      · rename_i nm args hc
        obtain ⟨xs, l, hx, hl, hnd, hrun⟩ := run_yieldee hr hc
        rw [Oper.semAt_plain Fc _ _ hnd, hrun]
        obtain ⟨f, tmps, asg, body, h1, h2⟩ := hg.yield nm args h v h' hd Fc (n - 1) ρ F w xs l hw hy hs hx hl
        rw [h1]
        refine ⟨hw.le, RoundIn.mono h2 fun en w'' hR => ?_⟩
        cases en with
        | returned x => exact hK x w'' hR
        | panicked c => exact hR.elim
        | outgrown => exact hR.elim
      · cases hd

theorem fits_sound {nt : Nat} {d : Option Nat} (h : fitsD nt d = true) : ∀ t, d = some t → t < nt := fun t ht => by
  subst ht
  simpa [fitsD] using h

theorem ops_sound {Y : List (Nat × LoopRec)} {lo : Lo} (hg : GoodLo P Y lo) {Fc : Fence} (hw : Wide Fc) {n : Nat} {F : Fr} {nt : Nat} {ops : Array Oper} {Q : Exit → Act → World → Prop} :
    ∀ (os : List Oper) {ρ : Nm} {w : World} {e e' : Env} {a : Act} {h h' : Heap}, Ctx ρ F Y → Rel ρ nt e a → Sim ρ h F w → opsD P lo nt ops os e h = some (e', h') →
      (∀ a' w', Stp ρ nt F w h.next e' h' a.defers a' w' → Q .normal a' w') → wpListIn Fc n P ops Q os a w
  | [], ρ, w, e, e', a, h, h', hy, hr, hs, hd, hK => by
    simp only [opsD, Option.some.injEq, Prod.mk.injEq] at hd
    obtain ⟨rfl, rfl⟩ := hd
    exact hK a w (Stp.refl hr hs)
  | o :: os, ρ, w, e, e', a, h, h', hy, hr, hs, hd, hK => by
    simp only [opsD] at hd
    split at hd
    case isFalse => cases hd
    rename_i hfit
    have hfit := fits_sound hfit
    have hdf : ∀ x, (a.put o.dst x).defers = a.defers := fun x => by cases o.dst <;> rfl
    simp only [wpListIn, wanted_sound hr]
    split at hd
    · rename_i hwant
      rw [if_pos hwant]
      split at hd
      · rename_i v h1 hdo
        refine do_sound hg hw hy hr hs hdo fun x w' hp => ?_
        obtain ⟨ρ', g1, g2, g3, g4, g5⟩ := hp
        refine ops_sound hg hw os (hy.mono g1.le (Fr.le_refl _)) ((Rel.mono g1.le hr).put hfit g2) g3 hd fun a'' w'' H => ?_
        rw [hdf x] at H
        exact hK a'' w'' (Stp.trans g1 (Fr.le_refl _) (Marked.refl _ _ _) g4 g5 H)
      · cases hd
    · rename_i hwant
      rw [if_neg hwant]
      refine ⟨fun f _ => hw.fn f, ?_⟩
      refine ops_sound hg hw os hy (hr.put hfit (VR_und ρ)) hs hd fun a'' w'' H => ?_
      rw [hdf undef] at H
      exact hK a'' w'' H

def Ex.to : Ex → Exit
  | .nrm => .normal
  | .exit id => .exit id
  | .ret => .ret

theorem iter_sound {Y : List (Nat × LoopRec)} {Fc : Fence} {n : Nat} {nt : Nat} {c : Code} {body : Env → Heap → Option (Ex × Env × Heap)}
    (hb : ∀ (Q : Exit → Act → World → Prop) (ρ : Nm) (F : Fr) (w : World) (e : Env) (a : Act) (h : Heap) (x : Ex) (e' : Env) (h' : Heap), body e h = some (x, e', h') → Ctx ρ F Y → Rel ρ nt e a → Sim ρ h F w →
      (∀ a' w', Stp ρ nt F w h.next e' h' a.defers a' w' → Q x.to a' w') → c.wpIn Fc n P Q a w) {Q : Exit → Act → World → Prop} :
    ∀ (m : Nat) {ρ : Nm} {F : Fr} {w : World} {e e' : Env} {a : Act} {h h' : Heap} {x : Ex}, iterD body m e h = some (x, e', h') → Ctx ρ F Y → Rel ρ nt e a → Sim ρ h F w →
      (∀ a' w', Stp ρ nt F w h.next e' h' a.defers a' w' → Q x.to a' w') → Code.roundsIn Fc n P c Q m a w
  | 0, ρ, F, w, e, e', a, h, h', x, hd, hy, hr, hs, hK => by cases hd
  | m + 1, ρ, F, w, e, e', a, h, h', x, hd, hy, hr, hs, hK => by
    simp only [iterD] at hd
    cases hbd : body e h with
    | none => rw [hbd] at hd; cases hd
    | some r =>
      obtain ⟨y, e1, h1⟩ := r
      rw [hbd] at hd
      rw [roundsIn_succ]
      refine hb _ ρ F w e a h y e1 h1 hbd hy hr hs fun a1 w1 H => ?_
      cases y with
      | nrm =>
        obtain ⟨ρ1, F1, g1, gF, g2, g3, g4, g5, g6⟩ := H
        exact iter_sound hb m hd (hy.mono g1.le gF) g2 g4 fun a' w' H' => hK a' w' (Stp.trans g1 gF g3 g5 g6 H')
      | exit id => cases hd; exact hK a1 w1 H
      | ret => cases hd; exact hK a1 w1 H

/-- A scope none of whose jumps is taken. -/
theorem wpIn_scope {Fc : Fence} {n : Nat} {c : Code} {Q : Exit → Act → World → Prop} {a : Act} {w : World} (h : c.wpIn Fc n P (Exit.noGoto Q) a w) : (Code.scope c).wpIn Fc n P Q a w := by
  intro b k cs hro hb hr
  have h0 : (lone (b.atR a (.code (.scope c) :: k)) cs w).fenced P Fc := fenced_calm hb hr rfl
  have h1 : step P (lone (b.atR a (.code (.scope c) :: k)) cs w) = .next (lone (b.atR a (.code c :: .inScope c :: k)) cs w) := step_lone_go (by simp [stepG, stepG.exec, Frame.atR])
  have h2 : ∀ a w, step P (lone (b.atR a (.inScope c :: k)) cs w) = .next (lone (b.atR a k) cs w) := fun a w => step_lone_go (by simp [stepG, stepG.exec, Frame.atR])
  obtain ⟨e, a₁, w₁, hq, harr⟩ := h b (.inScope c :: k) cs hro hb hr
  cases e with
  | normal => exact ⟨.normal, a₁, w₁, hq, .head h0 h1 (StepsIn.trans harr (.one (fenced_calm hb hr rfl) (h2 _ _)))⟩
  | exit id' =>
    have hx : exitTo id' (.inScope c :: k) = exitTo id' k := by simp [exitTo]
    exact ⟨.exit id', a₁, w₁, hq, fun k' hk => .head h0 h1 (harr.1 k' (by rw [hx]; exact hk)),
        fun hr' hk => let ⟨k₁, g1, g2⟩ := harr.2 hr' (by rw [hx]; exact hk); ⟨k₁, g1, .head h0 h1 g2⟩⟩
  | goto l => exact hq.elim
  | ret => exact ⟨_, a₁, w₁, hq, .of_steps (.one h0 h1) harr⟩
  | panic ch => exact ⟨_, a₁, w₁, hq, .of_steps (.one h0 h1) harr⟩
  | outgrown => exact ⟨_, a₁, w₁, hq, .of_steps (.one h0 h1) harr⟩

theorem code_sound {Y : List (Nat × LoopRec)} {lo : Lo} (hg : GoodLo P Y lo) {any : AnyF} (ha : AnyGood P Y lo any) {rf : Bool} {L nt : Nat} {Fc : Fence} (hw : Wide Fc) (hrf : rf = true → Fc.round = none) {n : Nat} :
    ∀ (c : Code) (Q : Exit → Act → World → Prop) (ρ : Nm) (F : Fr) (w : World) (e : Env) (a : Act) (h : Heap) (x : Ex) (e' : Env) (h' : Heap), codeD P lo any rf L nt c e h = some (x, e', h') → Ctx ρ F Y → Rel ρ nt e a → Sim ρ h F w →
      (∀ a' w', Stp ρ nt F w h.next e' h' a.defers a' w' → Q x.to a' w') → c.wpIn Fc n P Q a w := by
  intro c
  induction c with
  | skip =>
    intro Q ρ F w e a h x e' h' hd hy hr hs hK
    simp only [codeD] at hd; cases hd
    exact wpIn_skip (hK a w (Stp.refl hr hs))
  | label l =>
    intro Q ρ F w e a h x e' h' hd hy hr hs hK
    simp only [codeD] at hd; cases hd
    exact wpIn_label (hK a w (Stp.refl hr hs))
  | exit id =>
    intro Q ρ F w e a h x e' h' hd hy hr hs hK
    simp only [codeD] at hd; cases hd
    exact wpIn_exit (hK a w (Stp.refl hr hs))
  | ret =>
    intro Q ρ F w e a h x e' h' hd hy hr hs hK
    simp only [codeD] at hd; cases hd
    exact wpIn_ret (hK a w (Stp.refl hr hs))
  | goto l => intro Q ρ F w e a h x e' h' hd; simp only [codeD] at hd; cases hd
  | refuse s => intro Q ρ F w e a h x e' h' hd; simp only [codeD] at hd; cases hd
  | rangeFunc f ps asg b _ _ =>
    intro Q ρ F w e a h x e' h' hd hy hr hs hK
    simp only [codeD] at hd
    split at hd
    case isFalse => cases hd
    rename_i hc
    have hro := hrf hc.1
    split at hd
    case h_2 => cases hd
    rename_i g p q hf
    split at hd
    case h_2 => cases hd
    rename_i v h1 hu
    cases hd
    refine wpIn_rangeFunc fun fn _ => ?_
    rw [hro]
    have hfr := ev_sound hr hf
    simp only [VR] at hfr
    obtain ⟨px, qx, hp, hq, hfe⟩ := hfr
    have hnm : ρ (h.next + 1) = none := hs.fresh _ (by omega)
    obtain ⟨rec, hrec⟩ : ∃ rec : Loop, rec = { state := .ready, pending := none, fn, tmps := a.tmps, params := ps, assign := asg, body := b, defers := w.heap.size } := ⟨_, rfl⟩
    let l : Loc := ⟨w.heap.size + 1, 0, 0⟩
    have s1 := hs.beside (next' := h.next + 2) (by omega) (.deferred (some []))
    have s2 := s1.aside (nm := h.next + 1) hnm (by simp only; omega) l (.loop rec)
    have hsz : ({ w with heap := w.heap.push (.deferred (some [])) } : World).heap.size = w.heap.size + 1 := by simp
    obtain ⟨F1, hF1⟩ : ∃ F1 : Fr, F1 = (fun b => if b = ({ w with heap := w.heap.push (.deferred (some [])) } : World).heap.size then some (.loop rec) else (F.set w.heap.size (.deferred (some []))) b) := ⟨_, rfl⟩
    rw [← hF1] at s2
    have hle := Nm.le_add (l := l) hnm
    have hFlt : ∀ b o, F b = some o → b < w.heap.size := fun b o hb => (Array.getElem?_eq_some_iff.1 (hs.frame b o hb)).1
    have hFD : F1 w.heap.size = some (.deferred (some [])) := by
      rw [hF1]; simp only [hsz]; rw [if_neg (by omega), Fr.set_self]
    have hFl : F1 (w.heap.size + 1) = some (.loop rec) := by
      rw [hF1]; simp only [hsz, if_true]
    have hFle : F.le F1 := fun b o hb => by
      have := hFlt b o hb
      rw [hF1]; simp only [hsz]; rw [if_neg (by omega), Fr.set_ne _ _ (by omega)]
      exact hb
    have hself : (ρ.add (h.next + 1) l) (h.next + 1) = some l := by unfold Nm.add; rw [if_pos rfl]
    have hctx : Ctx (ρ.add (h.next + 1) l) F1 ((h.next + 1, ⟨e, ps.toList, nt, asg, b⟩) :: Y) := by
      have hyo := hy.mono hle hFle
      have hold : ∀ nm r l', findY Y nm = some r → (ρ.add (h.next + 1) l) nm = some l' → l'.blk < w.heap.size ∧ nm ≠ h.next + 1 := fun nm r l' h1 h2 => by
        obtain ⟨l2, rec2, k1, k2, _⟩ := hy.bound nm r h1
        have := hle _ _ k1
        rw [h2] at this; cases this
        exact ⟨hFlt _ _ k2, fun he => by rw [he, hnm] at k1; cases k1⟩
      refine ⟨fun nm r hfy => ?_, fun nm nm' r r' l1 l2 h1 h2 h3 h4 he => ?_⟩
      · simp only [findY] at hfy
        split at hfy
        · cases hfy
          subst_vars
          exact ⟨l, _, hself, hFl, rfl, rfl, rfl, rfl, rfl, ⟨hr.size, fun t => VR_mono hle _ _ (hr.val t)⟩⟩
        · exact hyo.bound nm r hfy
      · simp only [findY] at h1 h2
        split at h1
        · split at h2
          · subst_vars; rfl
          · subst_vars
            rw [hself] at h3; cases h3
            have := hold nm' r' l2 h2 h4
            have : l.blk = w.heap.size + 1 := rfl
            omega
        · split at h2
          · subst_vars
            rw [hself] at h4; cases h4
            have := hold nm r l1 h1 h3
            have : l.blk = w.heap.size + 1 := rfl
            omega
          · exact hyo.apart nm nm' r r' l1 l2 h1 h2 h3 h4 he
    have hargs : VRs (ρ.add (h.next + 1) l) (p ++ [.yld (h.next + 1)] ++ q) (px ++ [.func (.yield (w.heap.size + 1)) ⟨[]⟩ ⟨[]⟩] ++ qx) := by
      refine VRs_append (VRs_append (VRs_mono hle _ _ hp) (VRs_mk ?_ VRs_nil')) (VRs_mono hle _ _ hq)
      simp only [VR]
      exact ⟨l, hself, rfl⟩
    obtain ⟨hent, hcalls⟩ := hg.under _ _ g _ _ v _ hu Fc (n - 1) _ F1 _ _ hw hctx s2 hargs
    refine ⟨w.heap.size + 1, [{ target := .collected w.heap.size, args := #[] }], { w with heap := (w.heap.push (.deferred (some []))).push (.loop rec) }, { target := .fn (.func g) ⟨qx⟩, args := ⟨px⟩ ++ #[.func (.yield (w.heap.size + 1)) #[] #[]] },
      { w with heap := (w.heap.push (.deferred (some []))).push (.loop rec) }, g, ⟨px ++ [.func (.yield (w.heap.size + 1)) ⟨[]⟩ ⟨[]⟩] ++ qx⟩, { w with heap := (w.heap.push (.deferred (some []))).push (.loop rec) }, ?_, ?_, fun f' _ => hw.fn f', ?_, hw.le, ?_⟩
    · rw [hrec]; exact run_enterLoop_outer _ _ _ _ _
    · simp only [resolve, hfe]
      simp [go_sem]
    · simp only [invoke]
      have : (⟨px⟩ ++ #[Value.func (.yield (w.heap.size + 1)) #[] #[]] ++ ⟨qx⟩ : Array Value) = ⟨px ++ [.func (.yield (w.heap.size + 1)) ⟨[]⟩ ⟨[]⟩] ++ qx⟩ := by simp
      rw [this]
      exact hent
    · refine CallsIn.mono hcalls fun en w3 hR => ?_
      cases en with
      | panicked c => exact hR.elim
      | outgrown => exact hR.elim
      | returned x =>
        obtain ⟨ρ', k1, k2, k3, k4, k5⟩ := hR
        have hloop := k3.frame _ _ hFl
        have hpend : rec.pending = none := by rw [hrec]
        obtain ⟨o', ho'⟩ : ∃ o', o' = Obj.loop { rec with state := .exhausted } := ⟨_, rfl⟩
        have k3' := k3.turn hFl o'
        have hend : (Instr.endLoop (w.heap.size + 1)).run P w3 = .ok none (setBlk w3 (w.heap.size + 1) o') := by
          rw [ho']
          exact (run_endLoop hloop (by rw [hrec]; simp)).trans (by rw [hpend]; rfl)
        refine ⟨none, _, hend, ?_⟩
        simp only
        have k1' : Ext h.next (ρ.add (h.next + 1) l) ρ' := ⟨k1.le, fun nm hn => k1.low nm (by simp only; omega)⟩
        have k5 : h.next + 2 ≤ h'.next := k5
        refine hK _ _ ⟨ρ', _, (Ext.add hnm (by omega)).trans k1' (Nat.le_refl _), Fr.le_set hFle (.inl ?_), ?_, ?_, k3', ?_, by omega⟩
        · cases hh : F (w.heap.size + 1) with
          | none => rfl
          | some o => have := hFlt _ _ hh; omega
        · exact ⟨hr.size, fun t => VR_mono (Nm.le_trans hle k1.le) _ _ (hr.val t)⟩
        · refine ⟨[w.heap.size], by simp, fun r hr' => ?_, rfl⟩
          have hr' : r = w.heap.size := by simpa using hr'
          subst hr'
          refine ⟨?_, by rw [Fr.set_ne _ _ (by omega)]; exact hFD⟩
          cases hh : F w.heap.size with
          | none => rfl
          | some o => have := hFlt _ _ hh; omega
        · exact (⟨k4.tape, k4.os, k4.output⟩ : Same w w3).trans (setBlk_same _ _ _)
  | region id ops draw =>
    intro Q ρ F w e a h x e' h' hd hy hr hs hK
    simp only [codeD] at hd
    cases draw with
    | true =>
      simp only [if_true] at hd
      split at hd
      · rename_i e1 h1 hany
        cases hd
        exact ha nt ops e h _ _ hany Fc n id Q ρ F w a hw hy hr hs hK
      · cases hd
    | false =>
      simp only [Bool.false_eq_true, if_false] at hd
      split at hd
      · rename_i e1 h1 hops
        cases hd
        exact wpIn_region_list (ops_sound hg hw ops.toList hy hr hs hops hK)
      · cases hd
  | seq c1 c2 ih1 ih2 =>
    intro Q ρ F w e a h x e' h' hd hy hr hs hK
    simp only [codeD] at hd
    refine wpIn_seq ?_
    cases hc : codeD P lo any rf L nt c1 e h with
    | none => rw [hc] at hd; cases hd
    | some r =>
      obtain ⟨y, e1, h1⟩ := r
      rw [hc] at hd
      refine ih1 _ ρ F w e a h y e1 h1 hc hy hr hs fun a1 w1 H => ?_
      cases y with
      | nrm =>
        obtain ⟨ρ1, F1, g1, gF, g2, g3, g4, g5, g6⟩ := H
        exact ih2 Q ρ1 F1 w1 e1 a1 h1 x e' h' hd (hy.mono g1.le gF) g2 g4 fun a' w' H' => hK a' w' (Stp.trans g1 gF g3 g5 g6 H')
      | exit id => cases hd; exact hK a1 w1 H
      | ret => cases hd; exact hK a1 w1 H
  | cond c c1 c2 ih1 ih2 =>
    intro Q ρ F w e a h x e' h' hd hy hr hs hK
    simp only [codeD] at hd
    split at hd
    · rename_i t hc
      have hv := ev_sound hr hc
      simp only [VR] at hv
      refine wpIn_cond hv ?_
      cases t with
      | true => exact ih1 Q ρ F w e a h x e' h' hd hy hr hs hK
      | false => exact ih2 Q ρ F w e a h x e' h' hd hy hr hs hK
    · cases hd
  | block id b ih =>
    intro Q ρ F w e a h x e' h' hd hy hr hs hK
    simp only [codeD] at hd
    refine wpIn_block ?_
    cases hc : codeD P lo any rf L nt b e h with
    | none => rw [hc] at hd; cases hd
    | some r =>
      obtain ⟨y, e1, h1⟩ := r
      rw [hc] at hd
      refine ih _ ρ F w e a h y e1 h1 hc hy hr hs fun a1 w1 H => ?_
      cases y with
      | nrm => cases hd; exact hK a1 w1 H
      | ret => cases hd; exact hK a1 w1 H
      | exit i =>
        simp only at hd
        simp only [Ex.to, Exit.inBlock]
        by_cases hi : i = id
        · rw [if_pos hi] at hd ⊢
          cases hd; exact hK a1 w1 H
        · rw [if_neg hi] at hd ⊢
          cases hd; exact hK a1 w1 H
  | loop b ih =>
    intro Q ρ F w e a h x e' h' hd hy hr hs hK
    simp only [codeD] at hd
    exact wpIn_loop_rounds L (iter_sound (fun Q ρ F w e a h x e' h' => ih Q ρ F w e a h x e' h') L hd hy hr hs hK)
  | scope b ih =>
    intro Q ρ F w e a h x e' h' hd hy hr hs hK
    simp only [codeD] at hd
    refine wpIn_scope (ih _ ρ F w e a h x e' h' hd hy hr hs fun a' w' H => ?_)
    cases x <;> exact hK a' w' H
end
end Go.D
